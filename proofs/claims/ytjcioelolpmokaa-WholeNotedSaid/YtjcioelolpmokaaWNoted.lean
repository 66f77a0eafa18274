/- The walk of WholeNoted. -/
import Derived.Test.YtjcioelolpmokaaNotedPlain
import Derived.Test.YtjcioelolpmokaaWMay
import Derived.Deep.LoopGhost
namespace Go.Proofs.Ytjcioelolpmokaa
set_option maxRecDepth 4000
set_option linter.unusedVariables false
set_option linter.unusedSimpArgs false
open Go Go.RowKit Go.MapKept Go.ChangeMaps
/-- a number that is noted, and how the power goes by that -/
structure Nt where
  n : Nat
  f : Int
  a : Int
  k : Bool
def Nt.cells (t : Nt) : List Value := [.int .u64 (t.n : Int), .int .i64 t.f, .int .i64 t.a, .bool t.k]
structure Nt.Ok (t : Nt) : Prop where
  n : t.n < 18446744073709551616
  f : -9223372036854775808 ≤ t.f ∧ t.f ≤ 9223372036854775807
  a : -9223372036854775808 ≤ t.a ∧ t.a ≤ 9223372036854775807
abbrev NtsAt (w : World) (p : Option Addr) (ts : List Nt) : Prop := RowsAt 4 Nt.cells Nt.Ok w p ts
theorem fresh_q : nextQ (freshD 2).looked = 1 := by decide +kernel
theorem fresh_w : (freshD 2).writeE = 0 := by decide +kernel
def firstB : List UInt8 := bytesM (newM 1 [5])
def firstD : DS := ((freshD 2).put 1 firstB).flushed
theorem fresh_put : (freshD 2).putR [5] = ((newM 1 [5], 0), firstD) := by
  unfold DS.putR
  simp only [fresh_q, fresh_w, if_true]
  rfl
theorem first_inv : NInv firstD 1 where
  n := rfl
  down := rfl
  pend := rfl
  len i hi := by
    rcases (show i = 0 ∨ i = 1 by omega) with rfl | rfl
    · rfl
    · exact bytesM_length _
  top := by decide +kernel
  pos := by decide +kernel
  good := Or.inl (by decide +kernel)
theorem first_5 : firstD.looked.1 1 = 5 := by decide +kernel
theorem fresh_top : (freshD 2).looked.2 < 4611686018427387904 := by decide +kernel
theorem readM_lt (b : List UInt8) (i : Nat) : (readM b).1 i < 18446744073709551616 := by
  unfold readM
  split
  · exact numU_lt b (8 * i) 8
  · exact (by decide : (0 : Nat) < 18446744073709551616)
theorem looked_lt (s : DS) (i : Nat) : s.looked.1 i < 18446744073709551616 := by
  unfold DS.looked
  rcases look_sel (s.readB 0) (s.readB 1) with ⟨_, _, h⟩ | ⟨_, _, h⟩ | ⟨_, _, h⟩ <;> rw [h]
  · exact readM_lt _ _
  · exact readM_lt _ _
  · exact (by decide : (0 : Nat) < 18446744073709551616)
def WnRel (w : World) (d len : Nat) (v m : Value) (wr : World) : Prop :=
  ∃ (i : Nat) (s : DS) (mb : Nat), i ≤ len ∧ v = .int .i64 i ∧ m = .map (some mb) ∧ NInv s (1 + 2 * i) ∧ dkH w wr d s [mayA mb [s.looked.1 1]]
theorem ints_at {W : World} {p : Option Addr} {n c : Nat} {zs : List Int} (h : W.ownsRow 0 3 1 (.slice p n c) n (ints zs)) : NumsAt .i64 W p zs := by
  intro i hi
  have hx : (ints zs)[i]? = some (.int .i64 (zs.getD i 0)) := by
    rw [ints, List.getElem?_map, List.getElem?_eq_getElem hi, List.getD_eq_getElem?_getD, List.getElem?_eq_getElem hi]; rfl
  obtain ⟨g, rfl, hc⟩ := row_at h hx
  refine ⟨⟨g, 0, none⟩, rfl, ?_, by rw [Go.WideShapes.add_plain, Nat.zero_add]; exact hc⟩
  rcases h.2 with ⟨hv, _⟩ | ⟨g', cap, cur, hv, _, hg, _⟩
  · cases hv
  · injection hv with e _ _
    injection e with e
    injection e with e _ _
    subst e
    exact (Array.getElem?_eq_some_iff.1 hg).1
theorem dk_may_put {w W : World} {d : Nat} {s : DS} {g : Nat} {l : List Nat} {ps : List Asr} (h : dkH w W d s (mayA g l :: ps)) (hl : Locs ps) (n : Nat) :
    ∃ W', (Instr.mapUpdate 33 (.map (some g)) (.int .u64 (n : Int)) (.bool true)).run Try.prog W = .ok () W' ∧ dkH w W' d s (mayA g (n :: l) :: ps) := by
  obtain ⟨h0, r, h1, h2⟩ := h
  obtain ⟨W', hr, h3⟩ := may_put h2.front ((r.things_locs d s).append hl) n
  exact ⟨W', hr, h0, r, h1, h3.back⟩
set_option maxRecDepth 100000 in
set_option maxHeartbeats 40000000 in
theorem noted_any (w : World) (p : Option Addr) (c : Nat) (ts : List Nt) (hT : NtsAt w p ts) :
    Calls Try.prog 3 #[.slice p ts.length c] w fun e w' => e = .returned (.bool true) ∧ Ext w w' := by
  have hmm := @run_makeMap Try.prog
  go_enter Try.func3, Try.ntmps3
  go_wp2_with fail
  refine (new_any (Has.nil (Ext.refl w)) .nil 2 (by omega) (by omega)).mono ?_
  rintro e w1 ⟨d, rfl, h1⟩
  go_upto_region 4 with fail
  have h2 := h1.fresh .nil (ext_alloc w1 (.cells #[.int .u64 5] 27)) (World.ownsRow_lit (size := 1) w1 #[.int .u64 5] 1 (Nat.le_refl _) (by unfold maxLen; omega) rfl)
  clear h1
  go_wp2_with fail
  refine (put_any h2 (.cons (rowA_loc _ _ _ _ _) .nil) (by decide) rfl [5] (by decide) (by decide) (by decide) fresh_top (pw := ⟨w1.heap.size, 0, none⟩) (cw := 1) (by simp [us])).mono ?_
  clear h2
  rintro e w2 ⟨rfl, h3⟩
  rw [fresh_put] at h3 ⊢
  have h4 := h3.drop
  clear h3
  obtain ⟨M, hM⟩ : ∃ M, newM 1 [5] = M := ⟨_, rfl⟩
  have hM1 : M 1 = 5 := by rw [← hM]; rfl
  rw [hM]
  clear hM
  simp only [mkA]
  rw [hM1]
  clear hM1
  have h5 := h4.new .nil 30 #[.int .u64 (M 0), .int .u64 ((5 : Nat) : Int), .int .u64 (M 2), .int .u64 (M 3), .int .u64 (M 4), .int .u64 (M 5), .int .u64 (M 6)]
  clear h4
  go_upto_region 5 with fail
  refine gen_world' (fun X => dkH w X d firstD [blkA w2.heap.size 30 #[.int .u64 (M 0), .int .u64 ((5 : Nat) : Int), .int .u64 (M 2), .int .u64 (M 3), .int .u64 (M 4), .int .u64 (M 5), .int .u64 (M 6)]]) h5 ?_
  clear h5
  generalize w2.heap.size = gm at *
  intro w3 h5
  have c1 : w3.cell? ⟨gm, 1, none⟩ = some (.int .u64 5) := h5.rest.blk0.cell 1
  have hE := h5.rest.base
  by_cases g1 : (20 : Int) < ts.length
  · go_wp2_with fail
    go_ret
    exact ⟨rfl, hE⟩
  obtain ⟨len, hlen⟩ : ∃ n, ts.length = n := ⟨_, rfl⟩
  rw [hlen] at g1 ⊢
  have HLEN := Lib.hid hlen
  clear hlen hE
  have hl20 : len ≤ 20 := by omega
  go_upto_region 9 with fail
  have h6 : dkH w w3 d firstD [] := h5.drop
  clear h5 c1
  have h7 := h6.with_ (fun hl h => h.may hl) .nil
  clear h6
  obtain ⟨w4, hrun, h8⟩ := dk_may_put h7 .nil 5
  have hrun5 : (Instr.mapUpdate 33 (.map (some w3.heap.size)) (.int .u64 5) (.bool true)).run Try.prog (w3.alloc (.map #[] 0)) = .ok () w4 := hrun
  clear hrun h7
  go_upto_region 10 with fail
  clear hrun5
  generalize w3.heap.size = mb at *
  go_wp2_with fail
  go_loopw [43, 7] (fun v m wr => WnRel w d len v m wr) (fun v _ _ => ((len : Int) + 1 - intOf v).toNat)
  case atStart => exact ⟨0, firstD, mb, Nat.zero_le _, rfl, rfl, first_inv, by rw [first_5]; exact h8⟩
  case round =>
    clear h8
    obtain ⟨i, s, mb, hi, rfl, rfl, hI, h8⟩ := hrel
    by_cases gi : (i : Int) < len
    · obtain ⟨pb, po, rfl, hpb, hcells, hok⟩ := hT i (by rw [HLEN.out]; omega)
      have hEb := h8.base
      have x0 := (hEb.cell pb _ hpb).trans (hcells 0 (by omega))
      have x1 := (hEb.cell pb _ hpb).trans (hcells 1 (by omega))
      have x2 := (hEb.cell pb _ hpb).trans (hcells 2 (by omega))
      have x3 := (hEb.cell pb _ hpb).trans (hcells 3 (by omega))
      clear hcells hEb hpb
      generalize ts[i]'(by rw [HLEN.out]; omega) = o at *
      obtain ⟨x, f, z, kp⟩ := o
      simp only [Nt.cells, List.getElem?_cons_zero, List.getElem?_cons_succ] at x0 x1 x2 x3
      simp only [← Nat.add_assoc, Nat.add_zero] at x0 x1 x2 x3
      have hx64 : x < 18446744073709551616 := hok.n
      have hf1 : -9223372036854775808 ≤ f := hok.f.1
      have hf2 : f ≤ 9223372036854775807 := hok.f.2
      have hz1 : -9223372036854775808 ≤ z := hok.a.1
      have hz2 : z ≤ 9223372036854775807 := hok.a.2
      clear hok
      go_upto_region 13 with fail
      have h9 := h8.new (.cons (mayA_loc _ _) .nil) 35 #[.int .u64 (x : Int), .int .i64 f, .int .i64 z, .bool kp]
      clear h8 x0 x1 x2 x3
      refine gen_world' (fun X => dkH w X d s [blkA wr.heap.size 35 #[.int .u64 (x : Int), .int .i64 f, .int .i64 z, .bool kp], mayA mb [s.looked.1 1]]) h9 ?_
      clear h9
      generalize wr.heap.size = gn at *
      intro w5 h9
      have LN : Locs [blkA gn 35 #[.int .u64 (x : Int), .int .i64 f, .int .i64 z, .bool kp], mayA mb [s.looked.1 1]] := .cons (blkA_loc _ _ _) (.cons (mayA_loc _ _) .nil)
      have n0 : World.cell? w5 ⟨gn, 0, none⟩ = some (.int .u64 (x : Int)) := (Has.blk0 (h9).rest).cell 0
      have n1 : World.cell? w5 ⟨gn, 1, none⟩ = some (.int .i64 f) := (Has.blk0 (h9).rest).cell 1
      have n2 : World.cell? w5 ⟨gn, 2, none⟩ = some (.int .i64 z) := (Has.blk0 (h9).rest).cell 2
      have n3 : World.cell? w5 ⟨gn, 3, none⟩ = some (.bool kp) := (Has.blk0 (h9).rest).cell 3
      go_wp2_with fail
      refine (fuse_any h9 LN f hf1 hf2).mono ?_
      clear n0 n1 n2 n3 h9
      rintro e w6 ⟨rfl, h10⟩
      obtain ⟨sA, hA⟩ : ∃ sA, s.setF s.down (max f (-1)) = sA := ⟨_, rfl⟩
      rw [hA] at h10
      have aN : sA.n = 2 := by rw [← hA]; exact hI.n
      have aD : sA.down = false := by rw [← hA]; exact hI.down
      have aT : sA.looked.2 < 4611686018427387904 := by
        rw [← hA, DS.looked_setF]
        have := hI.top
        omega
      have hy64 : x ^^^ 1 < 18446744073709551616 := Nat.xor_lt_two_pow (n := 64) (by omega) (by omega)
      obtain ⟨y, hy⟩ : ∃ y, x ^^^ 1 = y := ⟨_, rfl⟩
      rw [hy] at hy64
      have hxor : bits .xor .u64 (x : Int) 1 = (y : Int) := by rw [← hy]; exact xor_nat_u64 x 1 hx64 (by omega)
      have HRD := Lib.hid (noted_round hI (by omega) f x y hx64 hy64 hy.symm kp z)
      have HY := Lib.hid hy
      have HA := Lib.hid hA
      clear hy hA
      have n0 : World.cell? w6 ⟨gn, 0, none⟩ = some (.int .u64 (x : Int)) := (Has.blk0 (h10).rest).cell 0
      have n1 : World.cell? w6 ⟨gn, 1, none⟩ = some (.int .i64 f) := (Has.blk0 (h10).rest).cell 1
      have n2 : World.cell? w6 ⟨gn, 2, none⟩ = some (.int .i64 z) := (Has.blk0 (h10).rest).cell 2
      have n3 : World.cell? w6 ⟨gn, 3, none⟩ = some (.bool kp) := (Has.blk0 (h10).rest).cell 3
      go_wp2_with fail
      have h11 := h10.fresh LN (ext_alloc w6 (.cells #[.int .u64 (x : Int), .int .u64 (y : Int)] 27)) (World.ownsRow_lit (size := 1) w6 #[.int .u64 (x : Int), .int .u64 (y : Int)] 2 (Nat.le_refl _) (by unfold maxLen; omega) rfl)
      have hws : ∀ v ∈ [x, y], v < 18446744073709551616 := by
        intro v hv
        simp at hv
        rcases hv with rfl | rfl
        · exact hx64
        · exact hy64
      clear n0 n1 n2 n3 h10
      refine (put_any h11 (.cons (rowA_loc _ _ _ _ _) LN) (by omega) aD [x, y] (by simp) (by simp) hws aT (pw := ⟨w6.heap.size, 0, none⟩) (cw := 2) (by simp [us])).mono ?_
      clear h11 hxor
      rintro e w7 ⟨rfl, h12⟩
      have h13 := h12.drop
      clear h12
      obtain ⟨sB, hB⟩ : ∃ sB, (sA.putR [x, y]).2 = sB := ⟨_, rfl⟩
      obtain ⟨pe, hpe⟩ : ∃ pe, (sA.putR [x, y]).1.2 = pe := ⟨_, rfl⟩
      obtain ⟨pM, hpM⟩ : ∃ pM, (sA.putR [x, y]).1.1 = pM := ⟨_, rfl⟩
      rw [hB] at h13
      rw [hpe, hpM]
      have HB := Lib.hid hB
      have HPE := Lib.hid hpe
      clear hB hpe hpM
      have h14 := h13.new LN 30 (mkA pM)
      clear h13
      simp only [mkA]
      go_upto_region 15 with fail
      refine gen_world' (fun X => dkH w X d sB [blkA w7.heap.size 30 (mkA pM), blkA gn 35 #[.int .u64 (x : Int), .int .i64 f, .int .i64 z, .bool kp], mayA mb [s.looked.1 1]]) h14 ?_
      clear h14
      intro w8 h14
      have h15 := h14.drop
      clear h14
      generalize w7.heap.size = gm2 at *
      by_cases hp0 : pe = 0
      · have hq : (pe == 0) = true := by simpa using hp0
        have h16 := h15.with_ (fun hl h => h.may hl) LN
        have HP0 := Lib.hid hp0
        clear hp0
        go_upto_region 17 with fail
        refine gen_world' (fun X => dkH w X d sB [mayA w8.heap.size [], blkA gn 35 #[.int .u64 (x : Int), .int .i64 f, .int .i64 z, .bool kp], mayA mb [s.looked.1 1]]) h16 ?_
        clear h16 h15
        generalize w8.heap.size = mb2 at *
        intro w9 h16
        replace h16 : dkH w w9 d sB [mayA mb2 [], blkA gn 35 #[.int .u64 (x : Int), .int .i64 f, .int .i64 z, .bool kp]] := (h16.perm (List.perm_append_comm (l₁ := [mayA mb2 [], blkA gn 35 #[.int .u64 (x : Int), .int .i64 f, .int .i64 z, .bool kp]]) (l₂ := [mayA mb [s.looked.1 1]]))).drop
        have HMAY : Hid (∀ v, (v = x ∨ v = s.looked.1 1) → (pe = 0 → v = x) → ([x] : List Nat).contains v = true) := Lib.hid fun v _ h2 => by rw [h2 HP0.out]; simp
        clear hq
        have LM : Locs [mayA mb2 [], blkA gn 35 #[.int .u64 (x : Int), .int .i64 f, .int .i64 z, .bool kp]] := .cons (mayA_loc _ _) (.cons (blkA_loc _ _ _) .nil)
        have n0 : World.cell? w9 ⟨gn, 0, none⟩ = some (.int .u64 (x : Int)) := (Has.blk0 h16.rest.drop).cell 0
        obtain ⟨w10, hrun, h17⟩ := dk_may_put h16 (.cons (blkA_loc _ _ _) .nil) x
        have LX : Locs [mayA mb2 (x :: []), blkA gn 35 #[.int .u64 (x : Int), .int .i64 f, .int .i64 z, .bool kp]] := .cons (mayA_loc _ _) (.cons (blkA_loc _ _ _) .nil)
        clear h16 LM
        go_upto_region 18 with fail
        clear hrun n0
        go_wp2_with fail
        refine (pending_any h17 LX).mono ?_
        clear h17
        rintro e w11 ⟨pl, cl, rfl, h18⟩
        obtain ⟨zl, hzl⟩ : ∃ zl, sB.pendL = zl := ⟨_, rfl⟩
        rw [hzl] at h18
        rw [hzl]
        have HZL := Lib.hid hzl
        clear hzl
        have hrow := (Has.owned h18.rest (e := 3) (size := 1) (v := .slice pl zl.length cl) (n := zl.length) (xs := ints zl) (by simp)).1
        have LR : Locs [rowA 3 1 (.slice pl zl.length cl) zl.length (ints zl), mayA mb2 (x :: []), blkA gn 35 #[.int .u64 (x : Int), .int .i64 f, .int .i64 z, .bool kp]] := .cons (rowA_loc _ _ _ _ _) LX
        have n2 : World.cell? w11 ⟨gn, 2, none⟩ = some (.int .i64 z) := (Has.blk0 h18.rest.drop.drop).cell 2
        have n3 : World.cell? w11 ⟨gn, 3, none⟩ = some (.bool kp) := (Has.blk0 h18.rest.drop.drop).cell 3
        have hzl4 : zl.length ≤ maxLen := by
          have := HZL.out
          rw [← this]
          unfold DS.pendL
          rw [List.length_map]
          have h1 := List.length_filter_le (fun i => (sB.pend i).isSome) (List.range sB.n)
          rw [List.length_range] at h1
          have h2 := h18.1.n
          unfold maxLen; omega
        have HZ4 := Lib.hid hzl4
        clear hzl4
        cases zl with
        | nil =>
          cases kp with
          | true => clear hrow
                    go_upto_region 24 with fail
                    go_wp2_with fail
                    refine (crash_any h18 LR pl cl [] ((-1)) z (fun _ _ i hi => absurd hi (Nat.not_lt_zero i)) (by first | exact Nat.zero_le _ | exact HZ4.out)).mono ?_
                    clear h18 n2 n3
                    rintro e w12 ⟨rfl, h19⟩
                    obtain ⟨sC, hC⟩ : ∃ sC, sB.crashS [] ((-1)) z = sC := ⟨_, rfl⟩
                    rw [hC] at h19
                    have HC := Lib.hid hC
                    clear hC
                    have h20 := h19.drop
                    clear h19
                    go_upto_region 25 with fail
                    go_wp2_with fail
                    refine (up_any h20 LX).mono ?_
                    clear h20
                    rintro e w13 ⟨rfl, h21⟩
                    obtain ⟨sD, hD⟩ : ∃ sD, sC.upS = sD := ⟨_, rfl⟩
                    rw [hD] at h21
                    have hrd := HRD.out
                    rw [show s.round f [x, y] true z = sD by unfold DS.round; simp only [HA.out, HB.out, HZL.out]; rw [← hD, ← HC.out]; rfl, HA.out, HPE.out] at hrd
                    obtain ⟨r1, r2, r3⟩ := hrd
                    have hct0 : (x :: [] : List Nat).contains (sD.looked.1 1) = true := HMAY.out _ r3 r2
                    have HR1 := Lib.hid r1
                    have hrn := r1.n
                    have hrdn := r1.down
                    have hgm : getM sD.looked = (sD.looked.1, 0) := by unfold getM; rw [if_neg (by have := r1.pos; omega)]
                    have hgood := r1.good
                    clear hD r1 r2 r3
                    go_upto_region 26 with fail
                    go_wp2_with fail
                    refine (get_any h21 LX (by omega) hrdn).mono ?_
                    clear h21
                    rintro e w14 ⟨rfl, h22⟩
                    rw [hgm]
                    clear hgm
                    obtain ⟨M, hM⟩ : ∃ M, sD.looked.1 = M := ⟨_, rfl⟩
                    rw [hM] at hgood hct0 ⊢
                    have HM := Lib.hid hM
                    clear hM
                    have h23 := h22.new LX 30 (mkA M)
                    clear h22
                    simp only [mkA]
                    go_upto_region 27 with fail
                    refine gen_world' (fun X => dkH w X d sD [blkA w14.heap.size 30 (mkA M), mayA mb2 (x :: []), blkA gn 35 #[.int .u64 (x : Int), .int .i64 f, .int .i64 z, .bool true]]) h23 ?_
                    clear h23
                    generalize w14.heap.size = gm3 at *
                    intro w15 h23
                    have m1 : World.cell? w15 ⟨gm3, 1, none⟩ = some (.int .u64 (M 1 : Int)) := h23.rest.blk0.cell 1
                    have m2 : World.cell? w15 ⟨gm3, 2, none⟩ = some (.int .u64 (M 2 : Int)) := h23.rest.blk0.cell 2
                    obtain ⟨F, hF⟩ := h23.rest.drop.head
                    have hlk := may_look hF (M 1)
                    rw [hct0] at hlk
                    clear hF hct0
                    obtain ⟨v, hv⟩ : ∃ v, M 1 = v := ⟨_, rfl⟩
                    obtain ⟨v2, hv2⟩ : ∃ v2, M 2 = v2 := ⟨_, rfl⟩
                    rw [hv] at m1 hlk hgood
                    rw [hv2] at m2 hgood
                    have HV := Lib.hid hv
                    clear hv hv2
                    by_cases hg5 : v = 5
                    · clear hgood
                      subst hg5
                      replace m1 : World.cell? w15 ⟨gm3, 1, none⟩ = some (.int .u64 5) := m1
                      replace hlk : (Instr.lookup 33 (.map (some mb2)) (.int .u64 5) false).run Try.prog w15 = .ok (.bool true) w15 := hlk
                      go_upto_region 29 with fail
                      clear hlk
                      have h24 : dkH w w15 d sD [blkA gm3 30 (mkA M)] := ((h23.perm (List.perm_append_comm (l₁ := [blkA gm3 30 (mkA M)]) (l₂ := [mayA mb2 (x :: []), blkA gn 35 #[.int .u64 (x : Int), .int .i64 f, .int .i64 z, .bool true]]))).drop).drop
                      have h25 := h24.with_ (fun hl h => h.may hl) (.cons (blkA_loc _ _ _) .nil)
                      obtain ⟨w16, hrun, h26⟩ := dk_may_put h25 (.cons (blkA_loc _ _ _) .nil) 5
                      have hrunI : (Instr.mapUpdate 33 (.map (some w15.heap.size)) (.int .u64 5) (.bool true)).run Try.prog (w15.alloc (.map #[] 0)) = .ok () w16 := hrun
                      have m9 : World.cell? (w15.alloc (.map #[] 0)) ⟨gm3, 1, none⟩ = some (.int .u64 5) := (show _ = some (.int .u64 ((M 1 : Nat) : Int)) from h25.rest.drop.blk0.cell 1).trans (by rw [HV.out]; try rfl)
                      clear hrun h23 h24 h25
                      go_upto_region 30 with fail
                      clear hrunI
                      have h27 : dkH w w16 d sD [mayA w15.heap.size [5]] := (h26.perm (List.Perm.swap _ _ _)).drop
                      clear h26
                      go_wp2_with fail
                      refine ⟨⟨i + 1, sD, w15.heap.size, by omega, by go_num, rfl, by rw [show 1 + 2 * (i + 1) = 1 + 2 * i + 2 by omega]; exact HR1.out, ?_⟩, by simp [intOf]; omega⟩
                      rw [HM.out, HV.out]
                      exact h27
                    · have hq5 : ¬ (v : Int) = 5 := by omega
                      have hv64 : v < 18446744073709551616 := by rw [← HV.out, ← HM.out]; exact looked_lt sD 1
                      have hxv : bits .xor .u64 (v : Int) 1 = (v2 : Int) := by rw [hgood.resolve_left hg5]; exact xor_nat_u64 v 1 hv64 (by omega)
                      clear hgood hg5 hv64
                      go_upto_region 29 with fail
                      clear hlk
                      have h24 : dkH w w15 d sD [blkA gm3 30 (mkA M)] := ((h23.perm (List.perm_append_comm (l₁ := [blkA gm3 30 (mkA M)]) (l₂ := [mayA mb2 (x :: []), blkA gn 35 #[.int .u64 (x : Int), .int .i64 f, .int .i64 z, .bool true]]))).drop).drop
                      have h25 := h24.with_ (fun hl h => h.may hl) (.cons (blkA_loc _ _ _) .nil)
                      obtain ⟨w16, hrun, h26⟩ := dk_may_put h25 (.cons (blkA_loc _ _ _) .nil) v
                      have hrunI : (Instr.mapUpdate 33 (.map (some w15.heap.size)) (.int .u64 (v : Int)) (.bool true)).run Try.prog (w15.alloc (.map #[] 0)) = .ok () w16 := hrun
                      have m9 : World.cell? (w15.alloc (.map #[] 0)) ⟨gm3, 1, none⟩ = some (.int .u64 (v : Int)) := (show _ = some (.int .u64 ((M 1 : Nat) : Int)) from h25.rest.drop.blk0.cell 1).trans (by rw [HV.out]; try rfl)
                      clear hrun h23 h24 h25
                      go_upto_region 30 with fail
                      clear hrunI
                      have h27 : dkH w w16 d sD [mayA w15.heap.size [v]] := (h26.perm (List.Perm.swap _ _ _)).drop
                      clear h26
                      go_wp2_with fail
                      refine ⟨⟨i + 1, sD, w15.heap.size, by omega, by go_num, rfl, by rw [show 1 + 2 * (i + 1) = 1 + 2 * i + 2 by omega]; exact HR1.out, ?_⟩, by simp [intOf]; omega⟩
                      rw [HM.out, HV.out]
                      exact h27
          | false => clear hrow
                     go_upto_region 24 with fail
                     go_wp2_with fail
                     refine (crash_any h18 LR (none : Option Addr) 0 [] ((-1)) z (fun _ _ i hi => absurd hi (Nat.not_lt_zero i)) (by first | exact Nat.zero_le _ | exact HZ4.out)).mono ?_
                     clear h18 n2 n3
                     rintro e w12 ⟨rfl, h19⟩
                     obtain ⟨sC, hC⟩ : ∃ sC, sB.crashS [] ((-1)) z = sC := ⟨_, rfl⟩
                     rw [hC] at h19
                     have HC := Lib.hid hC
                     clear hC
                     have h20 := h19.drop
                     clear h19
                     go_upto_region 25 with fail
                     go_wp2_with fail
                     refine (up_any h20 LX).mono ?_
                     clear h20
                     rintro e w13 ⟨rfl, h21⟩
                     obtain ⟨sD, hD⟩ : ∃ sD, sC.upS = sD := ⟨_, rfl⟩
                     rw [hD] at h21
                     have hrd := HRD.out
                     rw [show s.round f [x, y] false z = sD by unfold DS.round; simp only [HA.out, HB.out, HZL.out]; rw [← hD, ← HC.out]; rfl, HA.out, HPE.out] at hrd
                     obtain ⟨r1, r2, r3⟩ := hrd
                     have hct0 : (x :: [] : List Nat).contains (sD.looked.1 1) = true := HMAY.out _ r3 r2
                     have HR1 := Lib.hid r1
                     have hrn := r1.n
                     have hrdn := r1.down
                     have hgm : getM sD.looked = (sD.looked.1, 0) := by unfold getM; rw [if_neg (by have := r1.pos; omega)]
                     have hgood := r1.good
                     clear hD r1 r2 r3
                     go_upto_region 26 with fail
                     go_wp2_with fail
                     refine (get_any h21 LX (by omega) hrdn).mono ?_
                     clear h21
                     rintro e w14 ⟨rfl, h22⟩
                     rw [hgm]
                     clear hgm
                     obtain ⟨M, hM⟩ : ∃ M, sD.looked.1 = M := ⟨_, rfl⟩
                     rw [hM] at hgood hct0 ⊢
                     have HM := Lib.hid hM
                     clear hM
                     have h23 := h22.new LX 30 (mkA M)
                     clear h22
                     simp only [mkA]
                     go_upto_region 27 with fail
                     refine gen_world' (fun X => dkH w X d sD [blkA w14.heap.size 30 (mkA M), mayA mb2 (x :: []), blkA gn 35 #[.int .u64 (x : Int), .int .i64 f, .int .i64 z, .bool false]]) h23 ?_
                     clear h23
                     generalize w14.heap.size = gm3 at *
                     intro w15 h23
                     have m1 : World.cell? w15 ⟨gm3, 1, none⟩ = some (.int .u64 (M 1 : Int)) := h23.rest.blk0.cell 1
                     have m2 : World.cell? w15 ⟨gm3, 2, none⟩ = some (.int .u64 (M 2 : Int)) := h23.rest.blk0.cell 2
                     obtain ⟨F, hF⟩ := h23.rest.drop.head
                     have hlk := may_look hF (M 1)
                     rw [hct0] at hlk
                     clear hF hct0
                     obtain ⟨v, hv⟩ : ∃ v, M 1 = v := ⟨_, rfl⟩
                     obtain ⟨v2, hv2⟩ : ∃ v2, M 2 = v2 := ⟨_, rfl⟩
                     rw [hv] at m1 hlk hgood
                     rw [hv2] at m2 hgood
                     have HV := Lib.hid hv
                     clear hv hv2
                     by_cases hg5 : v = 5
                     · clear hgood
                       subst hg5
                       replace m1 : World.cell? w15 ⟨gm3, 1, none⟩ = some (.int .u64 5) := m1
                       replace hlk : (Instr.lookup 33 (.map (some mb2)) (.int .u64 5) false).run Try.prog w15 = .ok (.bool true) w15 := hlk
                       go_upto_region 29 with fail
                       clear hlk
                       have h24 : dkH w w15 d sD [blkA gm3 30 (mkA M)] := ((h23.perm (List.perm_append_comm (l₁ := [blkA gm3 30 (mkA M)]) (l₂ := [mayA mb2 (x :: []), blkA gn 35 #[.int .u64 (x : Int), .int .i64 f, .int .i64 z, .bool false]]))).drop).drop
                       have h25 := h24.with_ (fun hl h => h.may hl) (.cons (blkA_loc _ _ _) .nil)
                       obtain ⟨w16, hrun, h26⟩ := dk_may_put h25 (.cons (blkA_loc _ _ _) .nil) 5
                       have hrunI : (Instr.mapUpdate 33 (.map (some w15.heap.size)) (.int .u64 5) (.bool true)).run Try.prog (w15.alloc (.map #[] 0)) = .ok () w16 := hrun
                       have m9 : World.cell? (w15.alloc (.map #[] 0)) ⟨gm3, 1, none⟩ = some (.int .u64 5) := (show _ = some (.int .u64 ((M 1 : Nat) : Int)) from h25.rest.drop.blk0.cell 1).trans (by rw [HV.out]; try rfl)
                       clear hrun h23 h24 h25
                       go_upto_region 30 with fail
                       clear hrunI
                       have h27 : dkH w w16 d sD [mayA w15.heap.size [5]] := (h26.perm (List.Perm.swap _ _ _)).drop
                       clear h26
                       go_wp2_with fail
                       refine ⟨⟨i + 1, sD, w15.heap.size, by omega, by go_num, rfl, by rw [show 1 + 2 * (i + 1) = 1 + 2 * i + 2 by omega]; exact HR1.out, ?_⟩, by simp [intOf]; omega⟩
                       rw [HM.out, HV.out]
                       exact h27
                     · have hq5 : ¬ (v : Int) = 5 := by omega
                       have hv64 : v < 18446744073709551616 := by rw [← HV.out, ← HM.out]; exact looked_lt sD 1
                       have hxv : bits .xor .u64 (v : Int) 1 = (v2 : Int) := by rw [hgood.resolve_left hg5]; exact xor_nat_u64 v 1 hv64 (by omega)
                       clear hgood hg5 hv64
                       go_upto_region 29 with fail
                       clear hlk
                       have h24 : dkH w w15 d sD [blkA gm3 30 (mkA M)] := ((h23.perm (List.perm_append_comm (l₁ := [blkA gm3 30 (mkA M)]) (l₂ := [mayA mb2 (x :: []), blkA gn 35 #[.int .u64 (x : Int), .int .i64 f, .int .i64 z, .bool false]]))).drop).drop
                       have h25 := h24.with_ (fun hl h => h.may hl) (.cons (blkA_loc _ _ _) .nil)
                       obtain ⟨w16, hrun, h26⟩ := dk_may_put h25 (.cons (blkA_loc _ _ _) .nil) v
                       have hrunI : (Instr.mapUpdate 33 (.map (some w15.heap.size)) (.int .u64 (v : Int)) (.bool true)).run Try.prog (w15.alloc (.map #[] 0)) = .ok () w16 := hrun
                       have m9 : World.cell? (w15.alloc (.map #[] 0)) ⟨gm3, 1, none⟩ = some (.int .u64 (v : Int)) := (show _ = some (.int .u64 ((M 1 : Nat) : Int)) from h25.rest.drop.blk0.cell 1).trans (by rw [HV.out]; try rfl)
                       clear hrun h23 h24 h25
                       go_upto_region 30 with fail
                       clear hrunI
                       have h27 : dkH w w16 d sD [mayA w15.heap.size [v]] := (h26.perm (List.Perm.swap _ _ _)).drop
                       clear h26
                       go_wp2_with fail
                       refine ⟨⟨i + 1, sD, w15.heap.size, by omega, by go_num, rfl, by rw [show 1 + 2 * (i + 1) = 1 + 2 * i + 2 by omega]; exact HR1.out, ?_⟩, by simp [intOf]; omega⟩
                       rw [HM.out, HV.out]
                       exact h27
        | cons t r =>
          have hx : (ints (t :: r))[0]? = some (.int .i64 t) := rfl
          obtain ⟨gp, rfl, hct⟩ := row_at hrow hx
          clear hx
          have hlz : (0 : Int) < ((t :: r).length : Int) := by rw [List.length_cons]; omega
          cases kp with
          | true => clear hrow
                    go_upto_region 24 with fail
                    go_wp2_with fail
                    refine (crash_any h18 LR (some ⟨gp, 0, none⟩) cl (t :: r) (t) z (fun X hX => ints_at (Has.owned hX (e := 3) (size := 1) (v := .slice (some ⟨gp, 0, none⟩) (t :: r).length cl) (n := (t :: r).length) (xs := ints (t :: r)) (by simp)).1) (by first | exact Nat.zero_le _ | exact HZ4.out)).mono ?_
                    clear h18 n2 n3
                    rintro e w12 ⟨rfl, h19⟩
                    obtain ⟨sC, hC⟩ : ∃ sC, sB.crashS (t :: r) (t) z = sC := ⟨_, rfl⟩
                    rw [hC] at h19
                    have HC := Lib.hid hC
                    clear hC
                    have h20 := h19.drop
                    clear h19
                    go_upto_region 25 with fail
                    go_wp2_with fail
                    refine (up_any h20 LX).mono ?_
                    clear h20
                    rintro e w13 ⟨rfl, h21⟩
                    obtain ⟨sD, hD⟩ : ∃ sD, sC.upS = sD := ⟨_, rfl⟩
                    rw [hD] at h21
                    have hrd := HRD.out
                    rw [show s.round f [x, y] true z = sD by unfold DS.round; simp only [HA.out, HB.out, HZL.out]; rw [← hD, ← HC.out]; rfl, HA.out, HPE.out] at hrd
                    obtain ⟨r1, r2, r3⟩ := hrd
                    have hct0 : (x :: [] : List Nat).contains (sD.looked.1 1) = true := HMAY.out _ r3 r2
                    have HR1 := Lib.hid r1
                    have hrn := r1.n
                    have hrdn := r1.down
                    have hgm : getM sD.looked = (sD.looked.1, 0) := by unfold getM; rw [if_neg (by have := r1.pos; omega)]
                    have hgood := r1.good
                    clear hD r1 r2 r3
                    go_upto_region 26 with fail
                    go_wp2_with fail
                    refine (get_any h21 LX (by omega) hrdn).mono ?_
                    clear h21
                    rintro e w14 ⟨rfl, h22⟩
                    rw [hgm]
                    clear hgm
                    obtain ⟨M, hM⟩ : ∃ M, sD.looked.1 = M := ⟨_, rfl⟩
                    rw [hM] at hgood hct0 ⊢
                    have HM := Lib.hid hM
                    clear hM
                    have h23 := h22.new LX 30 (mkA M)
                    clear h22
                    simp only [mkA]
                    go_upto_region 27 with fail
                    refine gen_world' (fun X => dkH w X d sD [blkA w14.heap.size 30 (mkA M), mayA mb2 (x :: []), blkA gn 35 #[.int .u64 (x : Int), .int .i64 f, .int .i64 z, .bool true]]) h23 ?_
                    clear h23
                    generalize w14.heap.size = gm3 at *
                    intro w15 h23
                    have m1 : World.cell? w15 ⟨gm3, 1, none⟩ = some (.int .u64 (M 1 : Int)) := h23.rest.blk0.cell 1
                    have m2 : World.cell? w15 ⟨gm3, 2, none⟩ = some (.int .u64 (M 2 : Int)) := h23.rest.blk0.cell 2
                    obtain ⟨F, hF⟩ := h23.rest.drop.head
                    have hlk := may_look hF (M 1)
                    rw [hct0] at hlk
                    clear hF hct0
                    obtain ⟨v, hv⟩ : ∃ v, M 1 = v := ⟨_, rfl⟩
                    obtain ⟨v2, hv2⟩ : ∃ v2, M 2 = v2 := ⟨_, rfl⟩
                    rw [hv] at m1 hlk hgood
                    rw [hv2] at m2 hgood
                    have HV := Lib.hid hv
                    clear hv hv2
                    by_cases hg5 : v = 5
                    · clear hgood
                      subst hg5
                      replace m1 : World.cell? w15 ⟨gm3, 1, none⟩ = some (.int .u64 5) := m1
                      replace hlk : (Instr.lookup 33 (.map (some mb2)) (.int .u64 5) false).run Try.prog w15 = .ok (.bool true) w15 := hlk
                      go_upto_region 29 with fail
                      clear hlk
                      have h24 : dkH w w15 d sD [blkA gm3 30 (mkA M)] := ((h23.perm (List.perm_append_comm (l₁ := [blkA gm3 30 (mkA M)]) (l₂ := [mayA mb2 (x :: []), blkA gn 35 #[.int .u64 (x : Int), .int .i64 f, .int .i64 z, .bool true]]))).drop).drop
                      have h25 := h24.with_ (fun hl h => h.may hl) (.cons (blkA_loc _ _ _) .nil)
                      obtain ⟨w16, hrun, h26⟩ := dk_may_put h25 (.cons (blkA_loc _ _ _) .nil) 5
                      have hrunI : (Instr.mapUpdate 33 (.map (some w15.heap.size)) (.int .u64 5) (.bool true)).run Try.prog (w15.alloc (.map #[] 0)) = .ok () w16 := hrun
                      have m9 : World.cell? (w15.alloc (.map #[] 0)) ⟨gm3, 1, none⟩ = some (.int .u64 5) := (show _ = some (.int .u64 ((M 1 : Nat) : Int)) from h25.rest.drop.blk0.cell 1).trans (by rw [HV.out]; try rfl)
                      clear hrun h23 h24 h25
                      go_upto_region 30 with fail
                      clear hrunI
                      have h27 : dkH w w16 d sD [mayA w15.heap.size [5]] := (h26.perm (List.Perm.swap _ _ _)).drop
                      clear h26
                      go_wp2_with fail
                      refine ⟨⟨i + 1, sD, w15.heap.size, by omega, by go_num, rfl, by rw [show 1 + 2 * (i + 1) = 1 + 2 * i + 2 by omega]; exact HR1.out, ?_⟩, by simp [intOf]; omega⟩
                      rw [HM.out, HV.out]
                      exact h27
                    · have hq5 : ¬ (v : Int) = 5 := by omega
                      have hv64 : v < 18446744073709551616 := by rw [← HV.out, ← HM.out]; exact looked_lt sD 1
                      have hxv : bits .xor .u64 (v : Int) 1 = (v2 : Int) := by rw [hgood.resolve_left hg5]; exact xor_nat_u64 v 1 hv64 (by omega)
                      clear hgood hg5 hv64
                      go_upto_region 29 with fail
                      clear hlk
                      have h24 : dkH w w15 d sD [blkA gm3 30 (mkA M)] := ((h23.perm (List.perm_append_comm (l₁ := [blkA gm3 30 (mkA M)]) (l₂ := [mayA mb2 (x :: []), blkA gn 35 #[.int .u64 (x : Int), .int .i64 f, .int .i64 z, .bool true]]))).drop).drop
                      have h25 := h24.with_ (fun hl h => h.may hl) (.cons (blkA_loc _ _ _) .nil)
                      obtain ⟨w16, hrun, h26⟩ := dk_may_put h25 (.cons (blkA_loc _ _ _) .nil) v
                      have hrunI : (Instr.mapUpdate 33 (.map (some w15.heap.size)) (.int .u64 (v : Int)) (.bool true)).run Try.prog (w15.alloc (.map #[] 0)) = .ok () w16 := hrun
                      have m9 : World.cell? (w15.alloc (.map #[] 0)) ⟨gm3, 1, none⟩ = some (.int .u64 (v : Int)) := (show _ = some (.int .u64 ((M 1 : Nat) : Int)) from h25.rest.drop.blk0.cell 1).trans (by rw [HV.out]; try rfl)
                      clear hrun h23 h24 h25
                      go_upto_region 30 with fail
                      clear hrunI
                      have h27 : dkH w w16 d sD [mayA w15.heap.size [v]] := (h26.perm (List.Perm.swap _ _ _)).drop
                      clear h26
                      go_wp2_with fail
                      refine ⟨⟨i + 1, sD, w15.heap.size, by omega, by go_num, rfl, by rw [show 1 + 2 * (i + 1) = 1 + 2 * i + 2 by omega]; exact HR1.out, ?_⟩, by simp [intOf]; omega⟩
                      rw [HM.out, HV.out]
                      exact h27
          | false => clear hrow
                     go_upto_region 24 with fail
                     go_wp2_with fail
                     refine (crash_any h18 LR (none : Option Addr) 0 [] (t) z (fun _ _ i hi => absurd hi (Nat.not_lt_zero i)) (by first | exact Nat.zero_le _ | exact HZ4.out)).mono ?_
                     clear h18 n2 n3
                     rintro e w12 ⟨rfl, h19⟩
                     obtain ⟨sC, hC⟩ : ∃ sC, sB.crashS [] (t) z = sC := ⟨_, rfl⟩
                     rw [hC] at h19
                     have HC := Lib.hid hC
                     clear hC
                     have h20 := h19.drop
                     clear h19
                     go_upto_region 25 with fail
                     go_wp2_with fail
                     refine (up_any h20 LX).mono ?_
                     clear h20
                     rintro e w13 ⟨rfl, h21⟩
                     obtain ⟨sD, hD⟩ : ∃ sD, sC.upS = sD := ⟨_, rfl⟩
                     rw [hD] at h21
                     have hrd := HRD.out
                     rw [show s.round f [x, y] false z = sD by unfold DS.round; simp only [HA.out, HB.out, HZL.out]; rw [← hD, ← HC.out]; rfl, HA.out, HPE.out] at hrd
                     obtain ⟨r1, r2, r3⟩ := hrd
                     have hct0 : (x :: [] : List Nat).contains (sD.looked.1 1) = true := HMAY.out _ r3 r2
                     have HR1 := Lib.hid r1
                     have hrn := r1.n
                     have hrdn := r1.down
                     have hgm : getM sD.looked = (sD.looked.1, 0) := by unfold getM; rw [if_neg (by have := r1.pos; omega)]
                     have hgood := r1.good
                     clear hD r1 r2 r3
                     go_upto_region 26 with fail
                     go_wp2_with fail
                     refine (get_any h21 LX (by omega) hrdn).mono ?_
                     clear h21
                     rintro e w14 ⟨rfl, h22⟩
                     rw [hgm]
                     clear hgm
                     obtain ⟨M, hM⟩ : ∃ M, sD.looked.1 = M := ⟨_, rfl⟩
                     rw [hM] at hgood hct0 ⊢
                     have HM := Lib.hid hM
                     clear hM
                     have h23 := h22.new LX 30 (mkA M)
                     clear h22
                     simp only [mkA]
                     go_upto_region 27 with fail
                     refine gen_world' (fun X => dkH w X d sD [blkA w14.heap.size 30 (mkA M), mayA mb2 (x :: []), blkA gn 35 #[.int .u64 (x : Int), .int .i64 f, .int .i64 z, .bool false]]) h23 ?_
                     clear h23
                     generalize w14.heap.size = gm3 at *
                     intro w15 h23
                     have m1 : World.cell? w15 ⟨gm3, 1, none⟩ = some (.int .u64 (M 1 : Int)) := h23.rest.blk0.cell 1
                     have m2 : World.cell? w15 ⟨gm3, 2, none⟩ = some (.int .u64 (M 2 : Int)) := h23.rest.blk0.cell 2
                     obtain ⟨F, hF⟩ := h23.rest.drop.head
                     have hlk := may_look hF (M 1)
                     rw [hct0] at hlk
                     clear hF hct0
                     obtain ⟨v, hv⟩ : ∃ v, M 1 = v := ⟨_, rfl⟩
                     obtain ⟨v2, hv2⟩ : ∃ v2, M 2 = v2 := ⟨_, rfl⟩
                     rw [hv] at m1 hlk hgood
                     rw [hv2] at m2 hgood
                     have HV := Lib.hid hv
                     clear hv hv2
                     by_cases hg5 : v = 5
                     · clear hgood
                       subst hg5
                       replace m1 : World.cell? w15 ⟨gm3, 1, none⟩ = some (.int .u64 5) := m1
                       replace hlk : (Instr.lookup 33 (.map (some mb2)) (.int .u64 5) false).run Try.prog w15 = .ok (.bool true) w15 := hlk
                       go_upto_region 29 with fail
                       clear hlk
                       have h24 : dkH w w15 d sD [blkA gm3 30 (mkA M)] := ((h23.perm (List.perm_append_comm (l₁ := [blkA gm3 30 (mkA M)]) (l₂ := [mayA mb2 (x :: []), blkA gn 35 #[.int .u64 (x : Int), .int .i64 f, .int .i64 z, .bool false]]))).drop).drop
                       have h25 := h24.with_ (fun hl h => h.may hl) (.cons (blkA_loc _ _ _) .nil)
                       obtain ⟨w16, hrun, h26⟩ := dk_may_put h25 (.cons (blkA_loc _ _ _) .nil) 5
                       have hrunI : (Instr.mapUpdate 33 (.map (some w15.heap.size)) (.int .u64 5) (.bool true)).run Try.prog (w15.alloc (.map #[] 0)) = .ok () w16 := hrun
                       have m9 : World.cell? (w15.alloc (.map #[] 0)) ⟨gm3, 1, none⟩ = some (.int .u64 5) := (show _ = some (.int .u64 ((M 1 : Nat) : Int)) from h25.rest.drop.blk0.cell 1).trans (by rw [HV.out]; try rfl)
                       clear hrun h23 h24 h25
                       go_upto_region 30 with fail
                       clear hrunI
                       have h27 : dkH w w16 d sD [mayA w15.heap.size [5]] := (h26.perm (List.Perm.swap _ _ _)).drop
                       clear h26
                       go_wp2_with fail
                       refine ⟨⟨i + 1, sD, w15.heap.size, by omega, by go_num, rfl, by rw [show 1 + 2 * (i + 1) = 1 + 2 * i + 2 by omega]; exact HR1.out, ?_⟩, by simp [intOf]; omega⟩
                       rw [HM.out, HV.out]
                       exact h27
                     · have hq5 : ¬ (v : Int) = 5 := by omega
                       have hv64 : v < 18446744073709551616 := by rw [← HV.out, ← HM.out]; exact looked_lt sD 1
                       have hxv : bits .xor .u64 (v : Int) 1 = (v2 : Int) := by rw [hgood.resolve_left hg5]; exact xor_nat_u64 v 1 hv64 (by omega)
                       clear hgood hg5 hv64
                       go_upto_region 29 with fail
                       clear hlk
                       have h24 : dkH w w15 d sD [blkA gm3 30 (mkA M)] := ((h23.perm (List.perm_append_comm (l₁ := [blkA gm3 30 (mkA M)]) (l₂ := [mayA mb2 (x :: []), blkA gn 35 #[.int .u64 (x : Int), .int .i64 f, .int .i64 z, .bool false]]))).drop).drop
                       have h25 := h24.with_ (fun hl h => h.may hl) (.cons (blkA_loc _ _ _) .nil)
                       obtain ⟨w16, hrun, h26⟩ := dk_may_put h25 (.cons (blkA_loc _ _ _) .nil) v
                       have hrunI : (Instr.mapUpdate 33 (.map (some w15.heap.size)) (.int .u64 (v : Int)) (.bool true)).run Try.prog (w15.alloc (.map #[] 0)) = .ok () w16 := hrun
                       have m9 : World.cell? (w15.alloc (.map #[] 0)) ⟨gm3, 1, none⟩ = some (.int .u64 (v : Int)) := (show _ = some (.int .u64 ((M 1 : Nat) : Int)) from h25.rest.drop.blk0.cell 1).trans (by rw [HV.out]; try rfl)
                       clear hrun h23 h24 h25
                       go_upto_region 30 with fail
                       clear hrunI
                       have h27 : dkH w w16 d sD [mayA w15.heap.size [v]] := (h26.perm (List.Perm.swap _ _ _)).drop
                       clear h26
                       go_wp2_with fail
                       refine ⟨⟨i + 1, sD, w15.heap.size, by omega, by go_num, rfl, by rw [show 1 + 2 * (i + 1) = 1 + 2 * i + 2 by omega]; exact HR1.out, ?_⟩, by simp [intOf]; omega⟩
                       rw [HM.out, HV.out]
                       exact h27
      · have hq : (pe == 0) = false := by simpa using hp0
        have h16 : dkH w w8 d sB [mayA mb [s.looked.1 1], blkA gn 35 #[.int .u64 (x : Int), .int .i64 f, .int .i64 z, .bool kp]] := h15.perm (List.Perm.swap _ _ _)
        have HMAY : Hid (∀ v, (v = x ∨ v = s.looked.1 1) → (pe = 0 → v = x) → ([x, s.looked.1 1] : List Nat).contains v = true) := Lib.hid fun v h1 _ => by rcases h1 with rfl | rfl <;> simp
        clear hp0 h15
        go_upto_region 17 with fail
        generalize w8 = w9 at *
        clear hq
        have LM : Locs [mayA mb [s.looked.1 1], blkA gn 35 #[.int .u64 (x : Int), .int .i64 f, .int .i64 z, .bool kp]] := .cons (mayA_loc _ _) (.cons (blkA_loc _ _ _) .nil)
        have n0 : World.cell? w9 ⟨gn, 0, none⟩ = some (.int .u64 (x : Int)) := (Has.blk0 h16.rest.drop).cell 0
        obtain ⟨w10, hrun, h17⟩ := dk_may_put h16 (.cons (blkA_loc _ _ _) .nil) x
        have LX : Locs [mayA mb (x :: [s.looked.1 1]), blkA gn 35 #[.int .u64 (x : Int), .int .i64 f, .int .i64 z, .bool kp]] := .cons (mayA_loc _ _) (.cons (blkA_loc _ _ _) .nil)
        clear h16 LM
        go_upto_region 18 with fail
        clear hrun n0
        go_wp2_with fail
        refine (pending_any h17 LX).mono ?_
        clear h17
        rintro e w11 ⟨pl, cl, rfl, h18⟩
        obtain ⟨zl, hzl⟩ : ∃ zl, sB.pendL = zl := ⟨_, rfl⟩
        rw [hzl] at h18
        rw [hzl]
        have HZL := Lib.hid hzl
        clear hzl
        have hrow := (Has.owned h18.rest (e := 3) (size := 1) (v := .slice pl zl.length cl) (n := zl.length) (xs := ints zl) (by simp)).1
        have LR : Locs [rowA 3 1 (.slice pl zl.length cl) zl.length (ints zl), mayA mb (x :: [s.looked.1 1]), blkA gn 35 #[.int .u64 (x : Int), .int .i64 f, .int .i64 z, .bool kp]] := .cons (rowA_loc _ _ _ _ _) LX
        have n2 : World.cell? w11 ⟨gn, 2, none⟩ = some (.int .i64 z) := (Has.blk0 h18.rest.drop.drop).cell 2
        have n3 : World.cell? w11 ⟨gn, 3, none⟩ = some (.bool kp) := (Has.blk0 h18.rest.drop.drop).cell 3
        have hzl4 : zl.length ≤ maxLen := by
          have := HZL.out
          rw [← this]
          unfold DS.pendL
          rw [List.length_map]
          have h1 := List.length_filter_le (fun i => (sB.pend i).isSome) (List.range sB.n)
          rw [List.length_range] at h1
          have h2 := h18.1.n
          unfold maxLen; omega
        have HZ4 := Lib.hid hzl4
        clear hzl4
        cases zl with
        | nil =>
          cases kp with
          | true => clear hrow
                    go_upto_region 24 with fail
                    go_wp2_with fail
                    refine (crash_any h18 LR pl cl [] ((-1)) z (fun _ _ i hi => absurd hi (Nat.not_lt_zero i)) (by first | exact Nat.zero_le _ | exact HZ4.out)).mono ?_
                    clear h18 n2 n3
                    rintro e w12 ⟨rfl, h19⟩
                    obtain ⟨sC, hC⟩ : ∃ sC, sB.crashS [] ((-1)) z = sC := ⟨_, rfl⟩
                    rw [hC] at h19
                    have HC := Lib.hid hC
                    clear hC
                    have h20 := h19.drop
                    clear h19
                    go_upto_region 25 with fail
                    go_wp2_with fail
                    refine (up_any h20 LX).mono ?_
                    clear h20
                    rintro e w13 ⟨rfl, h21⟩
                    obtain ⟨sD, hD⟩ : ∃ sD, sC.upS = sD := ⟨_, rfl⟩
                    rw [hD] at h21
                    have hrd := HRD.out
                    rw [show s.round f [x, y] true z = sD by unfold DS.round; simp only [HA.out, HB.out, HZL.out]; rw [← hD, ← HC.out]; rfl, HA.out, HPE.out] at hrd
                    obtain ⟨r1, r2, r3⟩ := hrd
                    have hct0 : (x :: [s.looked.1 1] : List Nat).contains (sD.looked.1 1) = true := HMAY.out _ r3 r2
                    have HR1 := Lib.hid r1
                    have hrn := r1.n
                    have hrdn := r1.down
                    have hgm : getM sD.looked = (sD.looked.1, 0) := by unfold getM; rw [if_neg (by have := r1.pos; omega)]
                    have hgood := r1.good
                    clear hD r1 r2 r3
                    go_upto_region 26 with fail
                    go_wp2_with fail
                    refine (get_any h21 LX (by omega) hrdn).mono ?_
                    clear h21
                    rintro e w14 ⟨rfl, h22⟩
                    rw [hgm]
                    clear hgm
                    obtain ⟨M, hM⟩ : ∃ M, sD.looked.1 = M := ⟨_, rfl⟩
                    rw [hM] at hgood hct0 ⊢
                    have HM := Lib.hid hM
                    clear hM
                    have h23 := h22.new LX 30 (mkA M)
                    clear h22
                    simp only [mkA]
                    go_upto_region 27 with fail
                    refine gen_world' (fun X => dkH w X d sD [blkA w14.heap.size 30 (mkA M), mayA mb (x :: [s.looked.1 1]), blkA gn 35 #[.int .u64 (x : Int), .int .i64 f, .int .i64 z, .bool true]]) h23 ?_
                    clear h23
                    generalize w14.heap.size = gm3 at *
                    intro w15 h23
                    have m1 : World.cell? w15 ⟨gm3, 1, none⟩ = some (.int .u64 (M 1 : Int)) := h23.rest.blk0.cell 1
                    have m2 : World.cell? w15 ⟨gm3, 2, none⟩ = some (.int .u64 (M 2 : Int)) := h23.rest.blk0.cell 2
                    obtain ⟨F, hF⟩ := h23.rest.drop.head
                    have hlk := may_look hF (M 1)
                    rw [hct0] at hlk
                    clear hF hct0
                    obtain ⟨v, hv⟩ : ∃ v, M 1 = v := ⟨_, rfl⟩
                    obtain ⟨v2, hv2⟩ : ∃ v2, M 2 = v2 := ⟨_, rfl⟩
                    rw [hv] at m1 hlk hgood
                    rw [hv2] at m2 hgood
                    have HV := Lib.hid hv
                    clear hv hv2
                    by_cases hg5 : v = 5
                    · clear hgood
                      subst hg5
                      replace m1 : World.cell? w15 ⟨gm3, 1, none⟩ = some (.int .u64 5) := m1
                      replace hlk : (Instr.lookup 33 (.map (some mb)) (.int .u64 5) false).run Try.prog w15 = .ok (.bool true) w15 := hlk
                      go_upto_region 29 with fail
                      clear hlk
                      have h24 : dkH w w15 d sD [blkA gm3 30 (mkA M)] := ((h23.perm (List.perm_append_comm (l₁ := [blkA gm3 30 (mkA M)]) (l₂ := [mayA mb (x :: [s.looked.1 1]), blkA gn 35 #[.int .u64 (x : Int), .int .i64 f, .int .i64 z, .bool true]]))).drop).drop
                      have h25 := h24.with_ (fun hl h => h.may hl) (.cons (blkA_loc _ _ _) .nil)
                      obtain ⟨w16, hrun, h26⟩ := dk_may_put h25 (.cons (blkA_loc _ _ _) .nil) 5
                      have hrunI : (Instr.mapUpdate 33 (.map (some w15.heap.size)) (.int .u64 5) (.bool true)).run Try.prog (w15.alloc (.map #[] 0)) = .ok () w16 := hrun
                      have m9 : World.cell? (w15.alloc (.map #[] 0)) ⟨gm3, 1, none⟩ = some (.int .u64 5) := (show _ = some (.int .u64 ((M 1 : Nat) : Int)) from h25.rest.drop.blk0.cell 1).trans (by rw [HV.out]; try rfl)
                      clear hrun h23 h24 h25
                      go_upto_region 30 with fail
                      clear hrunI
                      have h27 : dkH w w16 d sD [mayA w15.heap.size [5]] := (h26.perm (List.Perm.swap _ _ _)).drop
                      clear h26
                      go_wp2_with fail
                      refine ⟨⟨i + 1, sD, w15.heap.size, by omega, by go_num, rfl, by rw [show 1 + 2 * (i + 1) = 1 + 2 * i + 2 by omega]; exact HR1.out, ?_⟩, by simp [intOf]; omega⟩
                      rw [HM.out, HV.out]
                      exact h27
                    · have hq5 : ¬ (v : Int) = 5 := by omega
                      have hv64 : v < 18446744073709551616 := by rw [← HV.out, ← HM.out]; exact looked_lt sD 1
                      have hxv : bits .xor .u64 (v : Int) 1 = (v2 : Int) := by rw [hgood.resolve_left hg5]; exact xor_nat_u64 v 1 hv64 (by omega)
                      clear hgood hg5 hv64
                      go_upto_region 29 with fail
                      clear hlk
                      have h24 : dkH w w15 d sD [blkA gm3 30 (mkA M)] := ((h23.perm (List.perm_append_comm (l₁ := [blkA gm3 30 (mkA M)]) (l₂ := [mayA mb (x :: [s.looked.1 1]), blkA gn 35 #[.int .u64 (x : Int), .int .i64 f, .int .i64 z, .bool true]]))).drop).drop
                      have h25 := h24.with_ (fun hl h => h.may hl) (.cons (blkA_loc _ _ _) .nil)
                      obtain ⟨w16, hrun, h26⟩ := dk_may_put h25 (.cons (blkA_loc _ _ _) .nil) v
                      have hrunI : (Instr.mapUpdate 33 (.map (some w15.heap.size)) (.int .u64 (v : Int)) (.bool true)).run Try.prog (w15.alloc (.map #[] 0)) = .ok () w16 := hrun
                      have m9 : World.cell? (w15.alloc (.map #[] 0)) ⟨gm3, 1, none⟩ = some (.int .u64 (v : Int)) := (show _ = some (.int .u64 ((M 1 : Nat) : Int)) from h25.rest.drop.blk0.cell 1).trans (by rw [HV.out]; try rfl)
                      clear hrun h23 h24 h25
                      go_upto_region 30 with fail
                      clear hrunI
                      have h27 : dkH w w16 d sD [mayA w15.heap.size [v]] := (h26.perm (List.Perm.swap _ _ _)).drop
                      clear h26
                      go_wp2_with fail
                      refine ⟨⟨i + 1, sD, w15.heap.size, by omega, by go_num, rfl, by rw [show 1 + 2 * (i + 1) = 1 + 2 * i + 2 by omega]; exact HR1.out, ?_⟩, by simp [intOf]; omega⟩
                      rw [HM.out, HV.out]
                      exact h27
          | false => clear hrow
                     go_upto_region 24 with fail
                     go_wp2_with fail
                     refine (crash_any h18 LR (none : Option Addr) 0 [] ((-1)) z (fun _ _ i hi => absurd hi (Nat.not_lt_zero i)) (by first | exact Nat.zero_le _ | exact HZ4.out)).mono ?_
                     clear h18 n2 n3
                     rintro e w12 ⟨rfl, h19⟩
                     obtain ⟨sC, hC⟩ : ∃ sC, sB.crashS [] ((-1)) z = sC := ⟨_, rfl⟩
                     rw [hC] at h19
                     have HC := Lib.hid hC
                     clear hC
                     have h20 := h19.drop
                     clear h19
                     go_upto_region 25 with fail
                     go_wp2_with fail
                     refine (up_any h20 LX).mono ?_
                     clear h20
                     rintro e w13 ⟨rfl, h21⟩
                     obtain ⟨sD, hD⟩ : ∃ sD, sC.upS = sD := ⟨_, rfl⟩
                     rw [hD] at h21
                     have hrd := HRD.out
                     rw [show s.round f [x, y] false z = sD by unfold DS.round; simp only [HA.out, HB.out, HZL.out]; rw [← hD, ← HC.out]; rfl, HA.out, HPE.out] at hrd
                     obtain ⟨r1, r2, r3⟩ := hrd
                     have hct0 : (x :: [s.looked.1 1] : List Nat).contains (sD.looked.1 1) = true := HMAY.out _ r3 r2
                     have HR1 := Lib.hid r1
                     have hrn := r1.n
                     have hrdn := r1.down
                     have hgm : getM sD.looked = (sD.looked.1, 0) := by unfold getM; rw [if_neg (by have := r1.pos; omega)]
                     have hgood := r1.good
                     clear hD r1 r2 r3
                     go_upto_region 26 with fail
                     go_wp2_with fail
                     refine (get_any h21 LX (by omega) hrdn).mono ?_
                     clear h21
                     rintro e w14 ⟨rfl, h22⟩
                     rw [hgm]
                     clear hgm
                     obtain ⟨M, hM⟩ : ∃ M, sD.looked.1 = M := ⟨_, rfl⟩
                     rw [hM] at hgood hct0 ⊢
                     have HM := Lib.hid hM
                     clear hM
                     have h23 := h22.new LX 30 (mkA M)
                     clear h22
                     simp only [mkA]
                     go_upto_region 27 with fail
                     refine gen_world' (fun X => dkH w X d sD [blkA w14.heap.size 30 (mkA M), mayA mb (x :: [s.looked.1 1]), blkA gn 35 #[.int .u64 (x : Int), .int .i64 f, .int .i64 z, .bool false]]) h23 ?_
                     clear h23
                     generalize w14.heap.size = gm3 at *
                     intro w15 h23
                     have m1 : World.cell? w15 ⟨gm3, 1, none⟩ = some (.int .u64 (M 1 : Int)) := h23.rest.blk0.cell 1
                     have m2 : World.cell? w15 ⟨gm3, 2, none⟩ = some (.int .u64 (M 2 : Int)) := h23.rest.blk0.cell 2
                     obtain ⟨F, hF⟩ := h23.rest.drop.head
                     have hlk := may_look hF (M 1)
                     rw [hct0] at hlk
                     clear hF hct0
                     obtain ⟨v, hv⟩ : ∃ v, M 1 = v := ⟨_, rfl⟩
                     obtain ⟨v2, hv2⟩ : ∃ v2, M 2 = v2 := ⟨_, rfl⟩
                     rw [hv] at m1 hlk hgood
                     rw [hv2] at m2 hgood
                     have HV := Lib.hid hv
                     clear hv hv2
                     by_cases hg5 : v = 5
                     · clear hgood
                       subst hg5
                       replace m1 : World.cell? w15 ⟨gm3, 1, none⟩ = some (.int .u64 5) := m1
                       replace hlk : (Instr.lookup 33 (.map (some mb)) (.int .u64 5) false).run Try.prog w15 = .ok (.bool true) w15 := hlk
                       go_upto_region 29 with fail
                       clear hlk
                       have h24 : dkH w w15 d sD [blkA gm3 30 (mkA M)] := ((h23.perm (List.perm_append_comm (l₁ := [blkA gm3 30 (mkA M)]) (l₂ := [mayA mb (x :: [s.looked.1 1]), blkA gn 35 #[.int .u64 (x : Int), .int .i64 f, .int .i64 z, .bool false]]))).drop).drop
                       have h25 := h24.with_ (fun hl h => h.may hl) (.cons (blkA_loc _ _ _) .nil)
                       obtain ⟨w16, hrun, h26⟩ := dk_may_put h25 (.cons (blkA_loc _ _ _) .nil) 5
                       have hrunI : (Instr.mapUpdate 33 (.map (some w15.heap.size)) (.int .u64 5) (.bool true)).run Try.prog (w15.alloc (.map #[] 0)) = .ok () w16 := hrun
                       have m9 : World.cell? (w15.alloc (.map #[] 0)) ⟨gm3, 1, none⟩ = some (.int .u64 5) := (show _ = some (.int .u64 ((M 1 : Nat) : Int)) from h25.rest.drop.blk0.cell 1).trans (by rw [HV.out]; try rfl)
                       clear hrun h23 h24 h25
                       go_upto_region 30 with fail
                       clear hrunI
                       have h27 : dkH w w16 d sD [mayA w15.heap.size [5]] := (h26.perm (List.Perm.swap _ _ _)).drop
                       clear h26
                       go_wp2_with fail
                       refine ⟨⟨i + 1, sD, w15.heap.size, by omega, by go_num, rfl, by rw [show 1 + 2 * (i + 1) = 1 + 2 * i + 2 by omega]; exact HR1.out, ?_⟩, by simp [intOf]; omega⟩
                       rw [HM.out, HV.out]
                       exact h27
                     · have hq5 : ¬ (v : Int) = 5 := by omega
                       have hv64 : v < 18446744073709551616 := by rw [← HV.out, ← HM.out]; exact looked_lt sD 1
                       have hxv : bits .xor .u64 (v : Int) 1 = (v2 : Int) := by rw [hgood.resolve_left hg5]; exact xor_nat_u64 v 1 hv64 (by omega)
                       clear hgood hg5 hv64
                       go_upto_region 29 with fail
                       clear hlk
                       have h24 : dkH w w15 d sD [blkA gm3 30 (mkA M)] := ((h23.perm (List.perm_append_comm (l₁ := [blkA gm3 30 (mkA M)]) (l₂ := [mayA mb (x :: [s.looked.1 1]), blkA gn 35 #[.int .u64 (x : Int), .int .i64 f, .int .i64 z, .bool false]]))).drop).drop
                       have h25 := h24.with_ (fun hl h => h.may hl) (.cons (blkA_loc _ _ _) .nil)
                       obtain ⟨w16, hrun, h26⟩ := dk_may_put h25 (.cons (blkA_loc _ _ _) .nil) v
                       have hrunI : (Instr.mapUpdate 33 (.map (some w15.heap.size)) (.int .u64 (v : Int)) (.bool true)).run Try.prog (w15.alloc (.map #[] 0)) = .ok () w16 := hrun
                       have m9 : World.cell? (w15.alloc (.map #[] 0)) ⟨gm3, 1, none⟩ = some (.int .u64 (v : Int)) := (show _ = some (.int .u64 ((M 1 : Nat) : Int)) from h25.rest.drop.blk0.cell 1).trans (by rw [HV.out]; try rfl)
                       clear hrun h23 h24 h25
                       go_upto_region 30 with fail
                       clear hrunI
                       have h27 : dkH w w16 d sD [mayA w15.heap.size [v]] := (h26.perm (List.Perm.swap _ _ _)).drop
                       clear h26
                       go_wp2_with fail
                       refine ⟨⟨i + 1, sD, w15.heap.size, by omega, by go_num, rfl, by rw [show 1 + 2 * (i + 1) = 1 + 2 * i + 2 by omega]; exact HR1.out, ?_⟩, by simp [intOf]; omega⟩
                       rw [HM.out, HV.out]
                       exact h27
        | cons t r =>
          have hx : (ints (t :: r))[0]? = some (.int .i64 t) := rfl
          obtain ⟨gp, rfl, hct⟩ := row_at hrow hx
          clear hx
          have hlz : (0 : Int) < ((t :: r).length : Int) := by rw [List.length_cons]; omega
          cases kp with
          | true => clear hrow
                    go_upto_region 24 with fail
                    go_wp2_with fail
                    refine (crash_any h18 LR (some ⟨gp, 0, none⟩) cl (t :: r) (t) z (fun X hX => ints_at (Has.owned hX (e := 3) (size := 1) (v := .slice (some ⟨gp, 0, none⟩) (t :: r).length cl) (n := (t :: r).length) (xs := ints (t :: r)) (by simp)).1) (by first | exact Nat.zero_le _ | exact HZ4.out)).mono ?_
                    clear h18 n2 n3
                    rintro e w12 ⟨rfl, h19⟩
                    obtain ⟨sC, hC⟩ : ∃ sC, sB.crashS (t :: r) (t) z = sC := ⟨_, rfl⟩
                    rw [hC] at h19
                    have HC := Lib.hid hC
                    clear hC
                    have h20 := h19.drop
                    clear h19
                    go_upto_region 25 with fail
                    go_wp2_with fail
                    refine (up_any h20 LX).mono ?_
                    clear h20
                    rintro e w13 ⟨rfl, h21⟩
                    obtain ⟨sD, hD⟩ : ∃ sD, sC.upS = sD := ⟨_, rfl⟩
                    rw [hD] at h21
                    have hrd := HRD.out
                    rw [show s.round f [x, y] true z = sD by unfold DS.round; simp only [HA.out, HB.out, HZL.out]; rw [← hD, ← HC.out]; rfl, HA.out, HPE.out] at hrd
                    obtain ⟨r1, r2, r3⟩ := hrd
                    have hct0 : (x :: [s.looked.1 1] : List Nat).contains (sD.looked.1 1) = true := HMAY.out _ r3 r2
                    have HR1 := Lib.hid r1
                    have hrn := r1.n
                    have hrdn := r1.down
                    have hgm : getM sD.looked = (sD.looked.1, 0) := by unfold getM; rw [if_neg (by have := r1.pos; omega)]
                    have hgood := r1.good
                    clear hD r1 r2 r3
                    go_upto_region 26 with fail
                    go_wp2_with fail
                    refine (get_any h21 LX (by omega) hrdn).mono ?_
                    clear h21
                    rintro e w14 ⟨rfl, h22⟩
                    rw [hgm]
                    clear hgm
                    obtain ⟨M, hM⟩ : ∃ M, sD.looked.1 = M := ⟨_, rfl⟩
                    rw [hM] at hgood hct0 ⊢
                    have HM := Lib.hid hM
                    clear hM
                    have h23 := h22.new LX 30 (mkA M)
                    clear h22
                    simp only [mkA]
                    go_upto_region 27 with fail
                    refine gen_world' (fun X => dkH w X d sD [blkA w14.heap.size 30 (mkA M), mayA mb (x :: [s.looked.1 1]), blkA gn 35 #[.int .u64 (x : Int), .int .i64 f, .int .i64 z, .bool true]]) h23 ?_
                    clear h23
                    generalize w14.heap.size = gm3 at *
                    intro w15 h23
                    have m1 : World.cell? w15 ⟨gm3, 1, none⟩ = some (.int .u64 (M 1 : Int)) := h23.rest.blk0.cell 1
                    have m2 : World.cell? w15 ⟨gm3, 2, none⟩ = some (.int .u64 (M 2 : Int)) := h23.rest.blk0.cell 2
                    obtain ⟨F, hF⟩ := h23.rest.drop.head
                    have hlk := may_look hF (M 1)
                    rw [hct0] at hlk
                    clear hF hct0
                    obtain ⟨v, hv⟩ : ∃ v, M 1 = v := ⟨_, rfl⟩
                    obtain ⟨v2, hv2⟩ : ∃ v2, M 2 = v2 := ⟨_, rfl⟩
                    rw [hv] at m1 hlk hgood
                    rw [hv2] at m2 hgood
                    have HV := Lib.hid hv
                    clear hv hv2
                    by_cases hg5 : v = 5
                    · clear hgood
                      subst hg5
                      replace m1 : World.cell? w15 ⟨gm3, 1, none⟩ = some (.int .u64 5) := m1
                      replace hlk : (Instr.lookup 33 (.map (some mb)) (.int .u64 5) false).run Try.prog w15 = .ok (.bool true) w15 := hlk
                      go_upto_region 29 with fail
                      clear hlk
                      have h24 : dkH w w15 d sD [blkA gm3 30 (mkA M)] := ((h23.perm (List.perm_append_comm (l₁ := [blkA gm3 30 (mkA M)]) (l₂ := [mayA mb (x :: [s.looked.1 1]), blkA gn 35 #[.int .u64 (x : Int), .int .i64 f, .int .i64 z, .bool true]]))).drop).drop
                      have h25 := h24.with_ (fun hl h => h.may hl) (.cons (blkA_loc _ _ _) .nil)
                      obtain ⟨w16, hrun, h26⟩ := dk_may_put h25 (.cons (blkA_loc _ _ _) .nil) 5
                      have hrunI : (Instr.mapUpdate 33 (.map (some w15.heap.size)) (.int .u64 5) (.bool true)).run Try.prog (w15.alloc (.map #[] 0)) = .ok () w16 := hrun
                      have m9 : World.cell? (w15.alloc (.map #[] 0)) ⟨gm3, 1, none⟩ = some (.int .u64 5) := (show _ = some (.int .u64 ((M 1 : Nat) : Int)) from h25.rest.drop.blk0.cell 1).trans (by rw [HV.out]; try rfl)
                      clear hrun h23 h24 h25
                      go_upto_region 30 with fail
                      clear hrunI
                      have h27 : dkH w w16 d sD [mayA w15.heap.size [5]] := (h26.perm (List.Perm.swap _ _ _)).drop
                      clear h26
                      go_wp2_with fail
                      refine ⟨⟨i + 1, sD, w15.heap.size, by omega, by go_num, rfl, by rw [show 1 + 2 * (i + 1) = 1 + 2 * i + 2 by omega]; exact HR1.out, ?_⟩, by simp [intOf]; omega⟩
                      rw [HM.out, HV.out]
                      exact h27
                    · have hq5 : ¬ (v : Int) = 5 := by omega
                      have hv64 : v < 18446744073709551616 := by rw [← HV.out, ← HM.out]; exact looked_lt sD 1
                      have hxv : bits .xor .u64 (v : Int) 1 = (v2 : Int) := by rw [hgood.resolve_left hg5]; exact xor_nat_u64 v 1 hv64 (by omega)
                      clear hgood hg5 hv64
                      go_upto_region 29 with fail
                      clear hlk
                      have h24 : dkH w w15 d sD [blkA gm3 30 (mkA M)] := ((h23.perm (List.perm_append_comm (l₁ := [blkA gm3 30 (mkA M)]) (l₂ := [mayA mb (x :: [s.looked.1 1]), blkA gn 35 #[.int .u64 (x : Int), .int .i64 f, .int .i64 z, .bool true]]))).drop).drop
                      have h25 := h24.with_ (fun hl h => h.may hl) (.cons (blkA_loc _ _ _) .nil)
                      obtain ⟨w16, hrun, h26⟩ := dk_may_put h25 (.cons (blkA_loc _ _ _) .nil) v
                      have hrunI : (Instr.mapUpdate 33 (.map (some w15.heap.size)) (.int .u64 (v : Int)) (.bool true)).run Try.prog (w15.alloc (.map #[] 0)) = .ok () w16 := hrun
                      have m9 : World.cell? (w15.alloc (.map #[] 0)) ⟨gm3, 1, none⟩ = some (.int .u64 (v : Int)) := (show _ = some (.int .u64 ((M 1 : Nat) : Int)) from h25.rest.drop.blk0.cell 1).trans (by rw [HV.out]; try rfl)
                      clear hrun h23 h24 h25
                      go_upto_region 30 with fail
                      clear hrunI
                      have h27 : dkH w w16 d sD [mayA w15.heap.size [v]] := (h26.perm (List.Perm.swap _ _ _)).drop
                      clear h26
                      go_wp2_with fail
                      refine ⟨⟨i + 1, sD, w15.heap.size, by omega, by go_num, rfl, by rw [show 1 + 2 * (i + 1) = 1 + 2 * i + 2 by omega]; exact HR1.out, ?_⟩, by simp [intOf]; omega⟩
                      rw [HM.out, HV.out]
                      exact h27
          | false => clear hrow
                     go_upto_region 24 with fail
                     go_wp2_with fail
                     refine (crash_any h18 LR (none : Option Addr) 0 [] (t) z (fun _ _ i hi => absurd hi (Nat.not_lt_zero i)) (by first | exact Nat.zero_le _ | exact HZ4.out)).mono ?_
                     clear h18 n2 n3
                     rintro e w12 ⟨rfl, h19⟩
                     obtain ⟨sC, hC⟩ : ∃ sC, sB.crashS [] (t) z = sC := ⟨_, rfl⟩
                     rw [hC] at h19
                     have HC := Lib.hid hC
                     clear hC
                     have h20 := h19.drop
                     clear h19
                     go_upto_region 25 with fail
                     go_wp2_with fail
                     refine (up_any h20 LX).mono ?_
                     clear h20
                     rintro e w13 ⟨rfl, h21⟩
                     obtain ⟨sD, hD⟩ : ∃ sD, sC.upS = sD := ⟨_, rfl⟩
                     rw [hD] at h21
                     have hrd := HRD.out
                     rw [show s.round f [x, y] false z = sD by unfold DS.round; simp only [HA.out, HB.out, HZL.out]; rw [← hD, ← HC.out]; rfl, HA.out, HPE.out] at hrd
                     obtain ⟨r1, r2, r3⟩ := hrd
                     have hct0 : (x :: [s.looked.1 1] : List Nat).contains (sD.looked.1 1) = true := HMAY.out _ r3 r2
                     have HR1 := Lib.hid r1
                     have hrn := r1.n
                     have hrdn := r1.down
                     have hgm : getM sD.looked = (sD.looked.1, 0) := by unfold getM; rw [if_neg (by have := r1.pos; omega)]
                     have hgood := r1.good
                     clear hD r1 r2 r3
                     go_upto_region 26 with fail
                     go_wp2_with fail
                     refine (get_any h21 LX (by omega) hrdn).mono ?_
                     clear h21
                     rintro e w14 ⟨rfl, h22⟩
                     rw [hgm]
                     clear hgm
                     obtain ⟨M, hM⟩ : ∃ M, sD.looked.1 = M := ⟨_, rfl⟩
                     rw [hM] at hgood hct0 ⊢
                     have HM := Lib.hid hM
                     clear hM
                     have h23 := h22.new LX 30 (mkA M)
                     clear h22
                     simp only [mkA]
                     go_upto_region 27 with fail
                     refine gen_world' (fun X => dkH w X d sD [blkA w14.heap.size 30 (mkA M), mayA mb (x :: [s.looked.1 1]), blkA gn 35 #[.int .u64 (x : Int), .int .i64 f, .int .i64 z, .bool false]]) h23 ?_
                     clear h23
                     generalize w14.heap.size = gm3 at *
                     intro w15 h23
                     have m1 : World.cell? w15 ⟨gm3, 1, none⟩ = some (.int .u64 (M 1 : Int)) := h23.rest.blk0.cell 1
                     have m2 : World.cell? w15 ⟨gm3, 2, none⟩ = some (.int .u64 (M 2 : Int)) := h23.rest.blk0.cell 2
                     obtain ⟨F, hF⟩ := h23.rest.drop.head
                     have hlk := may_look hF (M 1)
                     rw [hct0] at hlk
                     clear hF hct0
                     obtain ⟨v, hv⟩ : ∃ v, M 1 = v := ⟨_, rfl⟩
                     obtain ⟨v2, hv2⟩ : ∃ v2, M 2 = v2 := ⟨_, rfl⟩
                     rw [hv] at m1 hlk hgood
                     rw [hv2] at m2 hgood
                     have HV := Lib.hid hv
                     clear hv hv2
                     by_cases hg5 : v = 5
                     · clear hgood
                       subst hg5
                       replace m1 : World.cell? w15 ⟨gm3, 1, none⟩ = some (.int .u64 5) := m1
                       replace hlk : (Instr.lookup 33 (.map (some mb)) (.int .u64 5) false).run Try.prog w15 = .ok (.bool true) w15 := hlk
                       go_upto_region 29 with fail
                       clear hlk
                       have h24 : dkH w w15 d sD [blkA gm3 30 (mkA M)] := ((h23.perm (List.perm_append_comm (l₁ := [blkA gm3 30 (mkA M)]) (l₂ := [mayA mb (x :: [s.looked.1 1]), blkA gn 35 #[.int .u64 (x : Int), .int .i64 f, .int .i64 z, .bool false]]))).drop).drop
                       have h25 := h24.with_ (fun hl h => h.may hl) (.cons (blkA_loc _ _ _) .nil)
                       obtain ⟨w16, hrun, h26⟩ := dk_may_put h25 (.cons (blkA_loc _ _ _) .nil) 5
                       have hrunI : (Instr.mapUpdate 33 (.map (some w15.heap.size)) (.int .u64 5) (.bool true)).run Try.prog (w15.alloc (.map #[] 0)) = .ok () w16 := hrun
                       have m9 : World.cell? (w15.alloc (.map #[] 0)) ⟨gm3, 1, none⟩ = some (.int .u64 5) := (show _ = some (.int .u64 ((M 1 : Nat) : Int)) from h25.rest.drop.blk0.cell 1).trans (by rw [HV.out]; try rfl)
                       clear hrun h23 h24 h25
                       go_upto_region 30 with fail
                       clear hrunI
                       have h27 : dkH w w16 d sD [mayA w15.heap.size [5]] := (h26.perm (List.Perm.swap _ _ _)).drop
                       clear h26
                       go_wp2_with fail
                       refine ⟨⟨i + 1, sD, w15.heap.size, by omega, by go_num, rfl, by rw [show 1 + 2 * (i + 1) = 1 + 2 * i + 2 by omega]; exact HR1.out, ?_⟩, by simp [intOf]; omega⟩
                       rw [HM.out, HV.out]
                       exact h27
                     · have hq5 : ¬ (v : Int) = 5 := by omega
                       have hv64 : v < 18446744073709551616 := by rw [← HV.out, ← HM.out]; exact looked_lt sD 1
                       have hxv : bits .xor .u64 (v : Int) 1 = (v2 : Int) := by rw [hgood.resolve_left hg5]; exact xor_nat_u64 v 1 hv64 (by omega)
                       clear hgood hg5 hv64
                       go_upto_region 29 with fail
                       clear hlk
                       have h24 : dkH w w15 d sD [blkA gm3 30 (mkA M)] := ((h23.perm (List.perm_append_comm (l₁ := [blkA gm3 30 (mkA M)]) (l₂ := [mayA mb (x :: [s.looked.1 1]), blkA gn 35 #[.int .u64 (x : Int), .int .i64 f, .int .i64 z, .bool false]]))).drop).drop
                       have h25 := h24.with_ (fun hl h => h.may hl) (.cons (blkA_loc _ _ _) .nil)
                       obtain ⟨w16, hrun, h26⟩ := dk_may_put h25 (.cons (blkA_loc _ _ _) .nil) v
                       have hrunI : (Instr.mapUpdate 33 (.map (some w15.heap.size)) (.int .u64 (v : Int)) (.bool true)).run Try.prog (w15.alloc (.map #[] 0)) = .ok () w16 := hrun
                       have m9 : World.cell? (w15.alloc (.map #[] 0)) ⟨gm3, 1, none⟩ = some (.int .u64 (v : Int)) := (show _ = some (.int .u64 ((M 1 : Nat) : Int)) from h25.rest.drop.blk0.cell 1).trans (by rw [HV.out]; try rfl)
                       clear hrun h23 h24 h25
                       go_upto_region 30 with fail
                       clear hrunI
                       have h27 : dkH w w16 d sD [mayA w15.heap.size [v]] := (h26.perm (List.Perm.swap _ _ _)).drop
                       clear h26
                       go_wp2_with fail
                       refine ⟨⟨i + 1, sD, w15.heap.size, by omega, by go_num, rfl, by rw [show 1 + 2 * (i + 1) = 1 + 2 * i + 2 by omega]; exact HR1.out, ?_⟩, by simp [intOf]; omega⟩
                       rw [HM.out, HV.out]
                       exact h27
    · have hi2 : i = len := by omega
      have hE := h8.base
      go_wp2_with fail
      go_ret
      exact ⟨rfl, hE⟩
end Go.Proofs.Ytjcioelolpmokaa
