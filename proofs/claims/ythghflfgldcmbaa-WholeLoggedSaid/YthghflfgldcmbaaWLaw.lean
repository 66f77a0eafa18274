/- The walk of WholeLogged. -/
import Derived.Test.YthghflfgldcmbaaWLogged
import Derived.Lib.ConvBytes
import Derived.Lib.MinMax
namespace Go.Proofs.Ythghflfgldcmbaa
set_option maxRecDepth 4000
set_option linter.unusedVariables false
set_option linter.unusedSimpArgs false
open Go Go.RowKit
theorem ext_bytes (w : World) (e : TypeId) (s : ByteArray) : Ext w (Go.Lib.bytesWorld w e s) :=
  ⟨rfl, rfl, rfl, by rw [Go.Lib.bytesWorld_size]; omega, fun k hk => Go.Lib.bytesWorld_at_old w e s k hk⟩
theorem Has.strView {w W : World} {ps : List Asr} (h : Has w W ps) (hl : Locs ps) (l : List UInt8) (hlen : l.length ≤ 300) : Has w (Go.Lib.bytesWorld W 5 (strOf l)) (viewA (some ⟨W.heap.size, 0, none⟩) (grownCap W l.length 0 5) l :: ps) := by
  refine h.add hl (ext_bytes W _ _) (F := fun k => ∃ a, some (⟨W.heap.size, 0, none⟩ : Addr) = some a ∧ a.block = k) ⟨⟨(fun h => by cases h), fun a ha => ?_, grownCap_ge _ _ _ _, grownCap_le_maxLen _ _ _ _ (by unfold maxLen; omega)⟩, rfl⟩ (fun k hk => ?_)
  · injection ha with ha
    subst ha
    refine ⟨by rw [Go.Lib.bytesWorld_size]; exact Nat.lt_succ_self _, 0, rfl, fun i hi => ?_⟩
    rw [Nat.zero_add, Go.Lib.bytesWorld_cell W 5 (strOf l) i hi]
    simp [strOf, List.getD_eq_getElem?_getD, List.getElem?_eq_getElem hi]
  · obtain ⟨a, ha, rfl⟩ := hk
    injection ha with ha
    rw [← ha]; exact Nat.le_refl _
/-- a save that came in -/
structure Sv where
  p : Option Addr
  c : Nat
  bs : List (List UInt8)
  f : Int
  k : Int
  a : Int
def Sv.cells (t : Sv) : List Value := [.slice t.p t.bs.length t.c, .int .i64 t.f, .int .i64 t.k, .int .i64 t.a]
def StrsAt (W : World) (p : Option Addr) (bs : List (List UInt8)) : Prop := ∀ j (h : j < bs.length), ∃ b o, p = some ⟨b, o, none⟩ ∧ b < W.heap.size ∧ W.cell? ⟨b, o + j, none⟩ = some (.string (strOf bs[j]))
structure Sv.Ok (W : World) (t : Sv) : Prop where
  at_ : StrsAt W t.p t.bs
  nil_ : t.p = none → t.bs.length = 0 ∧ t.c = 0
  le : t.bs.length ≤ t.c
  cap : t.c ≤ maxLen
  f : -9223372036854775808 ≤ t.f ∧ t.f ≤ 9223372036854775807
  k : -9223372036854775808 ≤ t.k ∧ t.k ≤ 9223372036854775807
  a : -9223372036854775808 ≤ t.a ∧ t.a ≤ 9223372036854775807
abbrev SvsAt (w : World) (p : Option Addr) (ts : List Sv) : Prop := RowsAt 4 Sv.cells (Sv.Ok w) w p ts
theorem StrsAt.ext {W W' : World} {p : Option Addr} {bs : List (List UInt8)} (h : StrsAt W p bs) (hE : Ext W W') : StrsAt W' p bs := by
  intro j hj
  obtain ⟨b, o, h1, h2, h3⟩ := h j hj
  exact ⟨b, o, h1, Nat.lt_of_lt_of_le h2 hE.le, (hE.cell b _ h2).trans h3⟩
/-- the disk as it is made -/
theorem fresh_inv : LInv (freshD 194) [] 0 where
  n := rfl
  down := rfl
  pend := rfl
  len i hi := by show (List.replicate 128 (0 : UInt8)).length = 128; rw [List.length_replicate]
  on p hp := by simp [layAll, layFrom] at hp
  top := by decide +kernel
  head := by decide +kernel
  tail := by decide +kernel
theorem wt_in {w W : World} {d : Nat} {s : DS} {v l : Asr} {p : Option Addr} {c : Nat} {ws : List Bw} {ps : List Asr} (h : dkH w W d s (v :: l :: wtL p c ws ps)) : dkH w W d s (l :: wtL p c ws (v :: ps)) := h.perm (by
  unfold wtL
  refine (List.Perm.swap _ _ _).trans (List.Perm.cons _ ((List.Perm.swap _ _ _).trans (List.Perm.cons _ List.perm_middle.symm))))
theorem wt_out {w W : World} {d : Nat} {s : DS} {v l : Asr} {p : Option Addr} {c : Nat} {ws : List Bw} {ps : List Asr} (h : dkH w W d s (l :: wtL p c ws (v :: ps))) : dkH w W d s (l :: wtL p c ws ps) := by
  have h2 : dkH w W d s (v :: l :: wtL p c ws ps) := h.perm (by
    unfold wtL
    exact ((List.Perm.swap _ _ _).trans (List.Perm.cons _ ((List.Perm.swap _ _ _).trans (List.Perm.cons _ List.perm_middle.symm)))).symm)
  exact h2.drop
theorem strOf_size (l : List UInt8) : (strOf l).size = l.length := by
  show l.toArray.size = l.length
  simp
theorem StrsAt.news {W : World} {p : Option Addr} {bs : List (List UInt8)} (h : StrsAt W p bs) : ∀ a, p = some a → ∀ j u, (stC bs)[j]? = some u → W.cell? (a.add j) = some u := by
  intro a ha j u hu
  unfold stC at hu
  rw [List.getElem?_map] at hu
  by_cases hj : j < bs.length
  · obtain ⟨b, o, h1, _, h3⟩ := h j hj
    rw [h1] at ha
    injection ha with ha
    subst ha
    rw [Go.WideShapes.add_plain]
    rw [List.getElem?_eq_getElem hj] at hu
    exact h3.trans hu
  · rw [List.getElem?_eq_none (by omega)] at hu
    cases hu
theorem stC_one (bs : List (List UInt8)) : ∀ u ∈ stC bs, u.oneCell' = true := by
  intro u hu
  unfold stC at hu
  obtain ⟨b, _, rfl⟩ := List.mem_map.1 hu
  rfl
theorem stC_length (bs : List (List UInt8)) : (stC bs).length = bs.length := by unfold stC; rw [List.length_map]
theorem stC_append (a b : List (List UInt8)) : stC a ++ stC b = stC (a ++ b) := by unfold stC; rw [List.map_append]
theorem NumsAt.pre {W : World} {p : Option Addr} {a b : List Int} (h : NumsAt .i64 W p (a ++ b)) : NumsAt .i64 W p a := by
  intro i hi
  obtain ⟨q, h1, h2, h3⟩ := h i (by rw [List.length_append]; omega)
  refine ⟨q, h1, h2, h3.trans ?_⟩
  rw [List.getD_eq_getElem?_getD, List.getElem?_append_left hi, ← List.getD_eq_getElem?_getD]
theorem dkH.only {w W : World} {d : Nat} {s : DS} {a ps : List Asr} {p : Asr} (h : dkH w W d s (a ++ ps)) (hp : p ∈ ps) : dkH w W d s (a ++ [p]) := by
  obtain ⟨x, y, rfl⟩ := List.append_of_mem hp
  have h2 : dkH w W d s ((x ++ y) ++ (a ++ [p])) := h.perm (by
    refine (List.Perm.append_left a (List.perm_middle (l₁ := x) (l₂ := y))).trans ?_
    have e : a ++ p :: (x ++ y) = (a ++ [p]) ++ (x ++ y) := by simp
    rw [e]
    exact List.perm_append_comm)
  exact dkH.dropA h2
theorem LInv.fuse {s : DS} {bs : List (List UInt8)} {B : Nat} (h : LInv s bs B) (f : Int) : LInv (s.setF s.down f) bs B :=
  ⟨h.n, h.down, h.pend, h.len, h.on, h.top, h.head, h.tail⟩
theorem strInfo : (Try.prog.info? 9).map (fun i => (i.zero, i.size, i.bytes)) = some (some (.string ⟨#[]⟩), 1, 16) := by kernel_rfl
theorem ints_at {W : World} {p : Option Addr} {n c : Nat} {zs : List Int} (h : W.ownsRow 0 3 1 (.slice p n c) n (ints zs)) : NumsAt .i64 W p zs := by
  intro i hi
  have hx : (ints zs)[i]? = some (.int .i64 (zs.getD i 0)) := by
    rw [ints, List.getElem?_map, List.getElem?_eq_getElem hi, List.getD_eq_getElem?_getD, List.getElem?_eq_getElem hi]; rfl
  obtain ⟨g, rfl, hc⟩ := row_at h hx
  refine ⟨⟨g, 0, none⟩, rfl, ?_, by rw [Go.WideShapes.add_plain, Nat.zero_add]; exact hc⟩
  rcases h.2 with ⟨hv, _⟩ | ⟨g', cap, cur, hv, _, hg, _⟩
  · cases hv
  · injection hv with e _ _
    injection e with e
    injection e with e _ _
    subst e
    exact (Array.getElem?_eq_some_iff.1 hg).1
theorem run_conv_bytes (X : World) (x : List UInt8) : (convert 9 36 (.string (strOf x))).run Try.prog X = .ok (.slice (some ⟨X.heap.size, 0, none⟩) x.length (grownCap X x.length 0 5)) (Go.Lib.bytesWorld X 5 (strOf x)) := by
  have h := Go.Lib.run_convert_string_bytes (P := Try.prog) X 9 36 5 (strOf x) Try.underlying9 Try.underlying36 Try.underlying5
  rw [strOf_size] at h
  exact h
theorem layAll_fits (xs : List (List UInt8)) (h : ∀ b ∈ xs, b.length ≤ 300) (hl : xs.length ≤ 64) : (layAll xs).length ≤ 24576 := by
  have h1 := Roomy.all xs [] 0 Roomy.zero h
  obtain ⟨q, c, h2, h3, h4, h5⟩ := h1
  show (layFrom [] xs).length ≤ 24576
  omega
theorem row_cap {W : World} {b n c : Nat} {e : TypeId} {p : Option Addr} {xs : List Value} (h : W.ownsRow b e 1 (.slice p n c) n xs) : n ≤ c := by
  rcases h.2 with ⟨hv, h0⟩ | ⟨g1, cap, cur, hv, _, _, h1, _⟩
  · omega
  · injection hv with _ _ e3
    omega
theorem slice_ints (X : World) (p : Option Addr) (n c k : Nat) (h : k ≤ c) : (Instr.sliceAt 40 (.slice p n c) none (some (.int .i64 (k : Int))) none).run Try.prog X = .ok (.slice p k c) X := by
  have ht : Try.prog.underlying 40 = some (.slice (Try.prog.elem 40)) := by kernel_rfl
  have hs : (sizeOf (Try.prog.elem 40)).run Try.prog X = .ok 1 X := by kernel_rfl
  rw [run_sliceAt_slice (w := X) _ _ _ _ _ ht, run_slice_h (w := X) _ p n c ht .i64 k (by omega) (by omega), hs]
  have h0 : p.map (·.add (0 * 1)) = p := by cases p <;> simp [Addr.add]
  simp [sliced, h0, Result.andThen]
def SuRel (w : World) (d : Nat) (s : DS) (lg rg T : Nat) (bs : List (List UInt8)) (ps : List Asr) (v59 : Value) (wr : World) : Prop :=
  ∃ (j : Nat) (wp : Option Addr) (wc : Nat) (ws : List Bw), j ≤ bs.length ∧ v59 = .int .i64 j ∧ grOf ws = bs.take j ∧ (∀ b ∈ grOf ws, b.length ≤ 300) ∧ dkH w wr d s (logA lg d rg 0 T (.slice wp ws.length wc) false :: wtL wp wc ws ps)
/-- what stands between saves -/
def LgRel (w : World) (d : Nat) (v5 v8 v48 : Value) (wr : World) : Prop :=
  ∃ (i : Nat) (s : DS) (lg rg : Nat) (pr : Option Addr) (rc : Nat) (pa : Option Addr) (ca : Nat) (bs : List (List UInt8)), i ≤ 16 ∧ v48 = .int .i64 i ∧ v5 = .pointer (some ⟨lg, 0, none⟩) ∧ v8 = .slice pa bs.length ca ∧ bs.length ≤ 4 * i ∧ (∀ b ∈ bs, b.length ≤ 300) ∧ LInv s bs (2 * i) ∧
    dkH w wr d s (logA lg d rg 0 (layAll bs).length (.slice none 0 0) false :: rgL rg d (layAll bs).length pr rc (tailR (layAll bs)) [rowA 9 1 (.slice pa bs.length ca) bs.length (stC bs)])
set_option maxHeartbeats 8000000 in
theorem logged_law (w : World) (p : Option Addr) (c : Nat) (ts : List Sv) (hT : SvsAt w p ts) :
    Calls Try.prog 3 #[.slice p ts.length c] w fun e w' => e = .returned (.bool true) ∧ Ext w w' := by
  go_enter Try.func3, Try.ntmps3
  go_wp2_with fail
  refine (new_any (Has.nil (Ext.refl w)) .nil 194 (by omega) (by omega)).mono ?_
  rintro e w1 ⟨d, rfl, h1⟩
  go_upto_region 4 with fail
  go_wp2_with fail
  refine (wopen_any h1 .nil fresh_inv (by decide) (by simp) (by simp)).mono ?_
  rintro e w2 ⟨lg, rg, pr, rc, pf, cf, fs, hfs, rfl, h2⟩
  have h3 : dkH w w2 d (freshD 194) (logA lg d rg 0 (layAll []).length (.slice none 0 0) false :: rgL rg d (layAll []).length pr rc (tailR (layAll [])) []) := h2.drop.dropA
  clear h2 h1
  have hlog : Lg w2 lg d rg 0 0 (.slice none 0 0) false := h3.rest.blk0
  have hring : Ring w2 rg d 0 (.slice pr (tailR (layAll [])).length rc) := h3.rest.drop.blk0
  go_upto_region 5 with fail
  go_wp2_with fail
  refine (walleft_any hlog hring (by omega)).mono ?_
  rintro e w3 ⟨rfl, hE3⟩
  have h4 := h3.ext (.cons (logA_loc _ _ _ _ _ _ _) (rgL_locs .nil)) hE3
  clear h3 hlog hring hE3
  by_cases g16 : (16 : Int) < ts.length
  · have hE := h4.base
    go_wp2_with fail
    go_ret
    exact ⟨rfl, hE⟩
  have h5 := h4.with_ (fun hl h => h.rowNil hl 9 1) (.cons (logA_loc _ _ _ _ _ _ _) (rgL_locs .nil))
  have h6 := dkH.pick (l := [_, _, _, _]) (ps := []) h5 [1, 2, 3, 0] (by rfl)
  clear h4 h5
  go_wp2_with fail
  go_loopw [5, 8, 48] (fun v5 v8 v48 wr => LgRel w d v5 v8 v48 wr) (fun _ _ v48 _ => ((ts.length : Int) + 1 - intOf v48).toNat)
  case atStart => exact ⟨0, freshD 194, lg, rg, pr, rc, none, 0, [], by omega, rfl, rfl, rfl, by simp, by simp, fresh_inv, h6⟩
  case round =>
    clear h6
    obtain ⟨i, s, lg, rg, pr, rc, pa, ca, bs, hi, rfl, rfl, rfl, hbl, hb3, hI, h1⟩ := hrel
    have hE1 := h1.base
    by_cases gi : (i : Int) < ts.length
    · obtain ⟨pb, po, rfl, hpb, hcells, hok⟩ := hT i (by omega)
      have x0 := (hE1.cell pb _ hpb).trans (hcells 0 (by omega))
      have x1 := (hE1.cell pb _ hpb).trans (hcells 1 (by omega))
      have x2 := (hE1.cell pb _ hpb).trans (hcells 2 (by omega))
      have x3 := (hE1.cell pb _ hpb).trans (hcells 3 (by omega))
      clear hcells hpb
      generalize ts[i]'(by omega) = o at *
      obtain ⟨sp, sc, gr, f, kp, z⟩ := o
      simp only [Sv.cells, List.getElem?_cons_zero, List.getElem?_cons_succ] at x0 x1 x2 x3
      simp only [← Nat.add_assoc, Nat.add_zero] at x0 x1 x2 x3
      obtain ⟨hat, hnil, hle, hcap, ⟨hf1, hf2⟩, ⟨hk1, hk2⟩, ⟨hz1, hz2⟩⟩ := hok
      simp only at hat hnil hle hcap hf1 hf2 hk1 hk2 hz1 hz2
      go_upto_region 13 with fail
      have LP : ∀ {q : List Asr}, Locs q → Locs (logA lg d rg 0 (layAll bs).length (.slice none 0 0) false :: rgL rg d (layAll bs).length pr rc (tailR (layAll bs)) q) := fun h => .cons (logA_loc _ _ _ _ _ _ _) (rgL_locs h)
      have h2 := h1.new (LP (.cons (rowA_loc _ _ _ _ _) .nil)) 34 #[.slice sp gr.length sc, .int .i64 f, .int .i64 kp, .int .i64 z]
      clear h1 x0 x1 x2 x3
      refine gen_world' (fun X => dkH w X d s (blkA wr.heap.size 34 #[.slice sp gr.length sc, .int .i64 f, .int .i64 kp, .int .i64 z] :: logA lg d rg 0 (layAll bs).length (.slice none 0 0) false :: rgL rg d (layAll bs).length pr rc (tailR (layAll bs)) [rowA 9 1 (.slice pa bs.length ca) bs.length (stC bs)])) h2 ?_
      clear h2 hE1
      generalize wr.heap.size = gn at *
      intro w2 h2
      have hE2 := h2.base
      have k0 : World.cell? w2 ⟨gn, 0, none⟩ = some (.slice sp gr.length sc) := h2.rest.blk0.cell 0
      by_cases g4 : (4 : Int) < gr.length
      · go_wp2_with fail
        go_ret
        exact ⟨rfl, hE2⟩
      have h3 := h2.with_ (fun hl h => h.rowNil hl 36 1) (.cons (blkA_loc _ _ _) (LP (.cons (rowA_loc _ _ _ _ _) .nil)))
      have h4 := dkH.pick (l := [_, _, _, _, _, _]) (ps := []) h3 [2, 0, 3, 4, 1, 5] (by rfl)
      clear h3 h2 hE2
      go_wp2_with fail
      clear k0
      go_loopw [59] (fun v59 wr => SuRel w d s lg rg (layAll bs).length gr (rgL rg d (layAll bs).length pr rc (tailR (layAll bs)) [blkA gn 34 #[.slice sp gr.length sc, .int .i64 f, .int .i64 kp, .int .i64 z], rowA 9 1 (.slice pa bs.length ca) bs.length (stC bs)]) v59 wr) (fun v59 _ => ((gr.length : Int) + 1 - intOf v59).toNat)
      case atStart => exact ⟨0, none, 0, [], Nat.zero_le _, rfl, rfl, (fun b hb => by cases hb), h4⟩
      case round =>
        clear h4
        obtain ⟨j, wp, wc, ws, hj, rfl, hgr, hg3, h5⟩ := hrel
        have hE5 := h5.base
        have LG : Locs (rgL rg d (layAll bs).length pr rc (tailR (layAll bs)) [blkA gn 34 #[.slice sp gr.length sc, .int .i64 f, .int .i64 kp, .int .i64 z], rowA 9 1 (.slice pa bs.length ca) bs.length (stC bs)]) := rgL_locs (.cons (blkA_loc _ _ _) (.cons (rowA_loc _ _ _ _ _) .nil))
        by_cases gj : (j : Int) < gr.length
        · have hjn : j < gr.length := by omega
          obtain ⟨qb, qo, hqp, hqb, hqc⟩ := hat j hjn
          have y0 := (hE5.cell qb _ hqb).trans hqc
          have hxe : gr[j]? = some gr[j] := List.getElem?_eq_getElem hjn
          have HX := Lib.hid hxe
          clear hqc hxe hqb
          generalize gr[j] = x at *
          have hHS := Lib.hid (And.intro hgr hg3)
          have HQP := Lib.hid hqp
          subst hqp
          clear hgr hg3
          have hls := strOf_size x
          have hls2 : ({ data := x.toArray } : ByteArray).size = x.length := hls
          by_cases g300 : (300 : Int) < x.length
          · clear h5
            go_wp2_with fail
            go_ret
            exact ⟨rfl, hE5⟩
          have hcv := fun X : World => run_conv_bytes X x
          have hwl : ws.length = j := by
            have := congrArg List.length hHS.out.1
            rw [grOf_length, List.length_take] at this
            omega
          have h6 := wt_in (h5.with_ (fun hl h => h.strView hl x (by omega)) (.cons (logA_loc _ _ _ _ _ _ _) (wtL_locs LG)))
          go_wp2_with fail
          refine (submit_any h6 (.cons (viewA_loc _ _ _) LG) _ _ x (fun X hX => by obtain ⟨F, hF⟩ := hX.head; exact hF.1) (by omega) (by omega)).mono ?_
          clear h5 h6
          rintro e w3 ⟨p3, c3, x3, rfl, hx3, h7⟩
          have h8 := wt_out h7
          go_wp2_with fail
          refine ⟨⟨j + 1, p3, c3, ws ++ [x3], by omega, by go_num, ?_, ?_, ?_⟩, by simp [intOf]; omega⟩
          · unfold grOf at hHS ⊢
            rw [List.map_append, hHS.out.1, List.take_add_one, HX.out, List.map_cons, hx3]
            rfl
          · intro b hb
            unfold grOf at hb
            rw [List.map_append, List.mem_append] at hb
            rcases hb with hb | hb
            · exact hHS.out.2 b hb
            · simp at hb
              rw [hb, hx3]; omega
          · rw [List.length_append]
            exact h8
        · have hjj : j = gr.length := by omega
          have hgr2 : grOf ws = gr := by rw [hgr, hjj, List.take_length]
          have hwl : ws.length = gr.length := by rw [← grOf_length, hgr2]
          clear hgr hjj
          have hB := Has.blk h5.rest (g := gn) (T := 34) (cs := #[.slice sp gr.length sc, .int .i64 f, .int .i64 kp, .int .i64 z]) (by simp [wtL, rgL])
          have k1 : World.cell? wr ⟨gn, 1, none⟩ = some (.int .i64 f) := Blk.cell hB 1
          go_wp2_with fail
          refine (fuse_any h5 (.cons (logA_loc _ _ _ _ _ _ _) (wtL_locs LG)) f hf1 hf2).mono ?_
          clear h5 k1 hB hE5
          rintro e w3 ⟨rfl, h6⟩
          have hI2 := hI.fuse (max f (-1))
          generalize s.setF s.down (max f (-1)) = sF at *
          go_wp2_with fail
          refine (commit_any h6 (.cons (blkA_loc _ _ _) (.cons (rowA_loc _ _ _ _ _) .nil)) hI2 (by omega) hb3 hg3 (by omega)).mono ?_
          clear h6 hI2 LG
          rintro e w4 ⟨n, y, sC, rfl, hy, hn, h7, hC⟩
          rw [hgr2] at hC
          rw [hgr2] at hg3
          rw [hwl] at hn
          clear hgr2 hwl
          rcases hy with rfl | rfl
          · have hn0 := hn rfl
            subst hn0
            clear hn
            go_upto_region 27 with fail
            obtain ⟨i0, hi0, hz0, hz1, hz2⟩ := info_parts strInfo
            have LB : Locs [blkA gn 34 #[.slice sp gr.length sc, .int .i64 f, .int .i64 kp, .int .i64 z], rowA 9 1 (.slice pa bs.length ca) bs.length (stC bs)] := .cons (blkA_loc _ _ _) (.cons (rowA_loc _ _ _ _ _) .nil)
            have d0 : ∀ x : Of (fun X => Blk X gn 34 #[.slice sp gr.length sc, .int .i64 f, .int .i64 kp, .int .i64 z]), x.val.cell? ⟨gn, 0, none⟩ = some (.slice sp gr.length sc) := fun x => Blk.cell x.property 0
            have hFd := (show Blk w4.drew gn 34 #[.slice sp gr.length sc, .int .i64 f, .int .i64 kp, .int .i64 z] from h7.rest.blk0)
            have hne_ : Nonempty (Of ((fun X => Blk X gn 34 #[.slice sp gr.length sc, .int .i64 f, .int .i64 kp, .int .i64 z]))) := ⟨⟨_, hFd⟩⟩
            refine region_steps [1,3,4,0,2,5,6] [true,true,true,false,false,false,true] ((fun X => Blk X gn 34 #[.slice sp gr.length sc, .int .i64 f, .int .i64 kp, .int .i64 z])) (by kernel_rfl) (by kernel_rfl) hFd ?_
            simp only [List.filterMap_cons, List.filterMap_nil, List.getElem?_cons_zero, List.getElem?_cons_succ]
            have h8 := h7.ext LB (Ext.refl w4).drew
            clear h7
            generalize World.drew w4 = w5 at *
            refine steps_quiet 3 (by kernel_rfl) ?_
            simp only [List.take_succ_cons, List.take_zero, List.drop_succ_cons, List.drop_zero]
            repeat (go_big_quiet_step (fail))
            refine wpQuiet_nil ?_
            clear hFd d0
            have hE6 := ext_alloc w5 (.cells #[] 9)
            have hlit := World.ownsRow_made (base := 0) (e := 9) (size := 1) w5 #[] 0 (Nat.zero_le _) (by simp) rfl
            have h9 := h8.ext LB hE6
            refine steps_want rfl (fun K hK => ?_)
            go_simp
            refine hK _ _ (fun X => Blk X gn 34 #[.slice sp gr.length sc, .int .i64 f, .int .i64 kp, .int .i64 z]) h9.rest.blk0 (fun _ h => h) ?_
            clear hK K
            (try simp only [Act.put, List.setIfInBounds_toArray, List.set_cons_succ, List.set_cons_zero])
            have hrow := h9.rest.drop.row0
            refine steps_want rfl (fun K hK => ?_)
            refine wp_append_new _ _ 32 rfl 9 i0 (.string ⟨#[]⟩) 1 16 Try.underlying32 hi0 hz0 hz1 hz2 rfl (by decide) _ 0 [] rfl hlit pa bs.length ca (stC bs) rfl (by rw [stC_length, Nat.mul_one]) (row_nil hrow) (row_news hrow) (stC_one bs) (by unfold maxLen; omega) (by omega) ?_
            intro v' w6 hown6 hg6 hf6
            obtain ⟨p6, c6, rfl⟩ := ownsRow_slice hown6
            obtain ⟨hE7, hown7⟩ := fresh_grown hown6 hg6 hf6
            have h10 := h8.fresh LB (hE7) hown7
            rw [Nat.zero_add, List.nil_append] at h10
            rw [Nat.zero_add]
            clear h8 h9 hrow hown6 hg6 hf6 hE7 hown7 hlit hE6
            refine hK _ _ (fun X => Blk X gn 34 #[.slice sp gr.length sc, .int .i64 f, .int .i64 kp, .int .i64 z]) h10.rest.drop.blk0 (fun _ h => h) ?_
            clear hK K
            (try simp only [Act.put, List.setIfInBounds_toArray, List.set_cons_succ, List.set_cons_zero])
            refine steps_want rfl (fun K hK => ?_)
            refine wp_append_new _ _ 32 rfl 9 i0 (.string ⟨#[]⟩) 1 16 Try.underlying32 hi0 hz0 hz1 hz2 rfl (by decide) _ bs.length (stC bs) rfl h10.rest.row0 sp gr.length sc (stC gr) rfl (by rw [stC_length, Nat.mul_one]) hnil (StrsAt.news (hat.ext h10.base)) (stC_one gr) (by unfold maxLen; omega) (by omega) ?_
            intro v' w7 hown7 hg7 hf7
            obtain ⟨p7, c7, rfl⟩ := ownsRow_slice hown7
            have h11 := h10.turn (fun hl h => h.grow hl hown7 hg7 hf7) LB
            rw [stC_append, ← List.length_append] at h11
            rw [← List.length_append]
            clear h10 hown7 hg7 hf7 hi0 hz0 hz1 hz2
            refine hK _ _ (fun X => Blk X gn 34 #[.slice sp gr.length sc, .int .i64 f, .int .i64 kp, .int .i64 z]) h11.rest.drop.blk0 (fun _ h => h) ?_
            clear hK K
            (try simp only [Act.put, List.setIfInBounds_toArray, List.set_cons_succ, List.set_cons_zero])
            refine steps_quiet 1 (by kernel_rfl) ?_
            simp only [List.take_succ_cons, List.take_zero, List.drop_succ_cons, List.drop_zero]
            repeat (go_big_quiet_step (fail))
            refine wpQuiet_nil ?_
            refine steps_nil ?_
            have hgl : (bs ++ gr).length ≤ 4 * (i + 1) := by rw [List.length_append]; omega
            have hgb : ∀ b ∈ bs ++ gr, b.length ≤ 300 := by
              intro b hb
              rcases List.mem_append.1 hb with hb | hb
              · exact hb3 b hb
              · exact hg3 b hb
            generalize bs ++ gr = grp at *
            obtain ⟨L, hL⟩ : ∃ L, [rowA 9 1 (.slice p7 grp.length c7) grp.length (stC grp), blkA gn 34 #[.slice sp gr.length sc, .int .i64 f, .int .i64 kp, .int .i64 z], rowA 9 1 (.slice pa bs.length ca) bs.length (stC bs)] = L := ⟨_, rfl⟩
            have hG : rowA 9 1 (.slice p7 grp.length c7) grp.length (stC grp) ∈ L := by rw [← hL]; simp
            have hSv : blkA gn 34 #[.slice sp gr.length sc, .int .i64 f, .int .i64 kp, .int .i64 z] ∈ L := by rw [← hL]; simp
            have hA0 : rowA 9 1 (.slice pa bs.length ca) bs.length (stC bs) ∈ L := by rw [← hL]; simp
            have LL : Locs L := by rw [← hL]; exact .cons (rowA_loc _ _ _ _ _) LB
            rw [hL] at h11
            clear hL LB
            have k0 : World.cell? w7 ⟨gn, 0, none⟩ = some (.slice sp gr.length sc) := Blk.cell (Has.blk h11.rest hSv) 0
            go_wp2_with fail
            have hC2 : ∀ (k : List Int) (t a : Int) (sD : DS), (sC.crashS k t a).upS = sD → LInv sD grp (2 * i + 2) ∨ LInv sD grp (2 * i + 2) := (fun k t a sD h => Or.inl ((hC k t a sD h).2 (by first | trivial | rfl)))
            clear k0
            refine (pending_any h11 LL).mono ?_
            clear h11
            rintro e w8 ⟨pl, cl, rfl, h12⟩
            have hzl4 : sC.pendL.length ≤ maxLen := by
              unfold DS.pendL
              rw [List.length_map]
              have h1 := List.length_filter_le (fun i => (sC.pend i).isSome) (List.range sC.n)
              rw [List.length_range] at h1
              have h2 := h12.1.n
              unfold maxLen; omega
            generalize sC.pendL = zl at *
            have HZ4 := Lib.hid hzl4
            clear hzl4
            obtain ⟨kl, rl0, hkz, hkk⟩ : ∃ kl rl : List Int, zl = kl ++ rl ∧ max 0 (min kp (zl.length : Int)) = (kl.length : Int) := ⟨zl.take (max 0 (min kp (zl.length : Int))).toNat, zl.drop (max 0 (min kp (zl.length : Int))).toNat, (List.take_append_drop _ _).symm, by rw [List.length_take]; omega⟩
            have HKZ := Lib.hid hkz
            have hrow := h12.rest.row0
            have hcl : kl.length ≤ cl := by
              have h1 := row_cap hrow
              rw [hkz, List.length_append] at h1
              omega
            have k2 : World.cell? w8 ⟨gn, 2, none⟩ = some (.int .i64 kp) := Blk.cell (Has.blk h12.rest (.tail _ hSv)) 2
            cases rl0 with
            | nil =>
              have hlz : ¬ (kl.length : Int) < zl.length := by rw [hkz, List.append_nil]; omega
              have hsl := fun X => slice_ints X pl zl.length cl kl.length hcl
              generalize hr0 : ([] : List Int) = rl0 at *
              clear hkz hrow
              go_upto_region 37 with fail
              clear hlz hkk k2
              have d3 : ∀ x : Of (fun X => Blk X gn 34 #[.slice sp gr.length sc, .int .i64 f, .int .i64 kp, .int .i64 z]), x.val.cell? ⟨gn, 3, none⟩ = some (.int .i64 z) := fun x => Blk.cell x.property 3
              have h13 := h12.ext (.cons (rowA_loc _ _ _ _ _) LL) (Ext.refl w8).drew
              have hFd := (Has.blk h13.rest (.tail _ hSv))
              have hne_ : Nonempty (Of ((fun X => Blk X gn 34 #[.slice sp gr.length sc, .int .i64 f, .int .i64 kp, .int .i64 z]))) := ⟨⟨_, hFd⟩⟩
              refine region_steps [0,1,2,4,5,3,6,7] [true,true,true,true,true,true,true,false] ((fun X => Blk X gn 34 #[.slice sp gr.length sc, .int .i64 f, .int .i64 kp, .int .i64 z])) (by kernel_rfl) (by kernel_rfl) hFd ?_
              simp only [List.filterMap_cons, List.filterMap_nil, List.getElem?_cons_zero, List.getElem?_cons_succ]
              refine steps_quiet 7 (by kernel_rfl) ?_
              simp only [List.take_succ_cons, List.take_zero, List.drop_succ_cons, List.drop_zero]
              repeat (go_big_quiet_step (fail))
              refine wpQuiet_nil ?_
              clear h12 hFd d3 hsl
              generalize World.drew w8 = w9 at *
              refine steps_want rfl (fun K hK => ?_)
              go_simp
              refine (crash_any h13 (.cons (rowA_loc _ _ _ _ _) LL) _ cl kl (-1) z (fun X hX => NumsAt.pre (b := rl0) (by have h0 := ints_at hX.row0; rw [HKZ.out] at h0; exact h0)) (by have h0 := HZ4.out; rw [HKZ.out, List.length_append] at h0; omega)).mono ?_
              rintro e w10 ⟨rfl, h14⟩
              have h15 := h14.drop
              clear h13 h14
              refine hK _ _ (fun X => Blk X gn 34 #[.slice sp gr.length sc, .int .i64 f, .int .i64 kp, .int .i64 z]) (Has.blk h15.rest hSv) (fun _ h => h) ?_
              clear hK K
              (try simp only [Act.put, List.setIfInBounds_toArray, List.set_cons_succ, List.set_cons_zero])
              refine steps_nil ?_
              go_wp2_with fail
              refine (up_any h15 LL).mono ?_
              clear h15
              rintro e w11 ⟨rfl, h16⟩
              obtain ⟨sD, hD⟩ : ∃ sD, (sC.crashS kl (-1) z).upS = sD := ⟨_, rfl⟩
              rw [hD] at h16
              have hinv := hC2 kl (-1) z sD hD
              clear hD
              go_wp2_with fail
              rcases hinv with hI3 | hI3
              · have hT24 : (layAll grp).length ≤ 24576 := layAll_fits grp hgb (by have := hgl; omega)
                refine (wopen_any h16 LL hI3 hT24 hgb (by have := hgl; omega)).mono ?_
                clear h16 hT24
                rintro e w12 ⟨lg2, rg2, pr2, rc2, pf2, cf2, fs2, hfs, rfl, h17⟩
                have LF : Locs (frL pf2 cf2 fs2 (logA lg2 d rg2 0 (layAll grp).length (.slice none 0 0) false :: rgL rg2 d (layAll grp).length pr2 rc2 (tailR (layAll grp)) L)) := frL_locs (.cons (logA_loc _ _ _ _ _ _ _) (rgL_locs LL))
                go_wp2_with fail
                refine (logged_any h17 LF (.head _) (fun x hx => .tail _ (List.mem_append_left _ (List.mem_map_of_mem hx))) (.tail _ (List.mem_append_right _ (.tail _ (.tail _ (.tail _ hG)))))).mono ?_
                clear h17
                rintro e w13 ⟨rfl, h18⟩
                rw [hfs]
                by_cases hge : grp = grp
                · have hdt : decide (grp = grp) = true := decide_eq_true hge
                  rw [hdt]
                  rw [hge] at hI3 h18
                  go_wp2_with fail
                  refine ⟨⟨i + 1, sD, lg2, rg2, pr2, rc2, p7, c7, grp, by omega, by go_num, rfl, rfl, hgl, hgb, by rw [show 2 * (i + 1) = 2 * i + 2 by omega]; exact hI3, ?_⟩, by simp [intOf]; omega⟩
                  exact dkH.only (a := [_, _, _]) (dkH.dropA (dkH.drop h18)) hG
                · have hdt : decide (grp = grp) = false := decide_eq_false hge
                  rw [hdt]
                  go_wp2_with fail
                  refine (logged_any h18 LF (.head _) (fun x hx => .tail _ (List.mem_append_left _ (List.mem_map_of_mem hx))) (.tail _ (List.mem_append_right _ (.tail _ (.tail _ (.tail _ hG)))))).mono ?_
                  clear h18
                  rintro e w14 ⟨rfl, h18⟩
                  rw [hfs]
                  have hdt2 : decide (grp = grp) = true := decide_eq_true rfl
                  rw [hdt2]
                  go_wp2_with fail
                  refine ⟨⟨i + 1, sD, lg2, rg2, pr2, rc2, p7, c7, grp, by omega, by go_num, rfl, rfl, hgl, hgb, by rw [show 2 * (i + 1) = 2 * i + 2 by omega]; exact hI3, ?_⟩, by simp [intOf]; omega⟩
                  exact dkH.only (a := [_, _, _]) (dkH.dropA (dkH.drop h18)) hG
              · have hT24 : (layAll grp).length ≤ 24576 := layAll_fits grp hgb (by have := hgl; omega)
                refine (wopen_any h16 LL hI3 hT24 hgb (by have := hgl; omega)).mono ?_
                clear h16 hT24
                rintro e w12 ⟨lg2, rg2, pr2, rc2, pf2, cf2, fs2, hfs, rfl, h17⟩
                have LF : Locs (frL pf2 cf2 fs2 (logA lg2 d rg2 0 (layAll grp).length (.slice none 0 0) false :: rgL rg2 d (layAll grp).length pr2 rc2 (tailR (layAll grp)) L)) := frL_locs (.cons (logA_loc _ _ _ _ _ _ _) (rgL_locs LL))
                go_wp2_with fail
                refine (logged_any h17 LF (.head _) (fun x hx => .tail _ (List.mem_append_left _ (List.mem_map_of_mem hx))) (.tail _ (List.mem_append_right _ (.tail _ (.tail _ (.tail _ hG)))))).mono ?_
                clear h17
                rintro e w13 ⟨rfl, h18⟩
                rw [hfs]
                have hdt2 : decide (grp = grp) = true := decide_eq_true rfl
                rw [hdt2]
                go_wp2_with fail
                refine ⟨⟨i + 1, sD, lg2, rg2, pr2, rc2, p7, c7, grp, by omega, by go_num, rfl, rfl, hgl, hgb, by rw [show 2 * (i + 1) = 2 * i + 2 by omega]; exact hI3, ?_⟩, by simp [intOf]; omega⟩
                exact dkH.only (a := [_, _, _]) (dkH.dropA (dkH.drop h18)) hG
            | cons t r =>
              have hlz : (kl.length : Int) < zl.length := by rw [hkz, List.length_append, List.length_cons]; omega
              have hx : (ints zl)[kl.length]? = some (.int .i64 t) := by rw [hkz]; simp [ints]
              obtain ⟨gp, rfl, hct⟩ := row_at hrow hx
              have hsl := fun X => slice_ints X (some ⟨gp, 0, none⟩) zl.length cl kl.length hcl
              generalize hr0 : t :: r = rl0 at *
              clear hkz hrow hx
              go_upto_region 37 with fail
              clear hlz hkk k2 hct
              have d3 : ∀ x : Of (fun X => Blk X gn 34 #[.slice sp gr.length sc, .int .i64 f, .int .i64 kp, .int .i64 z]), x.val.cell? ⟨gn, 3, none⟩ = some (.int .i64 z) := fun x => Blk.cell x.property 3
              have h13 := h12.ext (.cons (rowA_loc _ _ _ _ _) LL) (Ext.refl w8).drew
              have hFd := (Has.blk h13.rest (.tail _ hSv))
              have hne_ : Nonempty (Of ((fun X => Blk X gn 34 #[.slice sp gr.length sc, .int .i64 f, .int .i64 kp, .int .i64 z]))) := ⟨⟨_, hFd⟩⟩
              refine region_steps [0,1,2,4,5,3,6,7] [true,true,true,true,true,true,true,false] ((fun X => Blk X gn 34 #[.slice sp gr.length sc, .int .i64 f, .int .i64 kp, .int .i64 z])) (by kernel_rfl) (by kernel_rfl) hFd ?_
              simp only [List.filterMap_cons, List.filterMap_nil, List.getElem?_cons_zero, List.getElem?_cons_succ]
              refine steps_quiet 7 (by kernel_rfl) ?_
              simp only [List.take_succ_cons, List.take_zero, List.drop_succ_cons, List.drop_zero]
              repeat (go_big_quiet_step (fail))
              refine wpQuiet_nil ?_
              clear h12 hFd d3 hsl
              generalize World.drew w8 = w9 at *
              refine steps_want rfl (fun K hK => ?_)
              go_simp
              refine (crash_any h13 (.cons (rowA_loc _ _ _ _ _) LL) _ cl kl t z (fun X hX => NumsAt.pre (b := rl0) (by have h0 := ints_at hX.row0; rw [HKZ.out] at h0; exact h0)) (by have h0 := HZ4.out; rw [HKZ.out, List.length_append] at h0; omega)).mono ?_
              rintro e w10 ⟨rfl, h14⟩
              have h15 := h14.drop
              clear h13 h14
              refine hK _ _ (fun X => Blk X gn 34 #[.slice sp gr.length sc, .int .i64 f, .int .i64 kp, .int .i64 z]) (Has.blk h15.rest hSv) (fun _ h => h) ?_
              clear hK K
              (try simp only [Act.put, List.setIfInBounds_toArray, List.set_cons_succ, List.set_cons_zero])
              refine steps_nil ?_
              go_wp2_with fail
              refine (up_any h15 LL).mono ?_
              clear h15
              rintro e w11 ⟨rfl, h16⟩
              obtain ⟨sD, hD⟩ : ∃ sD, (sC.crashS kl t z).upS = sD := ⟨_, rfl⟩
              rw [hD] at h16
              have hinv := hC2 kl t z sD hD
              clear hD
              go_wp2_with fail
              rcases hinv with hI3 | hI3
              · have hT24 : (layAll grp).length ≤ 24576 := layAll_fits grp hgb (by have := hgl; omega)
                refine (wopen_any h16 LL hI3 hT24 hgb (by have := hgl; omega)).mono ?_
                clear h16 hT24
                rintro e w12 ⟨lg2, rg2, pr2, rc2, pf2, cf2, fs2, hfs, rfl, h17⟩
                have LF : Locs (frL pf2 cf2 fs2 (logA lg2 d rg2 0 (layAll grp).length (.slice none 0 0) false :: rgL rg2 d (layAll grp).length pr2 rc2 (tailR (layAll grp)) L)) := frL_locs (.cons (logA_loc _ _ _ _ _ _ _) (rgL_locs LL))
                go_wp2_with fail
                refine (logged_any h17 LF (.head _) (fun x hx => .tail _ (List.mem_append_left _ (List.mem_map_of_mem hx))) (.tail _ (List.mem_append_right _ (.tail _ (.tail _ (.tail _ hG)))))).mono ?_
                clear h17
                rintro e w13 ⟨rfl, h18⟩
                rw [hfs]
                by_cases hge : grp = grp
                · have hdt : decide (grp = grp) = true := decide_eq_true hge
                  rw [hdt]
                  rw [hge] at hI3 h18
                  go_wp2_with fail
                  refine ⟨⟨i + 1, sD, lg2, rg2, pr2, rc2, p7, c7, grp, by omega, by go_num, rfl, rfl, hgl, hgb, by rw [show 2 * (i + 1) = 2 * i + 2 by omega]; exact hI3, ?_⟩, by simp [intOf]; omega⟩
                  exact dkH.only (a := [_, _, _]) (dkH.dropA (dkH.drop h18)) hG
                · have hdt : decide (grp = grp) = false := decide_eq_false hge
                  rw [hdt]
                  go_wp2_with fail
                  refine (logged_any h18 LF (.head _) (fun x hx => .tail _ (List.mem_append_left _ (List.mem_map_of_mem hx))) (.tail _ (List.mem_append_right _ (.tail _ (.tail _ (.tail _ hG)))))).mono ?_
                  clear h18
                  rintro e w14 ⟨rfl, h18⟩
                  rw [hfs]
                  have hdt2 : decide (grp = grp) = true := decide_eq_true rfl
                  rw [hdt2]
                  go_wp2_with fail
                  refine ⟨⟨i + 1, sD, lg2, rg2, pr2, rc2, p7, c7, grp, by omega, by go_num, rfl, rfl, hgl, hgb, by rw [show 2 * (i + 1) = 2 * i + 2 by omega]; exact hI3, ?_⟩, by simp [intOf]; omega⟩
                  exact dkH.only (a := [_, _, _]) (dkH.dropA (dkH.drop h18)) hG
              · have hT24 : (layAll grp).length ≤ 24576 := layAll_fits grp hgb (by have := hgl; omega)
                refine (wopen_any h16 LL hI3 hT24 hgb (by have := hgl; omega)).mono ?_
                clear h16 hT24
                rintro e w12 ⟨lg2, rg2, pr2, rc2, pf2, cf2, fs2, hfs, rfl, h17⟩
                have LF : Locs (frL pf2 cf2 fs2 (logA lg2 d rg2 0 (layAll grp).length (.slice none 0 0) false :: rgL rg2 d (layAll grp).length pr2 rc2 (tailR (layAll grp)) L)) := frL_locs (.cons (logA_loc _ _ _ _ _ _ _) (rgL_locs LL))
                go_wp2_with fail
                refine (logged_any h17 LF (.head _) (fun x hx => .tail _ (List.mem_append_left _ (List.mem_map_of_mem hx))) (.tail _ (List.mem_append_right _ (.tail _ (.tail _ (.tail _ hG)))))).mono ?_
                clear h17
                rintro e w13 ⟨rfl, h18⟩
                rw [hfs]
                have hdt2 : decide (grp = grp) = true := decide_eq_true rfl
                rw [hdt2]
                go_wp2_with fail
                refine ⟨⟨i + 1, sD, lg2, rg2, pr2, rc2, p7, c7, grp, by omega, by go_num, rfl, rfl, hgl, hgb, by rw [show 2 * (i + 1) = 2 * i + 2 by omega]; exact hI3, ?_⟩, by simp [intOf]; omega⟩
                exact dkH.only (a := [_, _, _]) (dkH.dropA (dkH.drop h18)) hG
          · go_upto_region 27 with fail
            obtain ⟨i0, hi0, hz0, hz1, hz2⟩ := info_parts strInfo
            have LB : Locs [blkA gn 34 #[.slice sp gr.length sc, .int .i64 f, .int .i64 kp, .int .i64 z], rowA 9 1 (.slice pa bs.length ca) bs.length (stC bs)] := .cons (blkA_loc _ _ _) (.cons (rowA_loc _ _ _ _ _) .nil)
            have d0 : ∀ x : Of (fun X => Blk X gn 34 #[.slice sp gr.length sc, .int .i64 f, .int .i64 kp, .int .i64 z]), x.val.cell? ⟨gn, 0, none⟩ = some (.slice sp gr.length sc) := fun x => Blk.cell x.property 0
            have hFd := (show Blk w4.drew gn 34 #[.slice sp gr.length sc, .int .i64 f, .int .i64 kp, .int .i64 z] from h7.rest.blk0)
            have hne_ : Nonempty (Of ((fun X => Blk X gn 34 #[.slice sp gr.length sc, .int .i64 f, .int .i64 kp, .int .i64 z]))) := ⟨⟨_, hFd⟩⟩
            refine region_steps [1,3,4,0,2,5,6] [true,true,true,false,false,false,true] ((fun X => Blk X gn 34 #[.slice sp gr.length sc, .int .i64 f, .int .i64 kp, .int .i64 z])) (by kernel_rfl) (by kernel_rfl) hFd ?_
            simp only [List.filterMap_cons, List.filterMap_nil, List.getElem?_cons_zero, List.getElem?_cons_succ]
            have h8 := h7.ext LB (Ext.refl w4).drew
            clear h7
            generalize World.drew w4 = w5 at *
            refine steps_quiet 3 (by kernel_rfl) ?_
            simp only [List.take_succ_cons, List.take_zero, List.drop_succ_cons, List.drop_zero]
            repeat (go_big_quiet_step (fail))
            refine wpQuiet_nil ?_
            clear hFd d0
            have hE6 := ext_alloc w5 (.cells #[] 9)
            have hlit := World.ownsRow_made (base := 0) (e := 9) (size := 1) w5 #[] 0 (Nat.zero_le _) (by simp) rfl
            have h9 := h8.ext LB hE6
            refine steps_want rfl (fun K hK => ?_)
            go_simp
            refine hK _ _ (fun X => Blk X gn 34 #[.slice sp gr.length sc, .int .i64 f, .int .i64 kp, .int .i64 z]) h9.rest.blk0 (fun _ h => h) ?_
            clear hK K
            (try simp only [Act.put, List.setIfInBounds_toArray, List.set_cons_succ, List.set_cons_zero])
            have hrow := h9.rest.drop.row0
            refine steps_want rfl (fun K hK => ?_)
            refine wp_append_new _ _ 32 rfl 9 i0 (.string ⟨#[]⟩) 1 16 Try.underlying32 hi0 hz0 hz1 hz2 rfl (by decide) _ 0 [] rfl hlit pa bs.length ca (stC bs) rfl (by rw [stC_length, Nat.mul_one]) (row_nil hrow) (row_news hrow) (stC_one bs) (by unfold maxLen; omega) (by omega) ?_
            intro v' w6 hown6 hg6 hf6
            obtain ⟨p6, c6, rfl⟩ := ownsRow_slice hown6
            obtain ⟨hE7, hown7⟩ := fresh_grown hown6 hg6 hf6
            have h10 := h8.fresh LB (hE7) hown7
            rw [Nat.zero_add, List.nil_append] at h10
            rw [Nat.zero_add]
            clear h8 h9 hrow hown6 hg6 hf6 hE7 hown7 hlit hE6
            refine hK _ _ (fun X => Blk X gn 34 #[.slice sp gr.length sc, .int .i64 f, .int .i64 kp, .int .i64 z]) h10.rest.drop.blk0 (fun _ h => h) ?_
            clear hK K
            (try simp only [Act.put, List.setIfInBounds_toArray, List.set_cons_succ, List.set_cons_zero])
            refine steps_want rfl (fun K hK => ?_)
            refine wp_append_new _ _ 32 rfl 9 i0 (.string ⟨#[]⟩) 1 16 Try.underlying32 hi0 hz0 hz1 hz2 rfl (by decide) _ bs.length (stC bs) rfl h10.rest.row0 sp gr.length sc (stC gr) rfl (by rw [stC_length, Nat.mul_one]) hnil (StrsAt.news (hat.ext h10.base)) (stC_one gr) (by unfold maxLen; omega) (by omega) ?_
            intro v' w7 hown7 hg7 hf7
            obtain ⟨p7, c7, rfl⟩ := ownsRow_slice hown7
            have h11 := h10.turn (fun hl h => h.grow hl hown7 hg7 hf7) LB
            rw [stC_append, ← List.length_append] at h11
            rw [← List.length_append]
            clear h10 hown7 hg7 hf7 hi0 hz0 hz1 hz2
            refine hK _ _ (fun X => Blk X gn 34 #[.slice sp gr.length sc, .int .i64 f, .int .i64 kp, .int .i64 z]) h11.rest.drop.blk0 (fun _ h => h) ?_
            clear hK K
            (try simp only [Act.put, List.setIfInBounds_toArray, List.set_cons_succ, List.set_cons_zero])
            refine steps_quiet 1 (by kernel_rfl) ?_
            simp only [List.take_succ_cons, List.take_zero, List.drop_succ_cons, List.drop_zero]
            repeat (go_big_quiet_step (fail))
            refine wpQuiet_nil ?_
            refine steps_nil ?_
            have hgl : (bs ++ gr).length ≤ 4 * (i + 1) := by rw [List.length_append]; omega
            have hgb : ∀ b ∈ bs ++ gr, b.length ≤ 300 := by
              intro b hb
              rcases List.mem_append.1 hb with hb | hb
              · exact hb3 b hb
              · exact hg3 b hb
            generalize bs ++ gr = grp at *
            obtain ⟨L, hL⟩ : ∃ L, [rowA 9 1 (.slice p7 grp.length c7) grp.length (stC grp), blkA gn 34 #[.slice sp gr.length sc, .int .i64 f, .int .i64 kp, .int .i64 z], rowA 9 1 (.slice pa bs.length ca) bs.length (stC bs)] = L := ⟨_, rfl⟩
            have hG : rowA 9 1 (.slice p7 grp.length c7) grp.length (stC grp) ∈ L := by rw [← hL]; simp
            have hSv : blkA gn 34 #[.slice sp gr.length sc, .int .i64 f, .int .i64 kp, .int .i64 z] ∈ L := by rw [← hL]; simp
            have hA0 : rowA 9 1 (.slice pa bs.length ca) bs.length (stC bs) ∈ L := by rw [← hL]; simp
            have LL : Locs L := by rw [← hL]; exact .cons (rowA_loc _ _ _ _ _) LB
            rw [hL] at h11
            clear hL LB
            have k0 : World.cell? w7 ⟨gn, 0, none⟩ = some (.slice sp gr.length sc) := Blk.cell (Has.blk h11.rest hSv) 0
            go_wp2_with fail
            have hC2 : ∀ (k : List Int) (t a : Int) (sD : DS), (sC.crashS k t a).upS = sD → LInv sD grp (2 * i + 2) ∨ LInv sD bs (2 * i + 2) := (fun k t a sD h => (hC k t a sD h).1)
            clear k0
            refine (pending_any h11 LL).mono ?_
            clear h11
            rintro e w8 ⟨pl, cl, rfl, h12⟩
            have hzl4 : sC.pendL.length ≤ maxLen := by
              unfold DS.pendL
              rw [List.length_map]
              have h1 := List.length_filter_le (fun i => (sC.pend i).isSome) (List.range sC.n)
              rw [List.length_range] at h1
              have h2 := h12.1.n
              unfold maxLen; omega
            generalize sC.pendL = zl at *
            have HZ4 := Lib.hid hzl4
            clear hzl4
            obtain ⟨kl, rl0, hkz, hkk⟩ : ∃ kl rl : List Int, zl = kl ++ rl ∧ max 0 (min kp (zl.length : Int)) = (kl.length : Int) := ⟨zl.take (max 0 (min kp (zl.length : Int))).toNat, zl.drop (max 0 (min kp (zl.length : Int))).toNat, (List.take_append_drop _ _).symm, by rw [List.length_take]; omega⟩
            have HKZ := Lib.hid hkz
            have hrow := h12.rest.row0
            have hcl : kl.length ≤ cl := by
              have h1 := row_cap hrow
              rw [hkz, List.length_append] at h1
              omega
            have k2 : World.cell? w8 ⟨gn, 2, none⟩ = some (.int .i64 kp) := Blk.cell (Has.blk h12.rest (.tail _ hSv)) 2
            cases rl0 with
            | nil =>
              have hlz : ¬ (kl.length : Int) < zl.length := by rw [hkz, List.append_nil]; omega
              have hsl := fun X => slice_ints X pl zl.length cl kl.length hcl
              generalize hr0 : ([] : List Int) = rl0 at *
              clear hkz hrow
              go_upto_region 37 with fail
              clear hlz hkk k2
              have d3 : ∀ x : Of (fun X => Blk X gn 34 #[.slice sp gr.length sc, .int .i64 f, .int .i64 kp, .int .i64 z]), x.val.cell? ⟨gn, 3, none⟩ = some (.int .i64 z) := fun x => Blk.cell x.property 3
              have h13 := h12.ext (.cons (rowA_loc _ _ _ _ _) LL) (Ext.refl w8).drew
              have hFd := (Has.blk h13.rest (.tail _ hSv))
              have hne_ : Nonempty (Of ((fun X => Blk X gn 34 #[.slice sp gr.length sc, .int .i64 f, .int .i64 kp, .int .i64 z]))) := ⟨⟨_, hFd⟩⟩
              refine region_steps [0,1,2,4,5,3,6,7] [true,true,true,true,true,true,true,false] ((fun X => Blk X gn 34 #[.slice sp gr.length sc, .int .i64 f, .int .i64 kp, .int .i64 z])) (by kernel_rfl) (by kernel_rfl) hFd ?_
              simp only [List.filterMap_cons, List.filterMap_nil, List.getElem?_cons_zero, List.getElem?_cons_succ]
              refine steps_quiet 7 (by kernel_rfl) ?_
              simp only [List.take_succ_cons, List.take_zero, List.drop_succ_cons, List.drop_zero]
              repeat (go_big_quiet_step (fail))
              refine wpQuiet_nil ?_
              clear h12 hFd d3 hsl
              generalize World.drew w8 = w9 at *
              refine steps_want rfl (fun K hK => ?_)
              go_simp
              refine (crash_any h13 (.cons (rowA_loc _ _ _ _ _) LL) _ cl kl (-1) z (fun X hX => NumsAt.pre (b := rl0) (by have h0 := ints_at hX.row0; rw [HKZ.out] at h0; exact h0)) (by have h0 := HZ4.out; rw [HKZ.out, List.length_append] at h0; omega)).mono ?_
              rintro e w10 ⟨rfl, h14⟩
              have h15 := h14.drop
              clear h13 h14
              refine hK _ _ (fun X => Blk X gn 34 #[.slice sp gr.length sc, .int .i64 f, .int .i64 kp, .int .i64 z]) (Has.blk h15.rest hSv) (fun _ h => h) ?_
              clear hK K
              (try simp only [Act.put, List.setIfInBounds_toArray, List.set_cons_succ, List.set_cons_zero])
              refine steps_nil ?_
              go_wp2_with fail
              refine (up_any h15 LL).mono ?_
              clear h15
              rintro e w11 ⟨rfl, h16⟩
              obtain ⟨sD, hD⟩ : ∃ sD, (sC.crashS kl (-1) z).upS = sD := ⟨_, rfl⟩
              rw [hD] at h16
              have hinv := hC2 kl (-1) z sD hD
              clear hD
              go_wp2_with fail
              rcases hinv with hI3 | hI3
              · have hT24 : (layAll grp).length ≤ 24576 := layAll_fits grp hgb (by have := hgl; omega)
                refine (wopen_any h16 LL hI3 hT24 hgb (by have := hgl; omega)).mono ?_
                clear h16 hT24
                rintro e w12 ⟨lg2, rg2, pr2, rc2, pf2, cf2, fs2, hfs, rfl, h17⟩
                have LF : Locs (frL pf2 cf2 fs2 (logA lg2 d rg2 0 (layAll grp).length (.slice none 0 0) false :: rgL rg2 d (layAll grp).length pr2 rc2 (tailR (layAll grp)) L)) := frL_locs (.cons (logA_loc _ _ _ _ _ _ _) (rgL_locs LL))
                go_wp2_with fail
                refine (logged_any h17 LF (.head _) (fun x hx => .tail _ (List.mem_append_left _ (List.mem_map_of_mem hx))) (.tail _ (List.mem_append_right _ (.tail _ (.tail _ (.tail _ hA0)))))).mono ?_
                clear h17
                rintro e w13 ⟨rfl, h18⟩
                rw [hfs]
                by_cases hge : grp = bs
                · have hdt : decide (grp = bs) = true := decide_eq_true hge
                  rw [hdt]
                  rw [hge] at hI3 h18
                  go_wp2_with fail
                  refine ⟨⟨i + 1, sD, lg2, rg2, pr2, rc2, pa, ca, bs, by omega, by go_num, rfl, rfl, (by omega), hb3, by rw [show 2 * (i + 1) = 2 * i + 2 by omega]; exact hI3, ?_⟩, by simp [intOf]; omega⟩
                  exact dkH.only (a := [_, _, _]) (dkH.dropA (dkH.drop h18)) hA0
                · have hdt : decide (grp = bs) = false := decide_eq_false hge
                  rw [hdt]
                  go_wp2_with fail
                  refine (logged_any h18 LF (.head _) (fun x hx => .tail _ (List.mem_append_left _ (List.mem_map_of_mem hx))) (.tail _ (List.mem_append_right _ (.tail _ (.tail _ (.tail _ hG)))))).mono ?_
                  clear h18
                  rintro e w14 ⟨rfl, h18⟩
                  rw [hfs]
                  have hdt2 : decide (grp = grp) = true := decide_eq_true rfl
                  rw [hdt2]
                  go_wp2_with fail
                  refine ⟨⟨i + 1, sD, lg2, rg2, pr2, rc2, p7, c7, grp, by omega, by go_num, rfl, rfl, hgl, hgb, by rw [show 2 * (i + 1) = 2 * i + 2 by omega]; exact hI3, ?_⟩, by simp [intOf]; omega⟩
                  exact dkH.only (a := [_, _, _]) (dkH.dropA (dkH.drop h18)) hG
              · have hT24 : (layAll bs).length ≤ 24576 := layAll_fits bs hb3 (by have := (by omega); omega)
                refine (wopen_any h16 LL hI3 hT24 hb3 (by have := (by omega); omega)).mono ?_
                clear h16 hT24
                rintro e w12 ⟨lg2, rg2, pr2, rc2, pf2, cf2, fs2, hfs, rfl, h17⟩
                have LF : Locs (frL pf2 cf2 fs2 (logA lg2 d rg2 0 (layAll bs).length (.slice none 0 0) false :: rgL rg2 d (layAll bs).length pr2 rc2 (tailR (layAll bs)) L)) := frL_locs (.cons (logA_loc _ _ _ _ _ _ _) (rgL_locs LL))
                go_wp2_with fail
                refine (logged_any h17 LF (.head _) (fun x hx => .tail _ (List.mem_append_left _ (List.mem_map_of_mem hx))) (.tail _ (List.mem_append_right _ (.tail _ (.tail _ (.tail _ hA0)))))).mono ?_
                clear h17
                rintro e w13 ⟨rfl, h18⟩
                rw [hfs]
                have hdt2 : decide (bs = bs) = true := decide_eq_true rfl
                rw [hdt2]
                go_wp2_with fail
                refine ⟨⟨i + 1, sD, lg2, rg2, pr2, rc2, pa, ca, bs, by omega, by go_num, rfl, rfl, (by omega), hb3, by rw [show 2 * (i + 1) = 2 * i + 2 by omega]; exact hI3, ?_⟩, by simp [intOf]; omega⟩
                exact dkH.only (a := [_, _, _]) (dkH.dropA (dkH.drop h18)) hA0
            | cons t r =>
              have hlz : (kl.length : Int) < zl.length := by rw [hkz, List.length_append, List.length_cons]; omega
              have hx : (ints zl)[kl.length]? = some (.int .i64 t) := by rw [hkz]; simp [ints]
              obtain ⟨gp, rfl, hct⟩ := row_at hrow hx
              have hsl := fun X => slice_ints X (some ⟨gp, 0, none⟩) zl.length cl kl.length hcl
              generalize hr0 : t :: r = rl0 at *
              clear hkz hrow hx
              go_upto_region 37 with fail
              clear hlz hkk k2 hct
              have d3 : ∀ x : Of (fun X => Blk X gn 34 #[.slice sp gr.length sc, .int .i64 f, .int .i64 kp, .int .i64 z]), x.val.cell? ⟨gn, 3, none⟩ = some (.int .i64 z) := fun x => Blk.cell x.property 3
              have h13 := h12.ext (.cons (rowA_loc _ _ _ _ _) LL) (Ext.refl w8).drew
              have hFd := (Has.blk h13.rest (.tail _ hSv))
              have hne_ : Nonempty (Of ((fun X => Blk X gn 34 #[.slice sp gr.length sc, .int .i64 f, .int .i64 kp, .int .i64 z]))) := ⟨⟨_, hFd⟩⟩
              refine region_steps [0,1,2,4,5,3,6,7] [true,true,true,true,true,true,true,false] ((fun X => Blk X gn 34 #[.slice sp gr.length sc, .int .i64 f, .int .i64 kp, .int .i64 z])) (by kernel_rfl) (by kernel_rfl) hFd ?_
              simp only [List.filterMap_cons, List.filterMap_nil, List.getElem?_cons_zero, List.getElem?_cons_succ]
              refine steps_quiet 7 (by kernel_rfl) ?_
              simp only [List.take_succ_cons, List.take_zero, List.drop_succ_cons, List.drop_zero]
              repeat (go_big_quiet_step (fail))
              refine wpQuiet_nil ?_
              clear h12 hFd d3 hsl
              generalize World.drew w8 = w9 at *
              refine steps_want rfl (fun K hK => ?_)
              go_simp
              refine (crash_any h13 (.cons (rowA_loc _ _ _ _ _) LL) _ cl kl t z (fun X hX => NumsAt.pre (b := rl0) (by have h0 := ints_at hX.row0; rw [HKZ.out] at h0; exact h0)) (by have h0 := HZ4.out; rw [HKZ.out, List.length_append] at h0; omega)).mono ?_
              rintro e w10 ⟨rfl, h14⟩
              have h15 := h14.drop
              clear h13 h14
              refine hK _ _ (fun X => Blk X gn 34 #[.slice sp gr.length sc, .int .i64 f, .int .i64 kp, .int .i64 z]) (Has.blk h15.rest hSv) (fun _ h => h) ?_
              clear hK K
              (try simp only [Act.put, List.setIfInBounds_toArray, List.set_cons_succ, List.set_cons_zero])
              refine steps_nil ?_
              go_wp2_with fail
              refine (up_any h15 LL).mono ?_
              clear h15
              rintro e w11 ⟨rfl, h16⟩
              obtain ⟨sD, hD⟩ : ∃ sD, (sC.crashS kl t z).upS = sD := ⟨_, rfl⟩
              rw [hD] at h16
              have hinv := hC2 kl t z sD hD
              clear hD
              go_wp2_with fail
              rcases hinv with hI3 | hI3
              · have hT24 : (layAll grp).length ≤ 24576 := layAll_fits grp hgb (by have := hgl; omega)
                refine (wopen_any h16 LL hI3 hT24 hgb (by have := hgl; omega)).mono ?_
                clear h16 hT24
                rintro e w12 ⟨lg2, rg2, pr2, rc2, pf2, cf2, fs2, hfs, rfl, h17⟩
                have LF : Locs (frL pf2 cf2 fs2 (logA lg2 d rg2 0 (layAll grp).length (.slice none 0 0) false :: rgL rg2 d (layAll grp).length pr2 rc2 (tailR (layAll grp)) L)) := frL_locs (.cons (logA_loc _ _ _ _ _ _ _) (rgL_locs LL))
                go_wp2_with fail
                refine (logged_any h17 LF (.head _) (fun x hx => .tail _ (List.mem_append_left _ (List.mem_map_of_mem hx))) (.tail _ (List.mem_append_right _ (.tail _ (.tail _ (.tail _ hA0)))))).mono ?_
                clear h17
                rintro e w13 ⟨rfl, h18⟩
                rw [hfs]
                by_cases hge : grp = bs
                · have hdt : decide (grp = bs) = true := decide_eq_true hge
                  rw [hdt]
                  rw [hge] at hI3 h18
                  go_wp2_with fail
                  refine ⟨⟨i + 1, sD, lg2, rg2, pr2, rc2, pa, ca, bs, by omega, by go_num, rfl, rfl, (by omega), hb3, by rw [show 2 * (i + 1) = 2 * i + 2 by omega]; exact hI3, ?_⟩, by simp [intOf]; omega⟩
                  exact dkH.only (a := [_, _, _]) (dkH.dropA (dkH.drop h18)) hA0
                · have hdt : decide (grp = bs) = false := decide_eq_false hge
                  rw [hdt]
                  go_wp2_with fail
                  refine (logged_any h18 LF (.head _) (fun x hx => .tail _ (List.mem_append_left _ (List.mem_map_of_mem hx))) (.tail _ (List.mem_append_right _ (.tail _ (.tail _ (.tail _ hG)))))).mono ?_
                  clear h18
                  rintro e w14 ⟨rfl, h18⟩
                  rw [hfs]
                  have hdt2 : decide (grp = grp) = true := decide_eq_true rfl
                  rw [hdt2]
                  go_wp2_with fail
                  refine ⟨⟨i + 1, sD, lg2, rg2, pr2, rc2, p7, c7, grp, by omega, by go_num, rfl, rfl, hgl, hgb, by rw [show 2 * (i + 1) = 2 * i + 2 by omega]; exact hI3, ?_⟩, by simp [intOf]; omega⟩
                  exact dkH.only (a := [_, _, _]) (dkH.dropA (dkH.drop h18)) hG
              · have hT24 : (layAll bs).length ≤ 24576 := layAll_fits bs hb3 (by have := (by omega); omega)
                refine (wopen_any h16 LL hI3 hT24 hb3 (by have := (by omega); omega)).mono ?_
                clear h16 hT24
                rintro e w12 ⟨lg2, rg2, pr2, rc2, pf2, cf2, fs2, hfs, rfl, h17⟩
                have LF : Locs (frL pf2 cf2 fs2 (logA lg2 d rg2 0 (layAll bs).length (.slice none 0 0) false :: rgL rg2 d (layAll bs).length pr2 rc2 (tailR (layAll bs)) L)) := frL_locs (.cons (logA_loc _ _ _ _ _ _ _) (rgL_locs LL))
                go_wp2_with fail
                refine (logged_any h17 LF (.head _) (fun x hx => .tail _ (List.mem_append_left _ (List.mem_map_of_mem hx))) (.tail _ (List.mem_append_right _ (.tail _ (.tail _ (.tail _ hA0)))))).mono ?_
                clear h17
                rintro e w13 ⟨rfl, h18⟩
                rw [hfs]
                have hdt2 : decide (bs = bs) = true := decide_eq_true rfl
                rw [hdt2]
                go_wp2_with fail
                refine ⟨⟨i + 1, sD, lg2, rg2, pr2, rc2, pa, ca, bs, by omega, by go_num, rfl, rfl, (by omega), hb3, by rw [show 2 * (i + 1) = 2 * i + 2 by omega]; exact hI3, ?_⟩, by simp [intOf]; omega⟩
                exact dkH.only (a := [_, _, _]) (dkH.dropA (dkH.drop h18)) hA0
    · go_wp2_with fail
      go_ret
      exact ⟨rfl, hE1⟩
end Go.Proofs.Ythghflfgldcmbaa
