/- mark.look, Get: the last mark of the first two sectors, and the greatest number that stands there. -/
import Derived.Test.YthghflfgldcmbaaMBytes
namespace Go.Proofs.Ythghflfgldcmbaa
set_option maxRecDepth 4000
set_option linter.unusedVariables false
set_option linter.unusedSimpArgs false
open Go Go.RowKit Go.MapKept Go.ChangeMaps
/-- one sector more is looked at -/
def lookS (st : (Nat → Nat) × Nat) (k : Nat) (b : List UInt8) : (Nat → Nat) × Nat :=
  (if (readM b).2 = true ∧ st.1 0 < (readM b).1 0 ∧ (readM b).1 0 % 2 = k then (readM b).1 else st.1, max (max st.2 (numU b 0 8)) (numU b 56 8))
def look2 (b0 b1 : List UInt8) : (Nat → Nat) × Nat := lookS (lookS (zeroM, 0) 0 b0) 1 b1
def DS.looked (s : DS) : (Nat → Nat) × Nat := look2 (s.readB 0) (s.readB 1)
theorem results_cell3 {P : Program} {fn : Func} {p q r : Tmp} {ty : TypeId} (h : fn.results = #[.cell p ty, .tmp q, .tmp r]) (tmps : Array Value) (w : World) (g : Nat) (t : TypeId) (cs : Array Value) (fr : Nat × Nat) (d : TypeDesc)
    (hp : tmps.getD p undef = .pointer (some ⟨g, 0, none⟩)) (hg : w.heap[g]? = some (.cells cs t fr))
    (hu : P.underlying ty = some d) (hd : (match d with | .struct _ | .array _ _ => true | _ => false) = true) (hi : (P.info? ty).map (·.size) = some cs.size) :
    (results fn tmps).run P w = .ok (.tuple #[.agg cs, tmps.getD q undef, tmps.getD r undef]) w := by
  have hp' : tmps[p]?.getD undef = .pointer (some ⟨g, 0, none⟩) := by simpa using hp
  simp [results, h, hp', asAddr, run_loadVar_row w g t ty cs fr d hg hu hd hi]
theorem numU_small (b : List UInt8) (o : Nat) : numU b o 8 < 18446744073709551616 := by
  have := numU_lt b o 8
  simpa using this
theorem numU_drop (b : List UInt8) (o k : Nat) : ∀ n, numU (b.drop k) o n = numU b (k + o) n
  | 0 => rfl
  | n + 1 => by
    unfold numU
    rw [numU_drop b o k n]
    congr 3
    simp [List.getD_eq_getElem?_getD, Nat.add_assoc]
def LkRel (w : World) (d : Nat) (s : DS) (g : Nat) (ps : List Asr) (v t : Value) (wr : World) : Prop :=
  ∃ (k : Nat) (st : (Nat → Nat) × Nat), k ≤ 2 ∧ v = .int .i64 k ∧ t = .int .u64 st.2 ∧ st.2 < 18446744073709551616 ∧ ((k = 0 ∧ st = (zeroM, 0)) ∨ (k = 1 ∧ st = lookS (zeroM, 0) 0 (s.readB 0)) ∨ (k = 2 ∧ st = s.looked)) ∧ dkH w wr d s (blkA g 60 (mkA st.1) :: ps)
def LkOut (w W' : World) (d : Nat) (s : DS) (ps : List Asr) (e : Ending) : Prop := e = .returned (.tuple #[.agg (mkA s.looked.1), .int .u64 s.looked.2, .int .i64 0]) ∧ dkH w W' d s ps
set_option maxHeartbeats 8000000 in
theorem look_any {w W : World} {d : Nat} {s : DS} {ps : List Asr} (h : dkH w W d s ps) (hl : Locs ps) (hn : 2 ≤ s.n) (hdn : s.down = false) :
    Calls Try.prog 25 #[.pointer (some ⟨d, 0, none⟩), .int .i64 0] W fun e W' => LkOut w W' d s ps e := by
  have h1 := h.new hl 60 (mkA zeroM)
  have HN := Lib.hid hn
  have hn1 : ¬ (s.n : Int) - 1 ≤ 0 := by omega
  have hn3 : (s.n : Int) ≤ 4096 := by have := h.1.n; omega
  clear h hn
  go_enter Try.func25, Try.ntmps25
  go_upto_region 1 with fail
  refine gen_world' (fun X => dkH w X d s (blkA W.heap.size 60 (mkA zeroM) :: ps)) h1 ?_
  clear h1
  generalize W.heap.size = g at *
  intro W1 h1
  go_wp2_with fail
  go_loopw [12, 5] (fun v t wr => LkRel w d s g ps v t wr) (fun v _ _ => (3 - intOf v).toNat)
  case atStart => exact ⟨0, (zeroM, 0), by omega, rfl, rfl, by omega, Or.inl ⟨rfl, rfl⟩, h1⟩
  case round =>
    clear h1
    obtain ⟨k, st, hk, rfl, rfl, hst, hcase, h1⟩ := hrel
    by_cases gk : (k : Int) < 2
    · go_wp2_with fail
      refine (sectors_any h1).mono ?_
      rintro e w2 ⟨rfl, rfl⟩
      have hkn : k < s.n := by have := HN.out; omega
      have hrd := read_any h1 (.cons (blkA_loc _ _ _) hl) k hkn hdn
      obtain ⟨B, hB⟩ : ∃ B, s.readB k = B := ⟨_, rfl⟩
      rw [hB] at hrd
      have HB := Lib.hid hB
      have hcase2 : (k = 0 ∧ lookS st k B = lookS (zeroM, 0) 0 (s.readB 0)) ∨ (k = 1 ∧ lookS st k B = s.looked) := by
        rcases hcase with ⟨rfl, rfl⟩ | ⟨rfl, rfl⟩ | ⟨h, _⟩
        · exact Or.inl ⟨rfl, by rw [hB]⟩
        · exact Or.inr ⟨rfl, by rw [← hB]; rfl⟩
        · omega
      have HC := Lib.hid hcase2
      clear hcase hcase2 hB h1
      go_wp2_with fail
      refine hrd.mono ?_
      rintro e w3 ⟨a, c, rfl, h2⟩
      clear hrd
      obtain ⟨hown, -⟩ := Has.owned h2.rest (e := 5) (size := 1) (v := .slice (some a) 128 c) (n := 128) (xs := u8s B) (by simp)
      have hlen := sec_len hown
      obtain ⟨gb, hcc, rfl⟩ : ∃ gb, 128 ≤ c ∧ a = ⟨gb, 0, none⟩ := by
        rcases hown.2 with ⟨hv, _⟩ | ⟨g1, cap, cur, hv, _, _, hn1, _⟩
        · cases hv
        · injection hv with e1 e2 e3
          injection e1 with e1
          exact ⟨g1, by omega, e1⟩
      have hB3 := BytesAt.of_own hown
      have hsl : ∀ X, (Instr.sliceAt 36 (.slice (some ⟨gb, 0, none⟩) 128 c) (some (.int .i64 56)) none none).run Try.prog X = .ok (.slice (some ⟨gb, 56, none⟩) 72 (c - 56)) X := fun X => slice_from X ⟨gb, 0, none⟩ 128 c 56 56 rfl (by omega) (by omega)
      have hq1 : ∀ n, Calls Try.prog 41 #[.slice (some ⟨gb, 0, none⟩) 128 c] (w3.drewN n) fun e w'' => e = .returned (.int .u64 (numU B 0 8)) ∧ ∃ m, w'' = w3.drewN m := fun n => by
        have hx := hB3.ext (Ext.drewN (Ext.refl _) n)
        have := number_any (w3.drewN n) ⟨gb, 0, none⟩ 128 c B (by omega) (by omega) (fun j u hj => by
          have hj' : j < B.length := by have := (List.getElem?_eq_some_iff.1 hj).1; rwa [u8s_length] at this
          rw [u8s_get B j hj'] at hj
          injection hj with hj
          rw [Go.WideShapes.add_plain, ← hj]
          exact hx.2 j hj')
        rw [hlen] at this
        exact this.mono fun e w' ⟨h1, h2⟩ => ⟨h1, n, h2.symm⟩
      have hq2 : ∀ n, Calls Try.prog 41 #[.slice (some ⟨gb, 56, none⟩) 72 (c - 56)] (w3.drewN n) fun e w'' => e = .returned (.int .u64 (numU B 56 8)) ∧ ∃ m, w'' = w3.drewN m := fun n => by
        have hx := (hB3.ext (Ext.drewN (Ext.refl _) n)).drop 56
        have hl72 : (B.drop 56).length = 72 := by rw [List.length_drop]; omega
        have := number_any (w3.drewN n) ⟨gb, 56, none⟩ 72 (c - 56) (B.drop 56) (by omega) (by omega) (fun j u hj => by
          have hj' : j < (B.drop 56).length := by have := (List.getElem?_eq_some_iff.1 hj).1; rwa [u8s_length] at this
          rw [u8s_get _ j hj'] at hj
          injection hj with hj
          rw [Go.WideShapes.add_plain, ← hj]
          have := hx.2 j hj'
          rwa [Nat.zero_add] at this)
        rw [hl72, numU_drop] at this
        exact this.mono fun e w' ⟨h1, h2⟩ => ⟨h1, n, h2.symm⟩
      have hmax : ∀ ts t X, (Builtin.max_ ts t #[.int .u64 (st.2 : Int), .int .u64 (numU B 0 8 : Int), .int .u64 (numU B 56 8 : Int)]).run Try.prog X = .ok (.int .u64 ((max (max st.2 (numU B 0 8)) (numU B 56 8) : Nat) : Int)) X := by
        intro ts t X
        generalize numU B 0 8 = n1
        generalize numU B 56 8 = n2
        have : (if (n2 : Int) > (if (n1 : Int) > st.2 then (n1 : Int) else st.2) then (n2 : Int) else (if (n1 : Int) > st.2 then (n1 : Int) else st.2)) = ((max (max st.2 n1) n2 : Nat) : Int) := by
          split <;> split at * <;> omega
        rw [← this]
        simp [Builtin.max_, Builtin.max2]
      have hmr := fun n => mread_any (w3.drewN n) gb c B hlen hcc (hB3.ext (Ext.drewN (Ext.refl _) n))
      have HLN := Lib.hid hlen
      have hm1 := numU_small B 0
      have hm2 := numU_small B 56
      have hmb : max (max st.2 (numU B 0 8)) (numU B 56 8) < 18446744073709551616 := by omega
      obtain ⟨mx, hmx⟩ : ∃ mx, max (max st.2 (numU B 0 8)) (numU B 56 8) = mx := ⟨_, rfl⟩
      rw [hmx] at hmax hmb
      have HMX := Lib.hid hmx
      clear hmx hlen hown hB3 hm1 hm2
      go_upto_region 9 with fail
      obtain ⟨n1, hn1⟩ : ∃ n1, numU B 0 8 = n1 := ⟨_, rfl⟩
      obtain ⟨n2, hn2⟩ : ∃ n2, numU B 56 8 = n2 := ⟨_, rfl⟩
      rw [hn1] at hq1 hmax
      rw [hn2] at hq2 hmax
      have HN1 := Lib.hid hn1
      have HN2 := Lib.hid hn2
      clear hn1 hn2
      go_quiet ((first | (with_reducible exact hq1 _) | (with_reducible exact hq2 _)))
      clear hq1 hq2 hmax hsl
      have h4 := h2.ext (.cons (rowA_loc _ _ _ _ _) (.cons (blkA_loc _ _ _) hl)) (Ext.drewN (Ext.refl w3) nq)
      have hm := hmr nq
      clear h2 hmr
      generalize World.drewN w3 nq = w4 at *
      go_wp2_with fail
      refine hm.mono ?_
      rintro e w5 ⟨rfl, hE5⟩
      have h5 := h4.ext (.cons (rowA_loc _ _ _ _ _) (.cons (blkA_loc _ _ _) hl)) hE5
      clear hm h4 hE5
      obtain ⟨M, ok, hMo⟩ : ∃ M ok, readM B = (M, ok) := ⟨_, _, rfl⟩
      have hM0 : M 0 < 18446744073709551616 := by
        have : M = (readM B).1 := by rw [hMo]
        rw [this]
        unfold readM
        split
        · exact numU_small B _
        · exact (by decide : (0 : Nat) < 18446744073709551616)
      have HMO := Lib.hid hMo
      rw [hMo]
      clear hMo
      simp only [mkA]
      have hsl0 := fun w => slot_any w 0 (M 0) (by omega) hM0
      rw [Nat.zero_add] at hsl0
      have h6 := h5.drop.new (.cons (blkA_loc _ _ _) hl) 60 (mkA M)
      clear h5
      go_upto_region 11 with fail
      refine gen_world' (fun X => dkH w X d s (blkA w5.heap.size 60 (mkA M) :: blkA g 60 (mkA st.1) :: ps)) h6 ?_
      clear h6
      generalize w5.heap.size = gm at *
      intro w6 h6
      have hbm := h6.rest.blk0
      have hbg := h6.rest.drop.blk0
      have c0 : w6.cell? ⟨gm, 0, none⟩ = some (.int .u64 (M 0)) := hbm.cell 0
      have g0 : w6.cell? ⟨g, 0, none⟩ = some (.int .u64 (st.1 0)) := hbg.cell 0
      have e5 : lookS st k B = (if ok = true ∧ st.1 0 < M 0 ∧ M 0 % 2 = k then M else st.1, mx) := by
        unfold lookS
        rw [HMO.out, HMX.out]
      have HL := Lib.hid e5
      clear e5
      obtain ⟨p, hp⟩ : ∃ p, M 0 % 2 = p := ⟨_, rfl⟩
      rw [hp] at hsl0
      have HP := Lib.hid hp
      clear hp hM0
      cases ok with
      | false =>
        go_wp2_with fail
        have e6 : lookS st k B = (st.1, mx) := by
          rw [HL.out]
          exact congrArg (fun z => (z, mx)) (by rw [if_neg (by simp)])
        have hcc := HC.out
        rw [e6] at hcc
        refine ⟨⟨k + 1, (st.1, mx), by omega, by go_num, rfl, hmb, ?_, h6.drop⟩, by simp [intOf]; omega⟩
        rcases hcc with ⟨rfl, h⟩ | ⟨rfl, h⟩
        · exact Or.inr (Or.inl ⟨rfl, h⟩)
        · exact Or.inr (Or.inr ⟨rfl, h⟩)
      | true =>
        by_cases g1 : st.1 0 < M 0
        · have g1' : (st.1 0 : Int) < M 0 := by omega
          have G1 := Lib.hid g1
          clear g1
          by_cases g2 : p = k
          · have g3 : ((p : Int) == k) = true := by rw [g2]; exact beq_self_eq_true _
            have c1 : w6.cell? ⟨gm, 1, none⟩ = some (.int .u64 (M 1)) := hbm.cell 1
            have c2 : w6.cell? ⟨gm, 2, none⟩ = some (.int .u64 (M 2)) := hbm.cell 2
            have c3 : w6.cell? ⟨gm, 3, none⟩ = some (.int .u64 (M 3)) := hbm.cell 3
            have c4 : w6.cell? ⟨gm, 4, none⟩ = some (.int .u64 (M 4)) := hbm.cell 4
            have c5 : w6.cell? ⟨gm, 5, none⟩ = some (.int .u64 (M 5)) := hbm.cell 5
            have c6 : w6.cell? ⟨gm, 6, none⟩ = some (.int .u64 (M 6)) := hbm.cell 6
            have G2 := Lib.hid g2
            have hh6 : dkH w (w6.setRow g (mkA M)) d s (blkA g 60 (mkA M) :: ps) := h6.drop.turn (fun hl h => h.row hl) hl
            clear g2 hbm
            go_wp2_with fail
            refine (hsl0 _).mono ?_
            rintro e w7 ⟨rfl, rfl⟩
            clear hsl0
            go_wp2_with (refine wpList_store_row rfl _ _ _ rfl g (mkA M) rfl rfl _ _ hbg markInfo rfl (mkA_all _) ?_)
            have e6 : lookS st k B = (M, mx) := by
              rw [HL.out]
              exact congrArg (fun z => (z, mx)) (if_pos ⟨trivial, G1.out, by rw [HP.out, G2.out]⟩)
            have hcc := HC.out
            rw [e6] at hcc
            refine ⟨⟨k + 1, (M, mx), by omega, by go_num, rfl, hmb, ?_, hh6⟩, by simp [intOf]; omega⟩
            rcases hcc with ⟨rfl, h⟩ | ⟨rfl, h⟩
            · exact Or.inr (Or.inl ⟨rfl, h⟩)
            · exact Or.inr (Or.inr ⟨rfl, h⟩)
          · have g3 : ((p : Int) == k) = false := by simpa using fun h => g2 (by omega)
            have G2 := Lib.hid g2
            clear g2
            go_wp2_with fail
            refine (hsl0 _).mono ?_
            rintro e w7 ⟨rfl, rfl⟩
            clear hsl0
            go_wp2_with fail
            have e6 : lookS st k B = (st.1, mx) := by
              rw [HL.out]
              exact congrArg (fun z => (z, mx)) (by rw [if_neg (by rw [HP.out]; intro h; exact G2.out h.2.2)])
            have hcc := HC.out
            rw [e6] at hcc
            refine ⟨⟨k + 1, (st.1, mx), by omega, by go_num, rfl, hmb, ?_, h6.drop⟩, by simp [intOf]; omega⟩
            rcases hcc with ⟨rfl, h⟩ | ⟨rfl, h⟩
            · exact Or.inr (Or.inl ⟨rfl, h⟩)
            · exact Or.inr (Or.inr ⟨rfl, h⟩)
        · have g1' : ¬ (st.1 0 : Int) < M 0 := by omega
          go_wp2_with fail
          have e6 : lookS st k B = (st.1, mx) := by
            rw [HL.out]
            exact congrArg (fun z => (z, mx)) (by rw [if_neg (by intro h; exact g1 h.2.1)])
          have hcc := HC.out
          rw [e6] at hcc
          refine ⟨⟨k + 1, (st.1, mx), by omega, by go_num, rfl, hmb, ?_, h6.drop⟩, by simp [intOf]; omega⟩
          rcases hcc with ⟨rfl, h⟩ | ⟨rfl, h⟩
          · exact Or.inr (Or.inl ⟨rfl, h⟩)
          · exact Or.inr (Or.inr ⟨rfl, h⟩)
    · have hk2 : k = 2 := by omega
      subst hk2
      rcases hcase with ⟨h, _⟩ | ⟨h, _⟩ | ⟨_, rfl⟩
      · omega
      · omega
      · generalize hlk : s.looked = L at *
        have HLK := Lib.hid hlk
        obtain ⟨M, t⟩ := L
        clear hlk
        have hbg := h1.rest.blk0
        have c0 : wr.cell? ⟨g, 0, none⟩ = some (.int .u64 (M 0)) := hbg.cell 0
        have c1 : wr.cell? ⟨g, 1, none⟩ = some (.int .u64 (M 1)) := hbg.cell 1
        have c2 : wr.cell? ⟨g, 2, none⟩ = some (.int .u64 (M 2)) := hbg.cell 2
        have c3 : wr.cell? ⟨g, 3, none⟩ = some (.int .u64 (M 3)) := hbg.cell 3
        have c4 : wr.cell? ⟨g, 4, none⟩ = some (.int .u64 (M 4)) := hbg.cell 4
        have c5 : wr.cell? ⟨g, 5, none⟩ = some (.int .u64 (M 5)) := hbg.cell 5
        have c6 : wr.cell? ⟨g, 6, none⟩ = some (.int .u64 (M 6)) := hbg.cell 6
        have hh6 : dkH w (wr.setRow g (mkA M)) d s (blkA g 60 (mkA M) :: ps) := h1.turn (fun hl h => h.row hl) hl
        go_wp2_with (refine wpList_store_row rfl _ _ _ rfl g (mkA M) rfl rfl _ _ hbg markInfo rfl (mkA_all _) ?_)
        refine bodyPost_ret (v := .tuple #[.agg (mkA M), .int .u64 t, .int .i64 0]) (results_cell3 Try.results25 _ _ g 60 (mkA M) _ _ rfl hh6.rest.blk0 Try.underlying60 rfl markInfo) rfl ⟨?_, hh6.drop⟩
        rw [HLK.out]
end Go.Proofs.Ythghflfgldcmbaa
