/- The laws PolicyGrows and PolicyTicks: the walks. -/
import Derived.Test.YtlkhpfchcapgiaaWalks3
import Derived.LoopTactic
namespace Go.Proofs.Ytlkhpfchcapgiaa
open Go.ChangeShapes Go.WideShapes Go.ChangeAt Go.RowKit
set_option linter.unusedVariables false
set_option linter.unusedSimpArgs false

theorem grows_not (t f fa m l : Int) (w : World) (h : ¬ OkP t f fa m l) : Calls Try.prog 6 #[pol t f fa m l] w fun e w' => e = .returned (.bool true) ∧ Ext w w' := by
  have H := Lib.hid h
  clear h
  go_enter Try.func6, Try.ntmps6
  go_wp2_with fail
  obtain ⟨W, hW, hE0, hB⟩ : ∃ W, W = w.alloc (.cells #[.int .i64 t, .int .i64 f, .int .i64 fa, .int .i64 m, .int .i64 l] 23) ∧ Ext w W ∧ Boxed W w.heap.size t f fa m l := ⟨_, rfl, ext_alloc _ _, Boxed.new _ _ _ _ _ _ _⟩
  rw [← hW]
  clear hW
  generalize w.heap.size = b at *
  have hB0 := hB
  obtain ⟨c0, c1, c2, c3, c4, hlt⟩ := hB0
  refine ((tries_any _)).mono ?_
  rintro e w1 ⟨rfl, hE1⟩
  replace hB := hB.ext hE1
  replace hE0 := hE0.trans hE1
  clear hE1
  have hB0 := hB
  obtain ⟨c0, c1, c2, c3, c4, hlt⟩ := hB0
  go_wp2_with fail
  refine ((right_no _ _ _ _ _ _ H.out)).mono ?_
  rintro e w1 ⟨rfl, hE1⟩
  replace hB := hB.ext hE1
  replace hE0 := hE0.trans hE1
  clear hE1
  have hB0 := hB
  obtain ⟨c0, c1, c2, c3, c4, hlt⟩ := hB0
  go_wp2_with fail
  go_ret
  exact ⟨rfl, hE0⟩
/-- the last wait behind j tries -/
def lastV (f fa m : Int) (j : Nat) : Int := if j = 0 then 0 else waitV f fa m j
theorem lastV_le (f fa m : Int) (j : Nat) (h : 1 ≤ fa) (h7 : fa ≤ 7) (hf : 0 ≤ f) (hf2 : f ≤ 63) (hm : 0 ≤ m) : lastV f fa m j ≤ waitV f fa m ((j : Int) + 1) := by
  unfold lastV
  split
  · exact (waitV_bd f fa m _ h h7 hf hf2 hm).1
  · exact waitV_succ f fa m j h h7 hf hf2 (by omega)
theorem lastV_succ (f fa m : Int) (j : Nat) : lastV f fa m (j + 1) = waitV f fa m ((j : Int) + 1) := by
  unfold lastV; rw [if_neg (by omega)]; rfl
def GrowRel (w : World) (b : Nat) (t f fa m l : Int) (x n k : Value) (wr : World) : Prop :=
  ∃ j : Nat, (j : Int) ≤ 40 ∧ (t ≤ 0 ∨ (j : Int) < t) ∧ k = .int .i64 ((j : Int) + 1) ∧ n = .int .i64 j ∧ x = .int .i64 (lastV f fa m j) ∧ Boxed wr b t f fa m l ∧ Ext w wr
set_option maxHeartbeats 4000000 in
theorem grows_ok (t f fa m l : Int) (w : World) (h : OkP t f fa m l) : Calls Try.prog 6 #[pol t f fa m l] w fun e w' => e = .returned (.bool true) ∧ Ext w w' := by
  have H := Lib.hid h
  obtain ⟨h1, h2, h3, h4, h5, h6, h7, h8, h9, h10⟩ := h
  go_enter Try.func6, Try.ntmps6
  go_wp2_with fail
  obtain ⟨W, hW, hE0, hB⟩ : ∃ W, W = w.alloc (.cells #[.int .i64 t, .int .i64 f, .int .i64 fa, .int .i64 m, .int .i64 l] 23) ∧ Ext w W ∧ Boxed W w.heap.size t f fa m l := ⟨_, rfl, ext_alloc _ _, Boxed.new _ _ _ _ _ _ _⟩
  rw [← hW]
  clear hW
  generalize w.heap.size = b at *
  have hB0 := hB
  obtain ⟨c0, c1, c2, c3, c4, hlt⟩ := hB0
  refine ((tries_any _)).mono ?_
  rintro e w1 ⟨rfl, hE1⟩
  replace hB := hB.ext hE1
  replace hE0 := hE0.trans hE1
  clear hE1
  have hB0 := hB
  obtain ⟨c0, c1, c2, c3, c4, hlt⟩ := hB0
  go_wp2_with fail
  refine ((right_ok _ _ _ _ _ _ H.out)).mono ?_
  rintro e w1 ⟨rfl, hE1⟩
  replace hB := hB.ext hE1
  replace hE0 := hE0.trans hE1
  clear hE1
  have hB0 := hB
  obtain ⟨c0, c1, c2, c3, c4, hlt⟩ := hB0
  go_wp2_with fail
  go_loopw [3, 4, 5] (fun x n k wr => GrowRel w b t f fa m l x n k wr) (fun _ _ k _ => (42 - intOf k).toNat)
  case atStart => exact ⟨0, by omega, by omega, rfl, rfl, rfl, hB, hE0⟩
  case round =>
    clear c0 c1 c2 c3 c4 hlt hB hE0
    obtain ⟨j, hj1, hj2, rfl, rfl, rfl, hB, hE0⟩ := hrel
    have hB0 := hB
    obtain ⟨c0, c1, c2, c3, c4, hlt⟩ := hB0
    have hle := lastV_le f fa m j h5 h6 h3 h4 h7
    have hls := lastV_succ f fa m j
    have HL := Lib.hid hls
    clear hls
    generalize lastV f fa m j = x at *
    by_cases g1 : (j : Int) + 1 ≤ 40
    · by_cases g2 : t ≤ 0 ∨ (j : Int) + 1 < t
      · obtain ⟨v, hv⟩ : ∃ v, v = waitV f fa m ((j : Int) + 1) := ⟨_, rfl⟩
        have hw := fun w => wait_yes t f fa m l ((j : Int) + 1) w H.out (by omega) (by omega) g2
        have hvb := waitV_bd f fa m ((j : Int) + 1) h5 h6 h3 h4 h7
        rw [← hv] at hw hle hvb
        have HW := Lib.hid hw
        have HV := Lib.hid hv
        obtain ⟨hv1, hv2, hv3⟩ := hvb
        have G2 := Lib.hid g2
        clear hw hv g2 hj2
        go_wp2_with fail
        refine ((HW.out _)).mono ?_
        rintro e w1 ⟨rfl, hE1⟩
        replace hB := hB.ext hE1
        replace hE0 := hE0.trans hE1
        clear hE1
        have hB0 := hB
        obtain ⟨c0, c1, c2, c3, c4, hlt⟩ := hB0
        rcases (show m ≤ 0 ∨ (0 < m ∧ v ≤ m) by omega) with r | ⟨r1, r2⟩
        all_goals
          clear hv3
          go_wp2_with fail
          exact ⟨⟨j + 1, by omega, by have := G2.out; omega, by go_num, by go_num, by rw [HL.out, HV.out], hB, hE0⟩, by simp [intOf]; omega⟩
      · have hno : (j : Int) + 1 < 1 ∨ (0 < t ∧ t ≤ (j : Int) + 1) := by omega
        have hj3 : (j : Int) = t - 1 := by omega
        have HN := Lib.hid hno
        have q1 : 0 < t := by omega
        have bj : ((j : Int) == t - 1) = true := by simp [hj3]
        clear g2 hj2 hno hj3
        go_wp2_with fail
        refine ((wait_no _ _ _ _ _ _ _ H.out HN.out)).mono ?_
        rintro e w1 ⟨rfl, hE1⟩
        replace hB := hB.ext hE1
        replace hE0 := hE0.trans hE1
        clear hE1
        have hB0 := hB
        obtain ⟨c0, c1, c2, c3, c4, hlt⟩ := hB0
        go_wp2_with fail
        go_ret
        exact ⟨rfl, hE0⟩
    · have ht : t = 0 := by omega
      have hj3 : j = 40 := by omega
      subst hj3
      subst ht
      clear g1 hj1 hj2
      go_wp2_with fail
      go_ret
      exact ⟨rfl, hE0⟩
end Go.Proofs.Ytlkhpfchcapgiaa
