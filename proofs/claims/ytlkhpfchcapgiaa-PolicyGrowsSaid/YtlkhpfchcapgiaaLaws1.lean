/- The laws PolicyNumbers and PolicyOf: the walks. -/
import Derived.Test.YtlkhpfchcapgiaaWalks3
namespace Go.Proofs.Ytlkhpfchcapgiaa
open Go.ChangeShapes Go.WideShapes Go.ChangeAt Go.RowKit
set_option linter.unusedVariables false
set_option linter.unusedSimpArgs false

theorem of_num (t f fa m l : Int) (w : World) (h : OkP t f fa m l) : Calls Try.prog 12 #[.int .i64 (numV t f fa m l)] w fun e w' => e = .returned (pol t f fa m l) ∧ Ext w w' := by
  obtain ⟨h1, h2, h3, h4, h5, h6, h7, h8, h9, h10⟩ := h
  have h := of_in (numV t f fa m l) w (by unfold numV; omega) (by unfold numV; omega)
  have a1 : ofT (numV t f fa m l) = t := by unfold ofT numV; omega
  have a2 : ofF (numV t f fa m l) = f := by unfold ofF numV; omega
  have a3 : ofFa (numV t f fa m l) = fa := by unfold ofFa numV; split <;> omega
  have a4 : ofM (numV t f fa m l) = m := by unfold ofM numV; omega
  have a5 : ofL (numV t f fa m l) = l := by unfold ofL numV; omega
  rwa [a1, a2, a3, a4, a5] at h

theorem numbers_no (t f fa m l : Int) (w : World) (h : ¬ OkP t f fa m l) : Calls Try.prog 3 #[pol t f fa m l] w fun e w' => e = .returned (.bool true) ∧ Ext w w' := by
  have H := Lib.hid h
  clear h
  go_enter Try.func3, Try.ntmps3
  go_wp2_with fail
  obtain ⟨W, hW, hE0, hB⟩ : ∃ W, W = w.alloc (.cells #[.int .i64 t, .int .i64 f, .int .i64 fa, .int .i64 m, .int .i64 l] 23) ∧ Ext w W ∧ Boxed W w.heap.size t f fa m l := ⟨_, rfl, ext_alloc _ _, Boxed.new _ _ _ _ _ _ _⟩
  rw [← hW]
  clear hW
  generalize w.heap.size = b at *
  have hB0 := hB
  obtain ⟨c0, c1, c2, c3, c4, hlt⟩ := hB0
  refine ((tries_any _)).mono ?_
  rintro e w1 ⟨rfl, hE1⟩
  replace hB := hB.ext hE1
  replace hE0 := hE0.trans hE1
  clear hE1
  have hB0 := hB
  obtain ⟨c0, c1, c2, c3, c4, hlt⟩ := hB0
  go_wp2_with fail
  refine ((number_no _ _ _ _ _ _ H.out)).mono ?_
  rintro e w1 ⟨rfl, hE1⟩
  replace hB := hB.ext hE1
  replace hE0 := hE0.trans hE1
  clear hE1
  have hB0 := hB
  obtain ⟨c0, c1, c2, c3, c4, hlt⟩ := hB0
  go_wp2_with fail
  refine ((right_no _ _ _ _ _ _ H.out)).mono ?_
  rintro e w1 ⟨rfl, hE1⟩
  replace hB := hB.ext hE1
  replace hE0 := hE0.trans hE1
  clear hE1
  have hB0 := hB
  obtain ⟨c0, c1, c2, c3, c4, hlt⟩ := hB0
  go_wp2_with fail
  refine ((check_no _ _ _ _ _ _ H.out)).mono ?_
  rintro e w1 ⟨rfl, hE1⟩
  replace hB := hB.ext hE1
  replace hE0 := hE0.trans hE1
  clear hE1
  have hB0 := hB
  obtain ⟨c0, c1, c2, c3, c4, hlt⟩ := hB0
  go_wp2_with fail
  go_ret
  exact ⟨rfl, hE0⟩
theorem numbers_ok (t f fa m l : Int) (w : World) (h : OkP t f fa m l) : Calls Try.prog 3 #[pol t f fa m l] w fun e w' => e = .returned (.bool true) ∧ Ext w w' := by
  have H := Lib.hid h
  obtain ⟨h1, h2, h3, h4, h5, h6, h7, h8, h9, h10⟩ := h
  obtain ⟨q, hq⟩ : ∃ q, q = numV t f fa m l := ⟨_, rfl⟩
  have HQ := Lib.hid hq
  have hof := fun w => of_num t f fa m l w H.out
  rw [← hq] at hof
  have HO := Lib.hid hof
  have hnum := fun w => number_ok t f fa m l w H.out
  rw [← hq] at hnum
  have HN := Lib.hid hnum
  clear hq hof hnum
  by_cases h0 : 0 < t
  all_goals
    go_enter Try.func3, Try.ntmps3
    go_wp2_with fail
    obtain ⟨W, hW, hE0, hB⟩ : ∃ W, W = w.alloc (.cells #[.int .i64 t, .int .i64 f, .int .i64 fa, .int .i64 m, .int .i64 l] 23) ∧ Ext w W ∧ Boxed W w.heap.size t f fa m l := ⟨_, rfl, ext_alloc _ _, Boxed.new _ _ _ _ _ _ _⟩
    rw [← hW]
    clear hW
    generalize w.heap.size = b at *
    have hB0 := hB
    obtain ⟨c0, c1, c2, c3, c4, hlt⟩ := hB0
    refine ((tries_any _)).mono ?_
    rintro e w1 ⟨rfl, hE1⟩
    replace hB := hB.ext hE1
    replace hE0 := hE0.trans hE1
    clear hE1
    have hB0 := hB
    obtain ⟨c0, c1, c2, c3, c4, hlt⟩ := hB0
    go_wp2_with fail
    refine ((HN.out _)).mono ?_
    rintro e w1 ⟨rfl, hE1⟩
    replace hB := hB.ext hE1
    replace hE0 := hE0.trans hE1
    clear hE1
    have hB0 := hB
    obtain ⟨c0, c1, c2, c3, c4, hlt⟩ := hB0
    go_wp2_with fail
    refine ((right_ok _ _ _ _ _ _ H.out)).mono ?_
    rintro e w1 ⟨rfl, hE1⟩
    replace hB := hB.ext hE1
    replace hE0 := hE0.trans hE1
    clear hE1
    have hB0 := hB
    obtain ⟨c0, c1, c2, c3, c4, hlt⟩ := hB0
    go_wp2_with fail
    first
      | rw [show t - 1 + 16 * (f + 64 * (fa - 1 + 8 * (m + 512 * l))) = q from by rw [HQ.out]; unfold numV; omega]
      | rw [show 15 + 16 * (f + 64 * (fa - 1 + 8 * (m + 512 * l))) = q from by rw [HQ.out]; unfold numV; omega]
    have hB' := hB.at_
    obtain ⟨d0, d1, d2, d3, d4⟩ := hB'
    clear c0 c1 c2 c3 c4
    refine region_ext (by kernel_rfl) (by kernel_rfl) ?_
    repeat (go_big_quiet_step (first | (go_at_call 11; exact quiet_ext (check_ok _ _ _ _ _ _ H.out)) | (go_at_call 12; exact quiet_ext (HO.out _))))
    refine wpQuiet_nil ?_
    intro wq hq
    obtain ⟨xq, rfl⟩ := hq
    have hEq := xq.property
    go_wp2
    go_ret
    exact ⟨rfl, hE0.trans hEq⟩

theorem of_ok (n : Int) (h0 : 0 ≤ n) (h1 : n < 2147483648) : OkP (ofT n) (ofF n) (ofFa n) (ofM n) (ofL n) :=
  ⟨by unfold ofT ofF ofFa ofM ofL; split <;> omega⟩
theorem num_of (n : Int) (h0 : 0 ≤ n) (h1 : n < 2147483648) : numV (ofT n) (ofF n) (ofFa n) (ofM n) (ofL n) = if n / 1024 % 8 = 7 then n - 1024 else n := by
  unfold numV ofT ofF ofFa ofM ofL; split <;> omega
theorem ok2 : OkP 1 0 1 0 0 := ⟨by omega⟩
theorem of_law_out (n : Int) (w : World) (h : n < 0 ∨ 2147483648 ≤ n) : Calls Try.prog 4 #[.int .i64 n] w fun e w' => e = .returned (.bool true) ∧ Ext w w' := by
  have H := Lib.hid h
  rcases (show n < 0 ∨ (0 ≤ n ∧ 2147483648 ≤ n) by omega) with hn | ⟨hn, hn2⟩
  all_goals
    clear h
    go_enter Try.func4, Try.ntmps4
    go_wp2_with fail
    refine (tries_any _).mono ?_
    rintro e w1 ⟨rfl, hE1⟩
    go_wp2_with fail
    refine (of_out _ _ H.out).mono ?_
    rintro e w2 ⟨rfl, hE2⟩
    have hE3 := hE1.trans hE2
    clear hE1 hE2
    go_wp2_with fail
    obtain ⟨W, hW, hE0, hB⟩ : ∃ W, W = w2.alloc (.cells #[.int .i64 1, .int .i64 0, .int .i64 1, .int .i64 0, .int .i64 0] 23) ∧ Ext w W ∧ Boxed W w2.heap.size 1 0 1 0 0 := ⟨_, rfl, hE3.trans (ext_alloc _ _), Boxed.new _ _ _ _ _ _ _⟩
    rw [← hW]
    clear hW hE3
    generalize w2.heap.size = b at *
    have hB0 := hB
    obtain ⟨c0, c1, c2, c3, c4, hlt⟩ := hB0
    refine ((right_ok _ _ _ _ _ _ ok2)).mono ?_
    rintro e w1 ⟨rfl, hE1⟩
    replace hB := hB.ext hE1
    replace hE0 := hE0.trans hE1
    clear hE1
    have hB0 := hB
    obtain ⟨c0, c1, c2, c3, c4, hlt⟩ := hB0
    go_wp2_with fail
    go_ret
    exact ⟨rfl, hE0⟩
theorem of_law_in (n : Int) (w : World) (h0 : 0 ≤ n) (h1 : n < 2147483648) : Calls Try.prog 4 #[.int .i64 n] w fun e w' => e = .returned (.bool true) ∧ Ext w w' := by
  have hok := of_ok n h0 h1
  have hnum := num_of n h0 h1
  have hof := fun w => of_in n w h0 h1
  generalize ofT n = t at *
  generalize ofF n = f at *
  generalize ofFa n = fa at *
  generalize ofM n = m at *
  generalize ofL n = l at *
  have H := Lib.hid hok
  have HO := Lib.hid hof
  obtain ⟨q, hq⟩ : ∃ q, q = numV t f fa m l := ⟨_, rfl⟩
  have hnn := fun w => number_ok t f fa m l w H.out
  rw [← hq] at hnum hnn
  have HN := Lib.hid hnn
  clear hok hof hnn hq
  by_cases h7 : n / 1024 % 8 = 7
  · rw [if_pos h7] at hnum
    have b7 : (n / 1024 % 8 == 7) = true := by simp [h7]
    have bq : (q == n - 1024) = true := by simp [hnum]
    clear h7 hnum
    go_enter Try.func4, Try.ntmps4
    go_wp2_with fail
    refine (tries_any _).mono ?_
    rintro e w1 ⟨rfl, hE1⟩
    go_wp2_with fail
    refine (HO.out _).mono ?_
    rintro e w2 ⟨rfl, hE2⟩
    have hE3 := hE1.trans hE2
    clear hE1 hE2
    go_wp2_with fail
    obtain ⟨W, hW, hE0, hB⟩ : ∃ W, W = w2.alloc (.cells #[.int .i64 t, .int .i64 f, .int .i64 fa, .int .i64 m, .int .i64 l] 23) ∧ Ext w W ∧ Boxed W w2.heap.size t f fa m l := ⟨_, rfl, hE3.trans (ext_alloc _ _), Boxed.new _ _ _ _ _ _ _⟩
    rw [← hW]
    clear hW hE3
    generalize w2.heap.size = b at *
    have hB0 := hB
    obtain ⟨c0, c1, c2, c3, c4, hlt⟩ := hB0
    refine ((right_ok _ _ _ _ _ _ H.out)).mono ?_
    rintro e w1 ⟨rfl, hE1⟩
    replace hB := hB.ext hE1
    replace hE0 := hE0.trans hE1
    clear hE1
    have hB0 := hB
    obtain ⟨c0, c1, c2, c3, c4, hlt⟩ := hB0
    go_wp2_with fail
    refine ((HN.out _)).mono ?_
    rintro e w1 ⟨rfl, hE1⟩
    replace hB := hB.ext hE1
    replace hE0 := hE0.trans hE1
    clear hE1
    have hB0 := hB
    obtain ⟨c0, c1, c2, c3, c4, hlt⟩ := hB0
    go_wp2_with fail
    go_ret
    exact ⟨rfl, hE0⟩
  · rw [if_neg h7] at hnum
    have b7 : (n / 1024 % 8 == 7) = false := by simp [h7]
    have bq : (q == n) = true := by simp [hnum]
    clear h7 hnum
    go_enter Try.func4, Try.ntmps4
    go_wp2_with fail
    refine (tries_any _).mono ?_
    rintro e w1 ⟨rfl, hE1⟩
    go_wp2_with fail
    refine (HO.out _).mono ?_
    rintro e w2 ⟨rfl, hE2⟩
    have hE3 := hE1.trans hE2
    clear hE1 hE2
    go_wp2_with fail
    obtain ⟨W, hW, hE0, hB⟩ : ∃ W, W = w2.alloc (.cells #[.int .i64 t, .int .i64 f, .int .i64 fa, .int .i64 m, .int .i64 l] 23) ∧ Ext w W ∧ Boxed W w2.heap.size t f fa m l := ⟨_, rfl, hE3.trans (ext_alloc _ _), Boxed.new _ _ _ _ _ _ _⟩
    rw [← hW]
    clear hW hE3
    generalize w2.heap.size = b at *
    have hB0 := hB
    obtain ⟨c0, c1, c2, c3, c4, hlt⟩ := hB0
    refine ((right_ok _ _ _ _ _ _ H.out)).mono ?_
    rintro e w1 ⟨rfl, hE1⟩
    replace hB := hB.ext hE1
    replace hE0 := hE0.trans hE1
    clear hE1
    have hB0 := hB
    obtain ⟨c0, c1, c2, c3, c4, hlt⟩ := hB0
    go_wp2_with fail
    refine ((HN.out _)).mono ?_
    rintro e w1 ⟨rfl, hE1⟩
    replace hB := hB.ext hE1
    replace hE0 := hE0.trans hE1
    clear hE1
    have hB0 := hB
    obtain ⟨c0, c1, c2, c3, c4, hlt⟩ := hB0
    go_wp2_with fail
    go_ret
    exact ⟨rfl, hE0⟩
end Go.Proofs.Ytlkhpfchcapgiaa
