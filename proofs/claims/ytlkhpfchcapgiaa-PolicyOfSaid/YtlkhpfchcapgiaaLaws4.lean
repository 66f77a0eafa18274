/- The law PolicyTicks: the walk. -/
import Derived.Test.YtlkhpfchcapgiaaWalks3
namespace Go.Proofs.Ytlkhpfchcapgiaa
open Go.ChangeShapes Go.WideShapes Go.ChangeAt Go.RowKit
set_option linter.unusedVariables false
set_option linter.unusedSimpArgs false

theorem ticks_not (t f fa m l n now : Int) (w : World) (h : ¬ OkP t f fa m l) : Calls Try.prog 7 #[pol t f fa m l, .int .i64 n, .int .i64 now] w fun e w' => e = .returned (.bool true) ∧ Ext w w' := by
  have H := Lib.hid h
  clear h
  go_enter Try.func7, Try.ntmps7
  go_wp2_with fail
  obtain ⟨W, hW, hE0, hB⟩ : ∃ W, W = w.alloc (.cells #[.int .i64 t, .int .i64 f, .int .i64 fa, .int .i64 m, .int .i64 l] 23) ∧ Ext w W ∧ Boxed W w.heap.size t f fa m l := ⟨_, rfl, ext_alloc _ _, Boxed.new _ _ _ _ _ _ _⟩
  rw [← hW]
  clear hW
  generalize w.heap.size = b at *
  have hB0 := hB
  obtain ⟨c0, c1, c2, c3, c4, hlt⟩ := hB0
  refine ((tries_any _)).mono ?_
  rintro e w1 ⟨rfl, hE1⟩
  replace hB := hB.ext hE1
  replace hE0 := hE0.trans hE1
  clear hE1
  have hB0 := hB
  obtain ⟨c0, c1, c2, c3, c4, hlt⟩ := hB0
  go_wp2_with fail
  refine ((right_no _ _ _ _ _ _ H.out)).mono ?_
  rintro e w1 ⟨rfl, hE1⟩
  replace hB := hB.ext hE1
  replace hE0 := hE0.trans hE1
  clear hE1
  have hB0 := hB
  obtain ⟨c0, c1, c2, c3, c4, hlt⟩ := hB0
  go_wp2_with fail
  go_ret
  exact ⟨rfl, hE0⟩
theorem ticks_late (t f fa m l n now : Int) (w : World) (h : OkP t f fa m l) (hn : 4611686018427387903 < now) : Calls Try.prog 7 #[pol t f fa m l, .int .i64 n, .int .i64 now] w fun e w' => e = .returned (.bool true) ∧ Ext w w' := by
  have H := Lib.hid h
  clear h
  go_enter Try.func7, Try.ntmps7
  go_wp2_with fail
  obtain ⟨W, hW, hE0, hB⟩ : ∃ W, W = w.alloc (.cells #[.int .i64 t, .int .i64 f, .int .i64 fa, .int .i64 m, .int .i64 l] 23) ∧ Ext w W ∧ Boxed W w.heap.size t f fa m l := ⟨_, rfl, ext_alloc _ _, Boxed.new _ _ _ _ _ _ _⟩
  rw [← hW]
  clear hW
  generalize w.heap.size = b at *
  have hB0 := hB
  obtain ⟨c0, c1, c2, c3, c4, hlt⟩ := hB0
  refine ((tries_any _)).mono ?_
  rintro e w1 ⟨rfl, hE1⟩
  replace hB := hB.ext hE1
  replace hE0 := hE0.trans hE1
  clear hE1
  have hB0 := hB
  obtain ⟨c0, c1, c2, c3, c4, hlt⟩ := hB0
  go_wp2_with fail
  refine ((right_ok _ _ _ _ _ _ H.out)).mono ?_
  rintro e w1 ⟨rfl, hE1⟩
  replace hB := hB.ext hE1
  replace hE0 := hE0.trans hE1
  clear hE1
  have hB0 := hB
  obtain ⟨c0, c1, c2, c3, c4, hlt⟩ := hB0
  go_wp2_with fail
  go_ret
  exact ⟨rfl, hE0⟩
set_option maxHeartbeats 4000000 in
theorem ticks_no (t f fa m l n now : Int) (w : World) (h : OkP t f fa m l) (hn : n < 1 ∨ (0 < t ∧ t ≤ n)) (hn0 : -9223372036854775808 ≤ now) (hn9 : now ≤ 4611686018427387903) : Calls Try.prog 7 #[pol t f fa m l, .int .i64 n, .int .i64 now] w fun e w' => e = .returned (.bool true) ∧ Ext w w' := by
  have H := Lib.hid h
  have HW := Lib.hid (fun w => wait_no t f fa m l n w H.out hn)
  have HA := Lib.hid (fun w => again_no t f fa m l n now w H.out hn)
  obtain ⟨h1, h2, h3, h4, h5, h6, h7, h8, h9, h10⟩ := h
  clear hn
  by_cases g : now < 0
  · go_enter Try.func7, Try.ntmps7
    go_wp2_with fail
    obtain ⟨W, hW, hE0, hB⟩ : ∃ W, W = w.alloc (.cells #[.int .i64 t, .int .i64 f, .int .i64 fa, .int .i64 m, .int .i64 l] 23) ∧ Ext w W ∧ Boxed W w.heap.size t f fa m l := ⟨_, rfl, ext_alloc _ _, Boxed.new _ _ _ _ _ _ _⟩
    rw [← hW]
    clear hW
    generalize w.heap.size = b at *
    have hB0 := hB
    obtain ⟨c0, c1, c2, c3, c4, hlt⟩ := hB0
    refine ((tries_any _)).mono ?_
    rintro e w1 ⟨rfl, hE1⟩
    replace hB := hB.ext hE1
    replace hE0 := hE0.trans hE1
    clear hE1
    have hB0 := hB
    obtain ⟨c0, c1, c2, c3, c4, hlt⟩ := hB0
    go_wp2_with fail
    refine ((right_ok _ _ _ _ _ _ H.out)).mono ?_
    rintro e w1 ⟨rfl, hE1⟩
    replace hB := hB.ext hE1
    replace hE0 := hE0.trans hE1
    clear hE1
    have hB0 := hB
    obtain ⟨c0, c1, c2, c3, c4, hlt⟩ := hB0
    go_wp2_with fail
    refine ((HW.out _)).mono ?_
    rintro e w1 ⟨rfl, hE1⟩
    replace hB := hB.ext hE1
    replace hE0 := hE0.trans hE1
    clear hE1
    have hB0 := hB
    obtain ⟨c0, c1, c2, c3, c4, hlt⟩ := hB0
    go_wp2_with fail
    refine ((HA.out _)).mono ?_
    rintro e w1 ⟨rfl, hE1⟩
    replace hB := hB.ext hE1
    replace hE0 := hE0.trans hE1
    clear hE1
    have hB0 := hB
    obtain ⟨c0, c1, c2, c3, c4, hlt⟩ := hB0
    go_wp2_with fail
    go_ret
    exact ⟨rfl, hE0⟩
  · by_cases l0 : l = 0
    · have HD := Lib.hid (fun w => due_no t f fa m l now w H.out (by omega))
      have bl : (l == 0) = true := by simp [l0]
      clear l0
      go_enter Try.func7, Try.ntmps7
      go_wp2_with fail
      obtain ⟨W, hW, hE0, hB⟩ : ∃ W, W = w.alloc (.cells #[.int .i64 t, .int .i64 f, .int .i64 fa, .int .i64 m, .int .i64 l] 23) ∧ Ext w W ∧ Boxed W w.heap.size t f fa m l := ⟨_, rfl, ext_alloc _ _, Boxed.new _ _ _ _ _ _ _⟩
      rw [← hW]
      clear hW
      generalize w.heap.size = b at *
      have hB0 := hB
      obtain ⟨c0, c1, c2, c3, c4, hlt⟩ := hB0
      refine ((tries_any _)).mono ?_
      rintro e w1 ⟨rfl, hE1⟩
      replace hB := hB.ext hE1
      replace hE0 := hE0.trans hE1
      clear hE1
      have hB0 := hB
      obtain ⟨c0, c1, c2, c3, c4, hlt⟩ := hB0
      go_wp2_with fail
      refine ((right_ok _ _ _ _ _ _ H.out)).mono ?_
      rintro e w1 ⟨rfl, hE1⟩
      replace hB := hB.ext hE1
      replace hE0 := hE0.trans hE1
      clear hE1
      have hB0 := hB
      obtain ⟨c0, c1, c2, c3, c4, hlt⟩ := hB0
      go_wp2_with fail
      refine ((HW.out _)).mono ?_
      rintro e w1 ⟨rfl, hE1⟩
      replace hB := hB.ext hE1
      replace hE0 := hE0.trans hE1
      clear hE1
      have hB0 := hB
      obtain ⟨c0, c1, c2, c3, c4, hlt⟩ := hB0
      go_wp2_with fail
      refine ((HA.out _)).mono ?_
      rintro e w1 ⟨rfl, hE1⟩
      replace hB := hB.ext hE1
      replace hE0 := hE0.trans hE1
      clear hE1
      have hB0 := hB
      obtain ⟨c0, c1, c2, c3, c4, hlt⟩ := hB0
      go_wp2_with fail
      refine ((HD.out _)).mono ?_
      rintro e w1 ⟨rfl, hE1⟩
      replace hB := hB.ext hE1
      replace hE0 := hE0.trans hE1
      clear hE1
      have hB0 := hB
      obtain ⟨c0, c1, c2, c3, c4, hlt⟩ := hB0
      go_wp2_with fail
      go_ret
      exact ⟨rfl, hE0⟩
    · have bl : (l == 0) = false := by simp [l0]
      have l1 : 1 ≤ l := by omega
      by_cases lw : 4611686018427387903 - l < now
      · have HD := Lib.hid (fun w => due_no t f fa m l now w H.out (by omega))
        clear l0
        go_enter Try.func7, Try.ntmps7
        go_wp2_with fail
        obtain ⟨W, hW, hE0, hB⟩ : ∃ W, W = w.alloc (.cells #[.int .i64 t, .int .i64 f, .int .i64 fa, .int .i64 m, .int .i64 l] 23) ∧ Ext w W ∧ Boxed W w.heap.size t f fa m l := ⟨_, rfl, ext_alloc _ _, Boxed.new _ _ _ _ _ _ _⟩
        rw [← hW]
        clear hW
        generalize w.heap.size = b at *
        have hB0 := hB
        obtain ⟨c0, c1, c2, c3, c4, hlt⟩ := hB0
        refine ((tries_any _)).mono ?_
        rintro e w1 ⟨rfl, hE1⟩
        replace hB := hB.ext hE1
        replace hE0 := hE0.trans hE1
        clear hE1
        have hB0 := hB
        obtain ⟨c0, c1, c2, c3, c4, hlt⟩ := hB0
        go_wp2_with fail
        refine ((right_ok _ _ _ _ _ _ H.out)).mono ?_
        rintro e w1 ⟨rfl, hE1⟩
        replace hB := hB.ext hE1
        replace hE0 := hE0.trans hE1
        clear hE1
        have hB0 := hB
        obtain ⟨c0, c1, c2, c3, c4, hlt⟩ := hB0
        go_wp2_with fail
        refine ((HW.out _)).mono ?_
        rintro e w1 ⟨rfl, hE1⟩
        replace hB := hB.ext hE1
        replace hE0 := hE0.trans hE1
        clear hE1
        have hB0 := hB
        obtain ⟨c0, c1, c2, c3, c4, hlt⟩ := hB0
        go_wp2_with fail
        refine ((HA.out _)).mono ?_
        rintro e w1 ⟨rfl, hE1⟩
        replace hB := hB.ext hE1
        replace hE0 := hE0.trans hE1
        clear hE1
        have hB0 := hB
        obtain ⟨c0, c1, c2, c3, c4, hlt⟩ := hB0
        go_wp2_with fail
        refine ((HD.out _)).mono ?_
        rintro e w1 ⟨rfl, hE1⟩
        replace hB := hB.ext hE1
        replace hE0 := hE0.trans hE1
        clear hE1
        have hB0 := hB
        obtain ⟨c0, c1, c2, c3, c4, hlt⟩ := hB0
        go_wp2_with fail
        go_ret
        exact ⟨rfl, hE0⟩
      · have HD := Lib.hid (fun w => due_yes t f fa m l now w H.out (by omega) (by omega) (by omega))
        clear l0
        go_enter Try.func7, Try.ntmps7
        go_wp2_with fail
        obtain ⟨W, hW, hE0, hB⟩ : ∃ W, W = w.alloc (.cells #[.int .i64 t, .int .i64 f, .int .i64 fa, .int .i64 m, .int .i64 l] 23) ∧ Ext w W ∧ Boxed W w.heap.size t f fa m l := ⟨_, rfl, ext_alloc _ _, Boxed.new _ _ _ _ _ _ _⟩
        rw [← hW]
        clear hW
        generalize w.heap.size = b at *
        have hB0 := hB
        obtain ⟨c0, c1, c2, c3, c4, hlt⟩ := hB0
        refine ((tries_any _)).mono ?_
        rintro e w1 ⟨rfl, hE1⟩
        replace hB := hB.ext hE1
        replace hE0 := hE0.trans hE1
        clear hE1
        have hB0 := hB
        obtain ⟨c0, c1, c2, c3, c4, hlt⟩ := hB0
        go_wp2_with fail
        refine ((right_ok _ _ _ _ _ _ H.out)).mono ?_
        rintro e w1 ⟨rfl, hE1⟩
        replace hB := hB.ext hE1
        replace hE0 := hE0.trans hE1
        clear hE1
        have hB0 := hB
        obtain ⟨c0, c1, c2, c3, c4, hlt⟩ := hB0
        go_wp2_with fail
        refine ((HW.out _)).mono ?_
        rintro e w1 ⟨rfl, hE1⟩
        replace hB := hB.ext hE1
        replace hE0 := hE0.trans hE1
        clear hE1
        have hB0 := hB
        obtain ⟨c0, c1, c2, c3, c4, hlt⟩ := hB0
        go_wp2_with fail
        refine ((HA.out _)).mono ?_
        rintro e w1 ⟨rfl, hE1⟩
        replace hB := hB.ext hE1
        replace hE0 := hE0.trans hE1
        clear hE1
        have hB0 := hB
        obtain ⟨c0, c1, c2, c3, c4, hlt⟩ := hB0
        go_wp2_with fail
        refine ((HD.out _)).mono ?_
        rintro e w1 ⟨rfl, hE1⟩
        replace hB := hB.ext hE1
        replace hE0 := hE0.trans hE1
        clear hE1
        have hB0 := hB
        obtain ⟨c0, c1, c2, c3, c4, hlt⟩ := hB0
        go_wp2_with fail
        go_ret
        exact ⟨rfl, hE0⟩
set_option maxHeartbeats 4000000 in
theorem ticks_neg (t f fa m l n now : Int) (w : World) (h : OkP t f fa m l) (hn1 : 1 ≤ n) (hn2 : n ≤ 9223372036854775807) (hn : t ≤ 0 ∨ n < t) (hn0 : -9223372036854775808 ≤ now) (g : now < 0) : Calls Try.prog 7 #[pol t f fa m l, .int .i64 n, .int .i64 now] w fun e w' => e = .returned (.bool true) ∧ Ext w w' := by
  have H := Lib.hid h
  have HW := Lib.hid (fun w => wait_yes t f fa m l n w H.out hn1 hn2 hn)
  have HA := Lib.hid (fun w => again_neg t f fa m l n now w H.out hn1 hn2 hn g)
  obtain ⟨h1, h2, h3, h4, h5, h6, h7, h8, h9, h10⟩ := h
  clear hn
  go_enter Try.func7, Try.ntmps7
  go_wp2_with fail
  obtain ⟨W, hW, hE0, hB⟩ : ∃ W, W = w.alloc (.cells #[.int .i64 t, .int .i64 f, .int .i64 fa, .int .i64 m, .int .i64 l] 23) ∧ Ext w W ∧ Boxed W w.heap.size t f fa m l := ⟨_, rfl, ext_alloc _ _, Boxed.new _ _ _ _ _ _ _⟩
  rw [← hW]
  clear hW
  generalize w.heap.size = b at *
  have hB0 := hB
  obtain ⟨c0, c1, c2, c3, c4, hlt⟩ := hB0
  refine ((tries_any _)).mono ?_
  rintro e w1 ⟨rfl, hE1⟩
  replace hB := hB.ext hE1
  replace hE0 := hE0.trans hE1
  clear hE1
  have hB0 := hB
  obtain ⟨c0, c1, c2, c3, c4, hlt⟩ := hB0
  go_wp2_with fail
  refine ((right_ok _ _ _ _ _ _ H.out)).mono ?_
  rintro e w1 ⟨rfl, hE1⟩
  replace hB := hB.ext hE1
  replace hE0 := hE0.trans hE1
  clear hE1
  have hB0 := hB
  obtain ⟨c0, c1, c2, c3, c4, hlt⟩ := hB0
  go_wp2_with fail
  refine ((HW.out _)).mono ?_
  rintro e w1 ⟨rfl, hE1⟩
  replace hB := hB.ext hE1
  replace hE0 := hE0.trans hE1
  clear hE1
  have hB0 := hB
  obtain ⟨c0, c1, c2, c3, c4, hlt⟩ := hB0
  go_wp2_with fail
  refine ((HA.out _)).mono ?_
  rintro e w1 ⟨rfl, hE1⟩
  replace hB := hB.ext hE1
  replace hE0 := hE0.trans hE1
  clear hE1
  have hB0 := hB
  obtain ⟨c0, c1, c2, c3, c4, hlt⟩ := hB0
  go_wp2_with fail
  go_ret
  exact ⟨rfl, hE0⟩
set_option maxHeartbeats 4000000 in
theorem ticks_yes (t f fa m l n now : Int) (w : World) (h : OkP t f fa m l) (hn1 : 1 ≤ n) (hn2 : n ≤ 9223372036854775807) (hn : t ≤ 0 ∨ n < t) (hn0 : 0 ≤ now) (hn9 : now ≤ 4611686018427387903) : Calls Try.prog 7 #[pol t f fa m l, .int .i64 n, .int .i64 now] w fun e w' => e = .returned (.bool true) ∧ Ext w w' := by
  have H := Lib.hid h
  obtain ⟨h1, h2, h3, h4, h5, h6, h7, h8, h9, h10⟩ := h
  obtain ⟨v, hv⟩ : ∃ v, v = waitV f fa m n := ⟨_, rfl⟩
  have hvb := waitV_bd f fa m n h5 h6 h3 h4 h7
  have hw := fun w => wait_yes t f fa m l n w H.out hn1 hn2 hn
  have ha := fun w => again_yes t f fa m l n now v w H.out hn1 hn2 hn hn0 hn9 hv
  rw [← hv] at hw hvb
  obtain ⟨hv1, hv2, hv3⟩ := hvb
  have HW := Lib.hid hw
  clear hn hv hv3 hw
  by_cases g : 4611686018427387903 - now < v
  · simp only [if_pos g] at ha
    have HA := Lib.hid ha
    clear ha
    by_cases l0 : l = 0
    · have HD := Lib.hid (fun w => due_no t f fa m l now w H.out (by omega))
      have bl : (l == 0) = true := by simp [l0]
      clear l0
      go_enter Try.func7, Try.ntmps7
      go_wp2_with fail
      obtain ⟨W, hW, hE0, hB⟩ : ∃ W, W = w.alloc (.cells #[.int .i64 t, .int .i64 f, .int .i64 fa, .int .i64 m, .int .i64 l] 23) ∧ Ext w W ∧ Boxed W w.heap.size t f fa m l := ⟨_, rfl, ext_alloc _ _, Boxed.new _ _ _ _ _ _ _⟩
      rw [← hW]
      clear hW
      generalize w.heap.size = b at *
      have hB0 := hB
      obtain ⟨c0, c1, c2, c3, c4, hlt⟩ := hB0
      refine ((tries_any _)).mono ?_
      rintro e w1 ⟨rfl, hE1⟩
      replace hB := hB.ext hE1
      replace hE0 := hE0.trans hE1
      clear hE1
      have hB0 := hB
      obtain ⟨c0, c1, c2, c3, c4, hlt⟩ := hB0
      go_wp2_with fail
      refine ((right_ok _ _ _ _ _ _ H.out)).mono ?_
      rintro e w1 ⟨rfl, hE1⟩
      replace hB := hB.ext hE1
      replace hE0 := hE0.trans hE1
      clear hE1
      have hB0 := hB
      obtain ⟨c0, c1, c2, c3, c4, hlt⟩ := hB0
      go_wp2_with fail
      refine ((HW.out _)).mono ?_
      rintro e w1 ⟨rfl, hE1⟩
      replace hB := hB.ext hE1
      replace hE0 := hE0.trans hE1
      clear hE1
      have hB0 := hB
      obtain ⟨c0, c1, c2, c3, c4, hlt⟩ := hB0
      go_wp2_with fail
      refine ((HA.out _)).mono ?_
      rintro e w1 ⟨rfl, hE1⟩
      replace hB := hB.ext hE1
      replace hE0 := hE0.trans hE1
      clear hE1
      have hB0 := hB
      obtain ⟨c0, c1, c2, c3, c4, hlt⟩ := hB0
      go_wp2_with fail
      refine ((HD.out _)).mono ?_
      rintro e w1 ⟨rfl, hE1⟩
      replace hB := hB.ext hE1
      replace hE0 := hE0.trans hE1
      clear hE1
      have hB0 := hB
      obtain ⟨c0, c1, c2, c3, c4, hlt⟩ := hB0
      go_wp2_with fail
      go_ret
      exact ⟨rfl, hE0⟩
    · have bl : (l == 0) = false := by simp [l0]
      have l1 : 1 ≤ l := by omega
      by_cases lw : 4611686018427387903 - l < now
      · have HD := Lib.hid (fun w => due_no t f fa m l now w H.out (by omega))
        clear l0
        go_enter Try.func7, Try.ntmps7
        go_wp2_with fail
        obtain ⟨W, hW, hE0, hB⟩ : ∃ W, W = w.alloc (.cells #[.int .i64 t, .int .i64 f, .int .i64 fa, .int .i64 m, .int .i64 l] 23) ∧ Ext w W ∧ Boxed W w.heap.size t f fa m l := ⟨_, rfl, ext_alloc _ _, Boxed.new _ _ _ _ _ _ _⟩
        rw [← hW]
        clear hW
        generalize w.heap.size = b at *
        have hB0 := hB
        obtain ⟨c0, c1, c2, c3, c4, hlt⟩ := hB0
        refine ((tries_any _)).mono ?_
        rintro e w1 ⟨rfl, hE1⟩
        replace hB := hB.ext hE1
        replace hE0 := hE0.trans hE1
        clear hE1
        have hB0 := hB
        obtain ⟨c0, c1, c2, c3, c4, hlt⟩ := hB0
        go_wp2_with fail
        refine ((right_ok _ _ _ _ _ _ H.out)).mono ?_
        rintro e w1 ⟨rfl, hE1⟩
        replace hB := hB.ext hE1
        replace hE0 := hE0.trans hE1
        clear hE1
        have hB0 := hB
        obtain ⟨c0, c1, c2, c3, c4, hlt⟩ := hB0
        go_wp2_with fail
        refine ((HW.out _)).mono ?_
        rintro e w1 ⟨rfl, hE1⟩
        replace hB := hB.ext hE1
        replace hE0 := hE0.trans hE1
        clear hE1
        have hB0 := hB
        obtain ⟨c0, c1, c2, c3, c4, hlt⟩ := hB0
        go_wp2_with fail
        refine ((HA.out _)).mono ?_
        rintro e w1 ⟨rfl, hE1⟩
        replace hB := hB.ext hE1
        replace hE0 := hE0.trans hE1
        clear hE1
        have hB0 := hB
        obtain ⟨c0, c1, c2, c3, c4, hlt⟩ := hB0
        go_wp2_with fail
        refine ((HD.out _)).mono ?_
        rintro e w1 ⟨rfl, hE1⟩
        replace hB := hB.ext hE1
        replace hE0 := hE0.trans hE1
        clear hE1
        have hB0 := hB
        obtain ⟨c0, c1, c2, c3, c4, hlt⟩ := hB0
        go_wp2_with fail
        go_ret
        exact ⟨rfl, hE0⟩
      · have HD := Lib.hid (fun w => due_yes t f fa m l now w H.out (by omega) (by omega) (by omega))
        clear l0
        go_enter Try.func7, Try.ntmps7
        go_wp2_with fail
        obtain ⟨W, hW, hE0, hB⟩ : ∃ W, W = w.alloc (.cells #[.int .i64 t, .int .i64 f, .int .i64 fa, .int .i64 m, .int .i64 l] 23) ∧ Ext w W ∧ Boxed W w.heap.size t f fa m l := ⟨_, rfl, ext_alloc _ _, Boxed.new _ _ _ _ _ _ _⟩
        rw [← hW]
        clear hW
        generalize w.heap.size = b at *
        have hB0 := hB
        obtain ⟨c0, c1, c2, c3, c4, hlt⟩ := hB0
        refine ((tries_any _)).mono ?_
        rintro e w1 ⟨rfl, hE1⟩
        replace hB := hB.ext hE1
        replace hE0 := hE0.trans hE1
        clear hE1
        have hB0 := hB
        obtain ⟨c0, c1, c2, c3, c4, hlt⟩ := hB0
        go_wp2_with fail
        refine ((right_ok _ _ _ _ _ _ H.out)).mono ?_
        rintro e w1 ⟨rfl, hE1⟩
        replace hB := hB.ext hE1
        replace hE0 := hE0.trans hE1
        clear hE1
        have hB0 := hB
        obtain ⟨c0, c1, c2, c3, c4, hlt⟩ := hB0
        go_wp2_with fail
        refine ((HW.out _)).mono ?_
        rintro e w1 ⟨rfl, hE1⟩
        replace hB := hB.ext hE1
        replace hE0 := hE0.trans hE1
        clear hE1
        have hB0 := hB
        obtain ⟨c0, c1, c2, c3, c4, hlt⟩ := hB0
        go_wp2_with fail
        refine ((HA.out _)).mono ?_
        rintro e w1 ⟨rfl, hE1⟩
        replace hB := hB.ext hE1
        replace hE0 := hE0.trans hE1
        clear hE1
        have hB0 := hB
        obtain ⟨c0, c1, c2, c3, c4, hlt⟩ := hB0
        go_wp2_with fail
        refine ((HD.out _)).mono ?_
        rintro e w1 ⟨rfl, hE1⟩
        replace hB := hB.ext hE1
        replace hE0 := hE0.trans hE1
        clear hE1
        have hB0 := hB
        obtain ⟨c0, c1, c2, c3, c4, hlt⟩ := hB0
        go_wp2_with fail
        go_ret
        exact ⟨rfl, hE0⟩
  · simp only [if_neg g] at ha
    have HA := Lib.hid ha
    clear ha
    by_cases l0 : l = 0
    · have HD := Lib.hid (fun w => due_no t f fa m l now w H.out (by omega))
      have bl : (l == 0) = true := by simp [l0]
      clear l0
      go_enter Try.func7, Try.ntmps7
      go_wp2_with fail
      obtain ⟨W, hW, hE0, hB⟩ : ∃ W, W = w.alloc (.cells #[.int .i64 t, .int .i64 f, .int .i64 fa, .int .i64 m, .int .i64 l] 23) ∧ Ext w W ∧ Boxed W w.heap.size t f fa m l := ⟨_, rfl, ext_alloc _ _, Boxed.new _ _ _ _ _ _ _⟩
      rw [← hW]
      clear hW
      generalize w.heap.size = b at *
      have hB0 := hB
      obtain ⟨c0, c1, c2, c3, c4, hlt⟩ := hB0
      refine ((tries_any _)).mono ?_
      rintro e w1 ⟨rfl, hE1⟩
      replace hB := hB.ext hE1
      replace hE0 := hE0.trans hE1
      clear hE1
      have hB0 := hB
      obtain ⟨c0, c1, c2, c3, c4, hlt⟩ := hB0
      go_wp2_with fail
      refine ((right_ok _ _ _ _ _ _ H.out)).mono ?_
      rintro e w1 ⟨rfl, hE1⟩
      replace hB := hB.ext hE1
      replace hE0 := hE0.trans hE1
      clear hE1
      have hB0 := hB
      obtain ⟨c0, c1, c2, c3, c4, hlt⟩ := hB0
      go_wp2_with fail
      refine ((HW.out _)).mono ?_
      rintro e w1 ⟨rfl, hE1⟩
      replace hB := hB.ext hE1
      replace hE0 := hE0.trans hE1
      clear hE1
      have hB0 := hB
      obtain ⟨c0, c1, c2, c3, c4, hlt⟩ := hB0
      go_wp2_with fail
      refine ((HA.out _)).mono ?_
      rintro e w1 ⟨rfl, hE1⟩
      replace hB := hB.ext hE1
      replace hE0 := hE0.trans hE1
      clear hE1
      have hB0 := hB
      obtain ⟨c0, c1, c2, c3, c4, hlt⟩ := hB0
      go_wp2_with fail
      refine ((HD.out _)).mono ?_
      rintro e w1 ⟨rfl, hE1⟩
      replace hB := hB.ext hE1
      replace hE0 := hE0.trans hE1
      clear hE1
      have hB0 := hB
      obtain ⟨c0, c1, c2, c3, c4, hlt⟩ := hB0
      go_wp2_with fail
      go_ret
      exact ⟨rfl, hE0⟩
    · have bl : (l == 0) = false := by simp [l0]
      have l1 : 1 ≤ l := by omega
      by_cases lw : 4611686018427387903 - l < now
      · have HD := Lib.hid (fun w => due_no t f fa m l now w H.out (by omega))
        clear l0
        go_enter Try.func7, Try.ntmps7
        go_wp2_with fail
        obtain ⟨W, hW, hE0, hB⟩ : ∃ W, W = w.alloc (.cells #[.int .i64 t, .int .i64 f, .int .i64 fa, .int .i64 m, .int .i64 l] 23) ∧ Ext w W ∧ Boxed W w.heap.size t f fa m l := ⟨_, rfl, ext_alloc _ _, Boxed.new _ _ _ _ _ _ _⟩
        rw [← hW]
        clear hW
        generalize w.heap.size = b at *
        have hB0 := hB
        obtain ⟨c0, c1, c2, c3, c4, hlt⟩ := hB0
        refine ((tries_any _)).mono ?_
        rintro e w1 ⟨rfl, hE1⟩
        replace hB := hB.ext hE1
        replace hE0 := hE0.trans hE1
        clear hE1
        have hB0 := hB
        obtain ⟨c0, c1, c2, c3, c4, hlt⟩ := hB0
        go_wp2_with fail
        refine ((right_ok _ _ _ _ _ _ H.out)).mono ?_
        rintro e w1 ⟨rfl, hE1⟩
        replace hB := hB.ext hE1
        replace hE0 := hE0.trans hE1
        clear hE1
        have hB0 := hB
        obtain ⟨c0, c1, c2, c3, c4, hlt⟩ := hB0
        go_wp2_with fail
        refine ((HW.out _)).mono ?_
        rintro e w1 ⟨rfl, hE1⟩
        replace hB := hB.ext hE1
        replace hE0 := hE0.trans hE1
        clear hE1
        have hB0 := hB
        obtain ⟨c0, c1, c2, c3, c4, hlt⟩ := hB0
        go_wp2_with fail
        refine ((HA.out _)).mono ?_
        rintro e w1 ⟨rfl, hE1⟩
        replace hB := hB.ext hE1
        replace hE0 := hE0.trans hE1
        clear hE1
        have hB0 := hB
        obtain ⟨c0, c1, c2, c3, c4, hlt⟩ := hB0
        go_wp2_with fail
        refine ((HD.out _)).mono ?_
        rintro e w1 ⟨rfl, hE1⟩
        replace hB := hB.ext hE1
        replace hE0 := hE0.trans hE1
        clear hE1
        have hB0 := hB
        obtain ⟨c0, c1, c2, c3, c4, hlt⟩ := hB0
        go_wp2_with fail
        go_ret
        exact ⟨rfl, hE0⟩
      · have HD := Lib.hid (fun w => due_yes t f fa m l now w H.out (by omega) (by omega) (by omega))
        clear l0
        go_enter Try.func7, Try.ntmps7
        go_wp2_with fail
        obtain ⟨W, hW, hE0, hB⟩ : ∃ W, W = w.alloc (.cells #[.int .i64 t, .int .i64 f, .int .i64 fa, .int .i64 m, .int .i64 l] 23) ∧ Ext w W ∧ Boxed W w.heap.size t f fa m l := ⟨_, rfl, ext_alloc _ _, Boxed.new _ _ _ _ _ _ _⟩
        rw [← hW]
        clear hW
        generalize w.heap.size = b at *
        have hB0 := hB
        obtain ⟨c0, c1, c2, c3, c4, hlt⟩ := hB0
        refine ((tries_any _)).mono ?_
        rintro e w1 ⟨rfl, hE1⟩
        replace hB := hB.ext hE1
        replace hE0 := hE0.trans hE1
        clear hE1
        have hB0 := hB
        obtain ⟨c0, c1, c2, c3, c4, hlt⟩ := hB0
        go_wp2_with fail
        refine ((right_ok _ _ _ _ _ _ H.out)).mono ?_
        rintro e w1 ⟨rfl, hE1⟩
        replace hB := hB.ext hE1
        replace hE0 := hE0.trans hE1
        clear hE1
        have hB0 := hB
        obtain ⟨c0, c1, c2, c3, c4, hlt⟩ := hB0
        go_wp2_with fail
        refine ((HW.out _)).mono ?_
        rintro e w1 ⟨rfl, hE1⟩
        replace hB := hB.ext hE1
        replace hE0 := hE0.trans hE1
        clear hE1
        have hB0 := hB
        obtain ⟨c0, c1, c2, c3, c4, hlt⟩ := hB0
        go_wp2_with fail
        refine ((HA.out _)).mono ?_
        rintro e w1 ⟨rfl, hE1⟩
        replace hB := hB.ext hE1
        replace hE0 := hE0.trans hE1
        clear hE1
        have hB0 := hB
        obtain ⟨c0, c1, c2, c3, c4, hlt⟩ := hB0
        go_wp2_with fail
        refine ((HD.out _)).mono ?_
        rintro e w1 ⟨rfl, hE1⟩
        replace hB := hB.ext hE1
        replace hE0 := hE0.trans hE1
        clear hE1
        have hB0 := hB
        obtain ⟨c0, c1, c2, c3, c4, hlt⟩ := hB0
        go_wp2_with fail
        go_ret
        exact ⟨rfl, hE0⟩
end Go.Proofs.Ytlkhpfchcapgiaa
