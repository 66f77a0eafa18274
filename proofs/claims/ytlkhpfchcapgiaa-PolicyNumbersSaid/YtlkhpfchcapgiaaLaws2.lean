/- The laws PolicyWaits, PolicyGrows and PolicyTicks: the walks. -/
import Derived.Test.YtlkhpfchcapgiaaWalks3
import Derived.LoopTactic
namespace Go.Proofs.Ytlkhpfchcapgiaa
open Go.ChangeShapes Go.WideShapes Go.ChangeAt Go.RowKit
set_option linter.unusedVariables false
set_option linter.unusedSimpArgs false

theorem waits_not (t f fa m l n : Int) (w : World) (h : ¬ OkP t f fa m l) : Calls Try.prog 5 #[pol t f fa m l, .int .i64 n] w fun e w' => e = .returned (.bool true) ∧ Ext w w' := by
  have H := Lib.hid h
  clear h
  go_enter Try.func5, Try.ntmps5
  go_wp2_with fail
  obtain ⟨W, hW, hE0, hB⟩ : ∃ W, W = w.alloc (.cells #[.int .i64 t, .int .i64 f, .int .i64 fa, .int .i64 m, .int .i64 l] 23) ∧ Ext w W ∧ Boxed W w.heap.size t f fa m l := ⟨_, rfl, ext_alloc _ _, Boxed.new _ _ _ _ _ _ _⟩
  rw [← hW]
  clear hW
  generalize w.heap.size = b at *
  have hB0 := hB
  obtain ⟨c0, c1, c2, c3, c4, hlt⟩ := hB0
  refine ((tries_any _)).mono ?_
  rintro e w1 ⟨rfl, hE1⟩
  replace hB := hB.ext hE1
  replace hE0 := hE0.trans hE1
  clear hE1
  have hB0 := hB
  obtain ⟨c0, c1, c2, c3, c4, hlt⟩ := hB0
  go_wp2_with fail
  refine ((right_no _ _ _ _ _ _ H.out)).mono ?_
  rintro e w1 ⟨rfl, hE1⟩
  replace hB := hB.ext hE1
  replace hE0 := hE0.trans hE1
  clear hE1
  have hB0 := hB
  obtain ⟨c0, c1, c2, c3, c4, hlt⟩ := hB0
  go_wp2_with fail
  go_ret
  exact ⟨rfl, hE0⟩
theorem waits_no (t f fa m l n : Int) (w : World) (h : OkP t f fa m l) (hn : n < 1 ∨ (0 < t ∧ t ≤ n)) : Calls Try.prog 5 #[pol t f fa m l, .int .i64 n] w fun e w' => e = .returned (.bool true) ∧ Ext w w' := by
  have H := Lib.hid h
  have Hn := Lib.hid hn
  rcases (show n < 1 ∨ (1 ≤ n ∧ 0 < t ∧ t ≤ n) by omega) with q1 | ⟨q1, q2, q3⟩
  all_goals
    clear h hn
    go_enter Try.func5, Try.ntmps5
    go_wp2_with fail
    obtain ⟨W, hW, hE0, hB⟩ : ∃ W, W = w.alloc (.cells #[.int .i64 t, .int .i64 f, .int .i64 fa, .int .i64 m, .int .i64 l] 23) ∧ Ext w W ∧ Boxed W w.heap.size t f fa m l := ⟨_, rfl, ext_alloc _ _, Boxed.new _ _ _ _ _ _ _⟩
    rw [← hW]
    clear hW
    generalize w.heap.size = b at *
    have hB0 := hB
    obtain ⟨c0, c1, c2, c3, c4, hlt⟩ := hB0
    refine ((tries_any _)).mono ?_
    rintro e w1 ⟨rfl, hE1⟩
    replace hB := hB.ext hE1
    replace hE0 := hE0.trans hE1
    clear hE1
    have hB0 := hB
    obtain ⟨c0, c1, c2, c3, c4, hlt⟩ := hB0
    go_wp2_with fail
    refine ((right_ok _ _ _ _ _ _ H.out)).mono ?_
    rintro e w1 ⟨rfl, hE1⟩
    replace hB := hB.ext hE1
    replace hE0 := hE0.trans hE1
    clear hE1
    have hB0 := hB
    obtain ⟨c0, c1, c2, c3, c4, hlt⟩ := hB0
    go_wp2_with fail
    refine ((wait_no _ _ _ _ _ _ _ H.out Hn.out)).mono ?_
    rintro e w1 ⟨rfl, hE1⟩
    replace hB := hB.ext hE1
    replace hE0 := hE0.trans hE1
    clear hE1
    have hB0 := hB
    obtain ⟨c0, c1, c2, c3, c4, hlt⟩ := hB0
    go_wp2_with fail
    go_ret
    exact ⟨rfl, hE0⟩
set_option maxHeartbeats 4000000 in
theorem waits_yes1 (t f fa m l n : Int) (w : World) (h : OkP t f fa m l) (hn1 : 1 ≤ n) (hn2 : n ≤ 9223372036854775807) (hn : t ≤ 0 ∨ n < t) (q1 : t ≤ 0) : Calls Try.prog 5 #[pol t f fa m l, .int .i64 n] w fun e w' => e = .returned (.bool true) ∧ Ext w w' := by
  have H := Lib.hid h
  have Hn := Lib.hid hn
  obtain ⟨h1, h2, h3, h4, h5, h6, h7, h8, h9, h10⟩ := h
  obtain ⟨v, hv⟩ : ∃ v, v = waitV f fa m n := ⟨_, rfl⟩
  have hw := fun w => wait_yes t f fa m l n w H.out hn1 hn2 Hn.out
  rw [← hv] at hw
  have HW := Lib.hid hw
  have HV := Lib.hid hv
  have hb := itr_bd fa m f h5 h6 h3 h4
  have HB := Lib.hid hb
  clear hw hv hb hn
  go_enter Try.func5, Try.ntmps5
  go_wp2_with fail
  obtain ⟨W, hW, hE0, hB⟩ : ∃ W, W = w.alloc (.cells #[.int .i64 t, .int .i64 f, .int .i64 fa, .int .i64 m, .int .i64 l] 23) ∧ Ext w W ∧ Boxed W w.heap.size t f fa m l := ⟨_, rfl, ext_alloc _ _, Boxed.new _ _ _ _ _ _ _⟩
  rw [← hW]
  clear hW
  generalize w.heap.size = b at *
  have hB0 := hB
  obtain ⟨c0, c1, c2, c3, c4, hlt⟩ := hB0
  refine ((tries_any _)).mono ?_
  rintro e w1 ⟨rfl, hE1⟩
  replace hB := hB.ext hE1
  replace hE0 := hE0.trans hE1
  clear hE1
  have hB0 := hB
  obtain ⟨c0, c1, c2, c3, c4, hlt⟩ := hB0
  go_wp2_with fail
  refine ((right_ok _ _ _ _ _ _ H.out)).mono ?_
  rintro e w1 ⟨rfl, hE1⟩
  replace hB := hB.ext hE1
  replace hE0 := hE0.trans hE1
  clear hE1
  have hB0 := hB
  obtain ⟨c0, c1, c2, c3, c4, hlt⟩ := hB0
  go_wp2_with fail
  refine ((HW.out _)).mono ?_
  rintro e w1 ⟨rfl, hE1⟩
  replace hB := hB.ext hE1
  replace hE0 := hE0.trans hE1
  clear hE1
  have hB0 := hB
  obtain ⟨c0, c1, c2, c3, c4, hlt⟩ := hB0
  go_wp2_with fail
  go_loop [7, 8] (fun x k => ∃ j : Nat, (j : Int) + 1 ≤ n ∧ (j : Int) + 1 ≤ 100 ∧ k = .int .i64 ((j : Int) + 1) ∧ x = .int .i64 (itr fa m j f)) (fun _ k => (100 - intOf k).toNat)
  case atStart => exact ⟨0, by omega, by omega, rfl, rfl⟩
  case round =>
    obtain ⟨j, hj1, hj2, rfl, rfl⟩ := hrel
    by_cases g1 : (j : Int) + 1 < n
    · by_cases g2 : (j : Int) + 1 < 100
      · obtain ⟨hb1, hb2⟩ := HB.out j
        have hn' := HB.out (j + 1)
        have hx : itr fa m (j + 1) f = stp fa m (itr fa m j f) := rfl
        rw [hx] at hn'
        by_cases g3 : itr fa m j f < 658812288346769700
        · rcases (show m = 0 ∨ (1 ≤ m ∧ itr fa m j f < m) ∨ (1 ≤ m ∧ m ≤ itr fa m j f) by omega) with r | ⟨r1, r2⟩ | ⟨r1, r2⟩
          · have hgo : stp fa m (itr fa m j f) = itr fa m j f * fa := stp_go fa m _ (by omega) (by omega) g3
            rw [hgo] at hn' hx
            have b0 : (m == 0) = true := by simp [r]
            clear hgo r
            obtain ⟨hn1', hn2'⟩ := hn'
            have HG := Lib.hid hx
            clear hx
            generalize itr fa m j f = x at *
            go_wp2
            exact ⟨⟨j + 1, by omega, by omega, by go_num, by rw [HG.out]⟩, by simp [intOf]; omega⟩
          · have hgo : stp fa m (itr fa m j f) = itr fa m j f * fa := stp_go fa m _ (by omega) (by omega) g3
            rw [hgo] at hn' hx
            have b0 : (m == 0) = false := by simp; omega
            clear hgo
            obtain ⟨hn1', hn2'⟩ := hn'
            have HG := Lib.hid hx
            clear hx
            generalize itr fa m j f = x at *
            go_wp2
            exact ⟨⟨j + 1, by omega, by omega, by go_num, by rw [HG.out]⟩, by simp [intOf]; omega⟩
          · have hgo : stp fa m (itr fa m j f) = itr fa m j f := stp_stop fa m _ (by omega)
            rw [hgo] at hn' hx
            have b0 : (m == 0) = false := by simp; omega
            clear hgo
            obtain ⟨hn1', hn2'⟩ := hn'
            have HG := Lib.hid hx
            clear hx
            generalize itr fa m j f = x at *
            go_wp2
            exact ⟨⟨j + 1, by omega, by omega, by go_num, by rw [HG.out]⟩, by simp [intOf]; omega⟩
        · have hgo : stp fa m (itr fa m j f) = itr fa m j f := stp_stop fa m _ (by omega)
          rw [hgo] at hn' hx
          clear hgo
          obtain ⟨hn1', hn2'⟩ := hn'
          have HG := Lib.hid hx
          clear hx
          generalize itr fa m j f = x at *
          go_wp2
          exact ⟨⟨j + 1, by omega, by omega, by go_num, by rw [HG.out]⟩, by simp [intOf]; omega⟩
      · have bg : decide ((j : Int) + 1 < 100) = false := by simp; omega
        have hfk : (v == capp m (itr fa m j f)) = true := by
          have e := HV.out
          simp only [beq_iff_eq]
          rw [e]
          unfold waitV
          congr 1
          by_cases hj : n ≤ 100
          · congr 1; omega
          · rw [itr_99 fa m f h5 h6 h3 h4 (n - 1).toNat (by omega), itr_99 fa m f h5 h6 h3 h4 j (by omega)]
        unfold capp at hfk
        obtain ⟨hb1, hb2⟩ := HB.out j
        generalize itr fa m j f = x at *
        try clear g2
        by_cases p1 : 0 < m ∧ m < x
        · rw [if_pos p1] at hfk
          obtain ⟨p1, p2⟩ := p1
          go_wp2
          all_goals (go_ret; exact ⟨rfl, hE0⟩)
        · rw [if_neg p1] at hfk
          rcases (show m ≤ 0 ∨ (0 < m ∧ x ≤ m) by omega) with p2 | ⟨p2, p3⟩
          · clear p1
            go_wp2
            all_goals (go_ret; exact ⟨rfl, hE0⟩)
          · clear p1
            go_wp2
            all_goals (go_ret; exact ⟨rfl, hE0⟩)
    · have hfk : (v == capp m (itr fa m j f)) = true := by
        have e := HV.out
        simp only [beq_iff_eq]
        rw [e]
        unfold waitV
        congr 1
        by_cases hj : n ≤ 100
        · congr 1; omega
        · rw [itr_99 fa m f h5 h6 h3 h4 (n - 1).toNat (by omega), itr_99 fa m f h5 h6 h3 h4 j (by omega)]
      unfold capp at hfk
      obtain ⟨hb1, hb2⟩ := HB.out j
      generalize itr fa m j f = x at *
      try clear g2
      by_cases p1 : 0 < m ∧ m < x
      · rw [if_pos p1] at hfk
        obtain ⟨p1, p2⟩ := p1
        go_wp2
        all_goals (go_ret; exact ⟨rfl, hE0⟩)
      · rw [if_neg p1] at hfk
        rcases (show m ≤ 0 ∨ (0 < m ∧ x ≤ m) by omega) with p2 | ⟨p2, p3⟩
        · clear p1
          go_wp2
          all_goals (go_ret; exact ⟨rfl, hE0⟩)
        · clear p1
          go_wp2
          all_goals (go_ret; exact ⟨rfl, hE0⟩)
set_option maxHeartbeats 4000000 in
theorem waits_yes2 (t f fa m l n : Int) (w : World) (h : OkP t f fa m l) (hn1 : 1 ≤ n) (hn2 : n ≤ 9223372036854775807) (hn : t ≤ 0 ∨ n < t) (q1 : 0 < t) (q2 : n < t) : Calls Try.prog 5 #[pol t f fa m l, .int .i64 n] w fun e w' => e = .returned (.bool true) ∧ Ext w w' := by
  have H := Lib.hid h
  have Hn := Lib.hid hn
  obtain ⟨h1, h2, h3, h4, h5, h6, h7, h8, h9, h10⟩ := h
  obtain ⟨v, hv⟩ : ∃ v, v = waitV f fa m n := ⟨_, rfl⟩
  have hw := fun w => wait_yes t f fa m l n w H.out hn1 hn2 Hn.out
  rw [← hv] at hw
  have HW := Lib.hid hw
  have HV := Lib.hid hv
  have hb := itr_bd fa m f h5 h6 h3 h4
  have HB := Lib.hid hb
  clear hw hv hb hn
  go_enter Try.func5, Try.ntmps5
  go_wp2_with fail
  obtain ⟨W, hW, hE0, hB⟩ : ∃ W, W = w.alloc (.cells #[.int .i64 t, .int .i64 f, .int .i64 fa, .int .i64 m, .int .i64 l] 23) ∧ Ext w W ∧ Boxed W w.heap.size t f fa m l := ⟨_, rfl, ext_alloc _ _, Boxed.new _ _ _ _ _ _ _⟩
  rw [← hW]
  clear hW
  generalize w.heap.size = b at *
  have hB0 := hB
  obtain ⟨c0, c1, c2, c3, c4, hlt⟩ := hB0
  refine ((tries_any _)).mono ?_
  rintro e w1 ⟨rfl, hE1⟩
  replace hB := hB.ext hE1
  replace hE0 := hE0.trans hE1
  clear hE1
  have hB0 := hB
  obtain ⟨c0, c1, c2, c3, c4, hlt⟩ := hB0
  go_wp2_with fail
  refine ((right_ok _ _ _ _ _ _ H.out)).mono ?_
  rintro e w1 ⟨rfl, hE1⟩
  replace hB := hB.ext hE1
  replace hE0 := hE0.trans hE1
  clear hE1
  have hB0 := hB
  obtain ⟨c0, c1, c2, c3, c4, hlt⟩ := hB0
  go_wp2_with fail
  refine ((HW.out _)).mono ?_
  rintro e w1 ⟨rfl, hE1⟩
  replace hB := hB.ext hE1
  replace hE0 := hE0.trans hE1
  clear hE1
  have hB0 := hB
  obtain ⟨c0, c1, c2, c3, c4, hlt⟩ := hB0
  go_wp2_with fail
  go_loop [7, 8] (fun x k => ∃ j : Nat, (j : Int) + 1 ≤ n ∧ (j : Int) + 1 ≤ 100 ∧ k = .int .i64 ((j : Int) + 1) ∧ x = .int .i64 (itr fa m j f)) (fun _ k => (100 - intOf k).toNat)
  case atStart => exact ⟨0, by omega, by omega, rfl, rfl⟩
  case round =>
    obtain ⟨j, hj1, hj2, rfl, rfl⟩ := hrel
    by_cases g1 : (j : Int) + 1 < n
    · by_cases g2 : (j : Int) + 1 < 100
      · obtain ⟨hb1, hb2⟩ := HB.out j
        have hn' := HB.out (j + 1)
        have hx : itr fa m (j + 1) f = stp fa m (itr fa m j f) := rfl
        rw [hx] at hn'
        by_cases g3 : itr fa m j f < 658812288346769700
        · rcases (show m = 0 ∨ (1 ≤ m ∧ itr fa m j f < m) ∨ (1 ≤ m ∧ m ≤ itr fa m j f) by omega) with r | ⟨r1, r2⟩ | ⟨r1, r2⟩
          · have hgo : stp fa m (itr fa m j f) = itr fa m j f * fa := stp_go fa m _ (by omega) (by omega) g3
            rw [hgo] at hn' hx
            have b0 : (m == 0) = true := by simp [r]
            clear hgo r
            obtain ⟨hn1', hn2'⟩ := hn'
            have HG := Lib.hid hx
            clear hx
            generalize itr fa m j f = x at *
            go_wp2
            exact ⟨⟨j + 1, by omega, by omega, by go_num, by rw [HG.out]⟩, by simp [intOf]; omega⟩
          · have hgo : stp fa m (itr fa m j f) = itr fa m j f * fa := stp_go fa m _ (by omega) (by omega) g3
            rw [hgo] at hn' hx
            have b0 : (m == 0) = false := by simp; omega
            clear hgo
            obtain ⟨hn1', hn2'⟩ := hn'
            have HG := Lib.hid hx
            clear hx
            generalize itr fa m j f = x at *
            go_wp2
            exact ⟨⟨j + 1, by omega, by omega, by go_num, by rw [HG.out]⟩, by simp [intOf]; omega⟩
          · have hgo : stp fa m (itr fa m j f) = itr fa m j f := stp_stop fa m _ (by omega)
            rw [hgo] at hn' hx
            have b0 : (m == 0) = false := by simp; omega
            clear hgo
            obtain ⟨hn1', hn2'⟩ := hn'
            have HG := Lib.hid hx
            clear hx
            generalize itr fa m j f = x at *
            go_wp2
            exact ⟨⟨j + 1, by omega, by omega, by go_num, by rw [HG.out]⟩, by simp [intOf]; omega⟩
        · have hgo : stp fa m (itr fa m j f) = itr fa m j f := stp_stop fa m _ (by omega)
          rw [hgo] at hn' hx
          clear hgo
          obtain ⟨hn1', hn2'⟩ := hn'
          have HG := Lib.hid hx
          clear hx
          generalize itr fa m j f = x at *
          go_wp2
          exact ⟨⟨j + 1, by omega, by omega, by go_num, by rw [HG.out]⟩, by simp [intOf]; omega⟩
      · have bg : decide ((j : Int) + 1 < 100) = false := by simp; omega
        have hfk : (v == capp m (itr fa m j f)) = true := by
          have e := HV.out
          simp only [beq_iff_eq]
          rw [e]
          unfold waitV
          congr 1
          by_cases hj : n ≤ 100
          · congr 1; omega
          · rw [itr_99 fa m f h5 h6 h3 h4 (n - 1).toNat (by omega), itr_99 fa m f h5 h6 h3 h4 j (by omega)]
        unfold capp at hfk
        obtain ⟨hb1, hb2⟩ := HB.out j
        generalize itr fa m j f = x at *
        try clear g2
        by_cases p1 : 0 < m ∧ m < x
        · rw [if_pos p1] at hfk
          obtain ⟨p1, p2⟩ := p1
          go_wp2
          all_goals (go_ret; exact ⟨rfl, hE0⟩)
        · rw [if_neg p1] at hfk
          rcases (show m ≤ 0 ∨ (0 < m ∧ x ≤ m) by omega) with p2 | ⟨p2, p3⟩
          · clear p1
            go_wp2
            all_goals (go_ret; exact ⟨rfl, hE0⟩)
          · clear p1
            go_wp2
            all_goals (go_ret; exact ⟨rfl, hE0⟩)
    · have hfk : (v == capp m (itr fa m j f)) = true := by
        have e := HV.out
        simp only [beq_iff_eq]
        rw [e]
        unfold waitV
        congr 1
        by_cases hj : n ≤ 100
        · congr 1; omega
        · rw [itr_99 fa m f h5 h6 h3 h4 (n - 1).toNat (by omega), itr_99 fa m f h5 h6 h3 h4 j (by omega)]
      unfold capp at hfk
      obtain ⟨hb1, hb2⟩ := HB.out j
      generalize itr fa m j f = x at *
      try clear g2
      by_cases p1 : 0 < m ∧ m < x
      · rw [if_pos p1] at hfk
        obtain ⟨p1, p2⟩ := p1
        go_wp2
        all_goals (go_ret; exact ⟨rfl, hE0⟩)
      · rw [if_neg p1] at hfk
        rcases (show m ≤ 0 ∨ (0 < m ∧ x ≤ m) by omega) with p2 | ⟨p2, p3⟩
        · clear p1
          go_wp2
          all_goals (go_ret; exact ⟨rfl, hE0⟩)
        · clear p1
          go_wp2
          all_goals (go_ret; exact ⟨rfl, hE0⟩)
end Go.Proofs.Ytlkhpfchcapgiaa
