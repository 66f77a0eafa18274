/- The walks of package policy: how long one waits. -/
import Derived.Test.YtlkhpfchcapgiaaWalks
import Derived.LoopTactic
namespace Go.Proofs.Ytlkhpfchcapgiaa
open Go.ChangeShapes Go.WideShapes Go.ChangeAt Go.RowKit
set_option linter.unusedVariables false
set_option linter.unusedSimpArgs false
theorem wait_no (t f fa m l n : Int) (w : World) (h : OkP t f fa m l) (hn : n < 1 ∨ (0 < t ∧ t ≤ n)) :
    Calls Try.prog 13 #[pol t f fa m l, .int .i64 n] w fun e w' => e = .returned (.tuple #[.int .i64 0, .bool false]) ∧ Ext w w' := by
  by_cases h1 : n < 1
  · clear hn
    go_enter Try.func13, Try.ntmps13
    go_wp2
    go_ret2
    exact ⟨rfl, by (repeat first
                     | exact Ext.refl _
                     | exact ext_alloc _ _
                     | (fail)
                     | refine Ext.drewN ?_ _
                     | refine Ext.drew ?_
                     | refine Ext.alloc ?_ _
                     | refine Ext.setCell ?_ (by simp; omega) _)⟩
  · have h2 : 0 < t := by omega
    have h3 : t ≤ n := by omega
    clear hn
    go_enter Try.func13, Try.ntmps13
    go_wp2
    go_ret2
    exact ⟨rfl, by (repeat first
                     | exact Ext.refl _
                     | exact ext_alloc _ _
                     | (fail)
                     | refine Ext.drewN ?_ _
                     | refine Ext.drew ?_
                     | refine Ext.alloc ?_ _
                     | refine Ext.setCell ?_ (by simp; omega) _)⟩
theorem ret_wait {a b : Int} {c : Bool} (h : a = b) : Ending.returned (.tuple #[.int .i64 a, .bool c]) = .returned (.tuple #[.int .i64 b, .bool c]) := by rw [h]
set_option maxHeartbeats 1000000 in
theorem wait_yes (t f fa m l n : Int) (w : World) (h : OkP t f fa m l) (hn1 : 1 ≤ n) (hn2 : n ≤ 9223372036854775807) (hn : t ≤ 0 ∨ n < t) :
    Calls Try.prog 13 #[pol t f fa m l, .int .i64 n] w fun e w' => e = .returned (.tuple #[.int .i64 (waitV f fa m n), .bool true]) ∧ Ext w w' := by
  obtain ⟨h1, h2, h3, h4, h5, h6, h7, h8, h9, h10⟩ := h
  have hb := itr_bd fa m f h5 h6 h3 h4
  have HB := Lib.hid hb
  clear hb
  by_cases h0 : 0 < t
  · have hnt : n < t := by omega
    clear hn
    go_enter Try.func13, Try.ntmps13
    go_wp2
    go_loop [6, 24] (fun x i => ∃ k : Nat, (k : Int) ≤ n - 1 ∧ i = .int .i64 k ∧ x = .int .i64 (itr fa m k f)) (fun _ i => (n - 1 - intOf i).toNat)
    case atStart => exact ⟨0, by omega, rfl, rfl⟩
    case round =>
      obtain ⟨k, hk, rfl, rfl⟩ := hrel
      have hb := HB.out k
      obtain ⟨hb1, hb2⟩ := hb
      by_cases hlt : (k : Int) < n - 1
      · by_cases q1 : fa = 1
        · subst q1
          · have hfk : waitV f 1 m n = capp m (itr 1 m k f) := by
              have hs := itr_stuck 1 m f k (stp_stop 1 m _ (by omega)) ((n - 1).toNat - k)
              unfold waitV; rw [← hs]; congr 2; omega
            have hfin : Hid (waitV f 1 m n = capp m (itr 1 m k f)) := hfk
            clear hfk
            generalize itr 1 m k f = v at *
            go_wp2
            all_goals (go_ret2; exact ⟨ret_wait (by rw [hfin.out]; unfold capp; split <;> omega), by (repeat first
                                                                                                       | exact Ext.refl _
                                                                                                       | exact ext_alloc _ _
                                                                                                       | (fail)
                                                                                                       | refine Ext.drewN ?_ _
                                                                                                       | refine Ext.drew ?_
                                                                                                       | refine Ext.alloc ?_ _
                                                                                                       | refine Ext.setCell ?_ (by simp; omega) _)⟩)
        · by_cases q2 : itr fa m k f = 0
          · have hfk : waitV f fa m n = capp m (itr fa m k f) := by
              have hs := itr_stuck fa m f k (stp_stop fa m _ (by omega)) ((n - 1).toNat - k)
              unfold waitV; rw [← hs]; congr 2; omega
            have hfin : Hid (waitV f fa m n = capp m (itr fa m k f)) := hfk
            clear hfk
            generalize itr fa m k f = v at *
            go_wp2
            all_goals (go_ret2; exact ⟨ret_wait (by rw [hfin.out]; unfold capp; split <;> omega), by (repeat first
                                                                                                       | exact Ext.refl _
                                                                                                       | exact ext_alloc _ _
                                                                                                       | (fail)
                                                                                                       | refine Ext.drewN ?_ _
                                                                                                       | refine Ext.drew ?_
                                                                                                       | refine Ext.alloc ?_ _
                                                                                                       | refine Ext.setCell ?_ (by simp; omega) _)⟩)
          · by_cases q3 : 0 < m ∧ m ≤ itr fa m k f
            · obtain ⟨q3, q3b⟩ := q3
              have hfk : waitV f fa m n = capp m (itr fa m k f) := by
                have hs := itr_stuck fa m f k (stp_stop fa m _ (by omega)) ((n - 1).toNat - k)
                unfold waitV; rw [← hs]; congr 2; omega
              have hfin : Hid (waitV f fa m n = capp m (itr fa m k f)) := hfk
              clear hfk
              generalize itr fa m k f = v at *
              go_wp2
              all_goals (go_ret2; exact ⟨ret_wait (by rw [hfin.out]; unfold capp; split <;> omega), by (repeat first
                                                                                                         | exact Ext.refl _
                                                                                                         | exact ext_alloc _ _
                                                                                                         | (fail)
                                                                                                         | refine Ext.drewN ?_ _
                                                                                                         | refine Ext.drew ?_
                                                                                                         | refine Ext.alloc ?_ _
                                                                                                         | refine Ext.setCell ?_ (by simp; omega) _)⟩)
            · by_cases q4 : 658812288346769700 ≤ itr fa m k f
              · have hfk : waitV f fa m n = capp m (itr fa m k f) := by
                  have hs := itr_stuck fa m f k (stp_stop fa m _ (by omega)) ((n - 1).toNat - k)
                  unfold waitV; rw [← hs]; congr 2; omega
                have hfin : Hid (waitV f fa m n = capp m (itr fa m k f)) := hfk
                clear hfk
                generalize itr fa m k f = v at *
                go_wp2
                all_goals (go_ret2; exact ⟨ret_wait (by rw [hfin.out]; unfold capp; split <;> omega), by (repeat first
                                                                                                           | exact Ext.refl _
                                                                                                           | exact ext_alloc _ _
                                                                                                           | (fail)
                                                                                                           | refine Ext.drewN ?_ _
                                                                                                           | refine Ext.drew ?_
                                                                                                           | refine Ext.alloc ?_ _
                                                                                                           | refine Ext.setCell ?_ (by simp; omega) _)⟩)
              · have hgo := stp_go fa m (itr fa m k f) q3 h7 (by omega)
                have hx : stp fa m (itr fa m k f) = itr fa m (k + 1) f := rfl
                have hn := HB.out (k + 1)
                rw [← hx, hgo] at hn
                rw [hx] at hgo
                obtain ⟨hn1', hn2'⟩ := hn
                have HG := Lib.hid hgo
                clear hgo hx
                generalize hv : itr fa m k f = v at *
                clear hv
                have b1 : (fa == 1) = false := by simp [q1]
                have b2 : (v == 0) = false := by simp [q2]
                clear q1 q2
                rcases (show m ≤ 0 ∨ (0 < m ∧ v < m) by omega) with q3' | ⟨q3', q3b⟩
                · clear q3
                  go_wp2
                  exact ⟨⟨k + 1, by omega, by go_num, by rw [HG.out]⟩, by simp [intOf]; omega⟩
                · clear q3
                  go_wp2
                  exact ⟨⟨k + 1, by omega, by go_num, by rw [HG.out]⟩, by simp [intOf]; omega⟩
      · have hfk : waitV f fa m n = capp m (itr fa m k f) := by
          unfold waitV; congr 2; omega
        have hfin : Hid (waitV f fa m n = capp m (itr fa m k f)) := hfk
        clear hfk
        generalize itr fa m k f = v at *
        go_wp2
        all_goals (go_ret2; exact ⟨ret_wait (by rw [hfin.out]; unfold capp; split <;> omega), by (repeat first
                                                                                                   | exact Ext.refl _
                                                                                                   | exact ext_alloc _ _
                                                                                                   | (fail)
                                                                                                   | refine Ext.drewN ?_ _
                                                                                                   | refine Ext.drew ?_
                                                                                                   | refine Ext.alloc ?_ _
                                                                                                   | refine Ext.setCell ?_ (by simp; omega) _)⟩)
  · have h0' : t ≤ 0 := by omega
    clear hn
    go_enter Try.func13, Try.ntmps13
    go_wp2
    go_loop [6, 24] (fun x i => ∃ k : Nat, (k : Int) ≤ n - 1 ∧ i = .int .i64 k ∧ x = .int .i64 (itr fa m k f)) (fun _ i => (n - 1 - intOf i).toNat)
    case atStart => exact ⟨0, by omega, rfl, rfl⟩
    case round =>
      obtain ⟨k, hk, rfl, rfl⟩ := hrel
      have hb := HB.out k
      obtain ⟨hb1, hb2⟩ := hb
      by_cases hlt : (k : Int) < n - 1
      · by_cases q1 : fa = 1
        · subst q1
          · have hfk : waitV f 1 m n = capp m (itr 1 m k f) := by
              have hs := itr_stuck 1 m f k (stp_stop 1 m _ (by omega)) ((n - 1).toNat - k)
              unfold waitV; rw [← hs]; congr 2; omega
            have hfin : Hid (waitV f 1 m n = capp m (itr 1 m k f)) := hfk
            clear hfk
            generalize itr 1 m k f = v at *
            go_wp2
            all_goals (go_ret2; exact ⟨ret_wait (by rw [hfin.out]; unfold capp; split <;> omega), by (repeat first
                                                                                                       | exact Ext.refl _
                                                                                                       | exact ext_alloc _ _
                                                                                                       | (fail)
                                                                                                       | refine Ext.drewN ?_ _
                                                                                                       | refine Ext.drew ?_
                                                                                                       | refine Ext.alloc ?_ _
                                                                                                       | refine Ext.setCell ?_ (by simp; omega) _)⟩)
        · by_cases q2 : itr fa m k f = 0
          · have hfk : waitV f fa m n = capp m (itr fa m k f) := by
              have hs := itr_stuck fa m f k (stp_stop fa m _ (by omega)) ((n - 1).toNat - k)
              unfold waitV; rw [← hs]; congr 2; omega
            have hfin : Hid (waitV f fa m n = capp m (itr fa m k f)) := hfk
            clear hfk
            generalize itr fa m k f = v at *
            go_wp2
            all_goals (go_ret2; exact ⟨ret_wait (by rw [hfin.out]; unfold capp; split <;> omega), by (repeat first
                                                                                                       | exact Ext.refl _
                                                                                                       | exact ext_alloc _ _
                                                                                                       | (fail)
                                                                                                       | refine Ext.drewN ?_ _
                                                                                                       | refine Ext.drew ?_
                                                                                                       | refine Ext.alloc ?_ _
                                                                                                       | refine Ext.setCell ?_ (by simp; omega) _)⟩)
          · by_cases q3 : 0 < m ∧ m ≤ itr fa m k f
            · obtain ⟨q3, q3b⟩ := q3
              have hfk : waitV f fa m n = capp m (itr fa m k f) := by
                have hs := itr_stuck fa m f k (stp_stop fa m _ (by omega)) ((n - 1).toNat - k)
                unfold waitV; rw [← hs]; congr 2; omega
              have hfin : Hid (waitV f fa m n = capp m (itr fa m k f)) := hfk
              clear hfk
              generalize itr fa m k f = v at *
              go_wp2
              all_goals (go_ret2; exact ⟨ret_wait (by rw [hfin.out]; unfold capp; split <;> omega), by (repeat first
                                                                                                         | exact Ext.refl _
                                                                                                         | exact ext_alloc _ _
                                                                                                         | (fail)
                                                                                                         | refine Ext.drewN ?_ _
                                                                                                         | refine Ext.drew ?_
                                                                                                         | refine Ext.alloc ?_ _
                                                                                                         | refine Ext.setCell ?_ (by simp; omega) _)⟩)
            · by_cases q4 : 658812288346769700 ≤ itr fa m k f
              · have hfk : waitV f fa m n = capp m (itr fa m k f) := by
                  have hs := itr_stuck fa m f k (stp_stop fa m _ (by omega)) ((n - 1).toNat - k)
                  unfold waitV; rw [← hs]; congr 2; omega
                have hfin : Hid (waitV f fa m n = capp m (itr fa m k f)) := hfk
                clear hfk
                generalize itr fa m k f = v at *
                go_wp2
                all_goals (go_ret2; exact ⟨ret_wait (by rw [hfin.out]; unfold capp; split <;> omega), by (repeat first
                                                                                                           | exact Ext.refl _
                                                                                                           | exact ext_alloc _ _
                                                                                                           | (fail)
                                                                                                           | refine Ext.drewN ?_ _
                                                                                                           | refine Ext.drew ?_
                                                                                                           | refine Ext.alloc ?_ _
                                                                                                           | refine Ext.setCell ?_ (by simp; omega) _)⟩)
              · have hgo := stp_go fa m (itr fa m k f) q3 h7 (by omega)
                have hx : stp fa m (itr fa m k f) = itr fa m (k + 1) f := rfl
                have hn := HB.out (k + 1)
                rw [← hx, hgo] at hn
                rw [hx] at hgo
                obtain ⟨hn1', hn2'⟩ := hn
                have HG := Lib.hid hgo
                clear hgo hx
                generalize hv : itr fa m k f = v at *
                clear hv
                have b1 : (fa == 1) = false := by simp [q1]
                have b2 : (v == 0) = false := by simp [q2]
                clear q1 q2
                rcases (show m ≤ 0 ∨ (0 < m ∧ v < m) by omega) with q3' | ⟨q3', q3b⟩
                · clear q3
                  go_wp2
                  exact ⟨⟨k + 1, by omega, by go_num, by rw [HG.out]⟩, by simp [intOf]; omega⟩
                · clear q3
                  go_wp2
                  exact ⟨⟨k + 1, by omega, by go_num, by rw [HG.out]⟩, by simp [intOf]; omega⟩
      · have hfk : waitV f fa m n = capp m (itr fa m k f) := by
          unfold waitV; congr 2; omega
        have hfin : Hid (waitV f fa m n = capp m (itr fa m k f)) := hfk
        clear hfk
        generalize itr fa m k f = v at *
        go_wp2
        all_goals (go_ret2; exact ⟨ret_wait (by rw [hfin.out]; unfold capp; split <;> omega), by (repeat first
                                                                                                   | exact Ext.refl _
                                                                                                   | exact ext_alloc _ _
                                                                                                   | (fail)
                                                                                                   | refine Ext.drewN ?_ _
                                                                                                   | refine Ext.drew ?_
                                                                                                   | refine Ext.alloc ?_ _
                                                                                                   | refine Ext.setCell ?_ (by simp; omega) _)⟩)
end Go.Proofs.Ytlkhpfchcapgiaa
