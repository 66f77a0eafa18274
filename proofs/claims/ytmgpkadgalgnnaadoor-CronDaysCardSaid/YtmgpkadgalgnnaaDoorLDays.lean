/- CronDays, walked. -/
import Derived.Test.YtmgpkadgalgnnaaDoorCFinds
namespace Go.Proofs.YtmgpkadgalgnnaaDoor
set_option maxRecDepth 4000
set_option linter.unusedVariables false
set_option linter.unusedSimpArgs false
open Go Go.RowKit
theorem yb_shift (y : Int) : yb (y + 400) = yb y + 146097 := by unfold yb; omega
theorem lp_shift (y : Int) : lp (y + 400) = lp y := by
  rw [lp_def, lp_def]
  have h1 : (y + 400) % 4 = y % 4 := by omega
  have h2 : (y + 400) % 100 = y % 100 := by omega
  have h3 : (y + 400) % 400 = y % 400 := by omega
  rw [h1, h2, h3]
theorem dm_shift (y m : Int) : dm (y + 400) m = dm y m := by unfold dm; rw [lp_shift]
theorem cum_shift (y m : Int) : cum (y + 400) m = cum y m := by unfold cum; rw [lp_shift]
/-- four hundred years on -/
theorem civ_400 {day : Int} (h : 0 ≤ day) : civY (day + 146097) = civY day + 400 ∧ civM (day + 146097) = civM day ∧ civD (day + 146097) = civD day := by
  have h1 := civ_isDate h
  have h2 := civ_isDate (show 0 ≤ day + 146097 by omega)
  have h3 : IsDate (day + 146097) (civY day + 400) (civM day) (civD day) :=
    ⟨by have := h1.y0; omega, h1.m1, h1.m2, h1.d1, by rw [dm_shift]; exact h1.d2, by rw [yb_shift, cum_shift]; have := h1.eq; omega⟩
  obtain ⟨a, b, c⟩ := h2.unique h3
  exact ⟨a, b, c⟩
/-- the day behind -/
theorem civ_succ {day : Int} (h : 0 ≤ day) :
    (civD (day + 1) = civD day + 1 ∧ civM (day + 1) = civM day ∧ civY (day + 1) = civY day ∧ civD day + 1 ≤ 31) ∨
    (civD (day + 1) = 1 ∧ civM (day + 1) = civM day + 1 ∧ civY (day + 1) = civY day ∧ civD day = dm (civY day) (civM day) ∧ civM day ≤ 11) ∨
    (civD (day + 1) = 1 ∧ civM (day + 1) = 1 ∧ civY (day + 1) = civY day + 1 ∧ civM day = 12 ∧ civD day = 31) := by
  have h1 := civ_isDate h
  have h2 := civ_isDate (show 0 ≤ day + 1 by omega)
  have e := h1.eq
  have d2 := h1.d2
  have d1 := h1.d1
  have m1 := h1.m1
  have m2 := h1.m2
  have y0 := h1.y0
  rcases (show civD day < dm (civY day) (civM day) ∨ civD day = dm (civY day) (civM day) by omega) with hd | hd
  · have h3 : IsDate (day + 1) (civY day) (civM day) (civD day + 1) := ⟨y0, m1, m2, by omega, by omega, by omega⟩
    obtain ⟨a, b, c⟩ := h2.unique h3
    exact Or.inl ⟨c, b, a, by have := dm_pos (civY day) (civM day); omega⟩
  · have hc := cum_succ (civY day) m1 m2
    rcases (show civM day ≤ 11 ∨ civM day = 12 by omega) with hm | hm
    · have h3 : IsDate (day + 1) (civY day) (civM day + 1) 1 := ⟨y0, by omega, by omega, by omega, by have := dm_pos (civY day) (civM day + 1); omega, by omega⟩
      obtain ⟨a, b, c⟩ := h2.unique h3
      exact Or.inr (Or.inl ⟨c, b, a, hd, hm⟩)
    · have h31 : dm (civY day) (civM day) = 31 := by rw [hm]; simp [dm]
      have h13 : cum (civY day) (civM day + 1) = 365 + lp (civY day) := by rw [hm]; exact cum_13 _
      have hs := yb_succ (civY day)
      have h3 : IsDate (day + 1) (civY day + 1) 1 1 := ⟨by omega, by omega, by omega, by omega, by have := dm_pos (civY day + 1) 1; omega, by rw [hs, cum_1]; omega⟩
      obtain ⟨a, b, c⟩ := h2.unique h3
      exact Or.inr (Or.inr ⟨c, b, a, hm, by omega⟩)
set_option maxHeartbeats 1000000 in
theorem dayslaw_any (w : World) (t : Int) (hlo : -9223372036854775808 ≤ t) (hhi : t ≤ 9223372036854775807) (hm : MX w) :
    Calls Tryd.prog 7 #[.int .i64 t] w fun e w' => e = .returned (.bool true) ∧ Ext w w' := by
  have hf := finds_any w hm
  go_enter Tryd.func7, Tryd.ntmps7
  go_wp2_with fail
  refine hf.mono ?_
  rintro e w1 ⟨rfl, hE1⟩
  clear hf
  by_cases h0 : t < 0
  · go_wp2_with fail
    go_ret
    exact ⟨rfl, hE1⟩
  by_cases h1 : 2147483648 < t
  · go_wp2_with fail
    go_ret
    exact ⟨rfl, hE1⟩
  have hdA := fun W : World => date_out W t (by omega) (by omega)
  have hdB := fun W : World => date_out W (t + 1440) (by omega) (by omega)
  have hdC := fun W : World => date_out W (t + 210379680) (by omega) (by omega)
  have hsu := civ_succ (show 0 ≤ t / 1440 by omega)
  obtain ⟨c1, c2, c3⟩ := civ_400 (show 0 ≤ t / 1440 by omega)
  have hdp := dm_pos (civY (t / 1440)) (civM (t / 1440))
  have hid := civ_isDate (show 0 ≤ t / 1440 by omega)
  have g1 := hid.d1
  have g2 := hid.d2
  have g3 := hid.m1
  have g4 := hid.m2
  have g5 := hid.y0
  have g6 : civY (t / 1440) ≤ 20000 := by
    have := hid.year.1
    have := yb_ge g5
    omega
  have e1 : (t + 1440) / 1440 = t / 1440 + 1 := by omega
  have e2 : (t + 210379680) / 1440 = t / 1440 + 146097 := by omega
  have e3 : (t + 1440) / 60 % 24 = t / 60 % 24 := by omega
  have e4 : (t + 210379680) / 60 % 24 = t / 60 % 24 := by omega
  have e5 : (t + 1440) % 60 = t % 60 := by omega
  have e6 : (t + 210379680) % 60 = t % 60 := by omega
  have e7 : (t / 1440 + 1 + 6) % 7 = ((t / 1440 + 6) % 7 + 1) % 7 := by omega
  have e8 : (t / 1440 + 146097 + 6) % 7 = (t / 1440 + 6) % 7 := by omega
  have hk : 0 ≤ (t / 1440 + 6) % 7 ∧ (t / 1440 + 6) % 7 ≤ 6 := by omega
  simp only [dtA, six, e1, e2, e3, e4, e5, e6, e7, e8, c1, c2, c3] at hdA hdB hdC
  clear e1 e2 e3 e4 e5 e6 e7 e8 c1 c2 c3 hid
  generalize civY (t / 1440) = Y at *
  generalize civM (t / 1440) = M at *
  generalize civD (t / 1440) = D at *
  generalize civY (t / 1440 + 1) = Y2 at *
  generalize civM (t / 1440 + 1) = M2 at *
  generalize civD (t / 1440 + 1) = D2 at *
  generalize (t / 1440 + 6) % 7 = K at *
  generalize t / 60 % 24 = Hr at *
  generalize t % 60 = Mi at *
  go_wp2_with fail
  refine (hdA _).mono ?_
  rintro e wd ⟨rfl, hEd⟩
  clear hdA
  go_upto_region 6 with fail
  refine gen_world' (fun X => Ext w X ∧ Blk X wd.heap.size 32 (six Y M D Hr Mi K)) ⟨(hE1.trans hEd).trans (ext_alloc _ _), Blk.new _ _ _⟩ ?_
  clear hE1 hEd
  rintro w2 ⟨hE2, hA⟩
  generalize wd.heap.size = ba at *
  clear wd
  go_wp2_with fail
  refine (hdB _).mono ?_
  rintro e wd ⟨rfl, hEd⟩
  clear hdB
  go_upto_region 7 with fail
  refine gen_world' (fun X => Ext w X ∧ Blk X ba 32 (six Y M D Hr Mi K) ∧ Blk X wd.heap.size 32 (six Y2 M2 D2 Hr Mi ((K + 1) % 7))) ⟨(hE2.trans hEd).trans (ext_alloc _ _), hA.of_eq ((hEd.trans (ext_alloc _ _)).block ba hA.lt), Blk.new _ _ _⟩ ?_
  clear hE2 hEd hA
  rintro w3 ⟨hE3, hA, hB⟩
  generalize wd.heap.size = bb at *
  clear wd
  go_wp2_with fail
  refine (hdC _).mono ?_
  rintro e wd ⟨rfl, hEd⟩
  clear hdC
  go_upto_region 8 with fail
  refine gen_world' (fun X => Ext w X ∧ Blk X ba 32 (six Y M D Hr Mi K) ∧ Blk X bb 32 (six Y2 M2 D2 Hr Mi ((K + 1) % 7)) ∧ Blk X wd.heap.size 32 (six (Y + 400) M D Hr Mi K)) ⟨(hE3.trans hEd).trans (ext_alloc _ _), hA.of_eq ((hEd.trans (ext_alloc _ _)).block ba hA.lt), hB.of_eq ((hEd.trans (ext_alloc _ _)).block bb hB.lt), Blk.new _ _ _⟩ ?_
  clear hE3 hEd hA hB
  rintro w4 ⟨hE4, hA, hB, hC⟩
  generalize wd.heap.size = bc at *
  clear wd
  rcases hsu with ⟨rfl, rfl, rfl, i1⟩ | ⟨rfl, rfl, rfl, h5, h6⟩ | ⟨rfl, rfl, rfl, rfl, rfl⟩
  · obtain ⟨a0, a1, a2, a3, a4, a5⟩ := six_cells hA
    obtain ⟨b0, b1, b2, b3, b4, b5⟩ := six_cells hB
    obtain ⟨k0, k1, k2, k3, k4, k5⟩ := six_cells hC
    go_wp2_with fail
    go_ret
    exact ⟨rfl, hE4⟩
  · obtain ⟨a0, a1, a2, a3, a4, a5⟩ := six_cells hA
    obtain ⟨b0, b1, b2, b3, b4, b5⟩ := six_cells hB
    obtain ⟨k0, k1, k2, k3, k4, k5⟩ := six_cells hC
    have j1 : ((1 : Int) == D + 1) = false := by rw [beq_eq_false_iff_ne]; omega
    have j2 : (M == 12) = false := by rw [beq_eq_false_iff_ne]; omega
    have j3 : 28 ≤ D := by omega
    clear h5
    go_wp2_with fail
    go_ret
    exact ⟨rfl, hE4⟩
  · obtain ⟨a0, a1, a2, a3, a4, a5⟩ := six_cells hA
    obtain ⟨b0, b1, b2, b3, b4, b5⟩ := six_cells hB
    obtain ⟨k0, k1, k2, k3, k4, k5⟩ := six_cells hC
    go_wp2_with fail
    go_ret
    exact ⟨rfl, hE4⟩
end Go.Proofs.YtmgpkadgalgnnaaDoor
