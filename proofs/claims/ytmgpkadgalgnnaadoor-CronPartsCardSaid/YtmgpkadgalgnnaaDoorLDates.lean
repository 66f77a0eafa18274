/- CronDates, walked. -/
import Derived.Test.YtmgpkadgalgnnaaDoorCFinds
namespace Go.Proofs.YtmgpkadgalgnnaaDoor
set_option maxRecDepth 4000
set_option linter.unusedVariables false
set_option linter.unusedSimpArgs false
open Go Go.RowKit
theorem dates_any (w : World) (t : Int) (hlo : -9223372036854775808 ≤ t) (hhi : t ≤ 9223372036854775807) (hm : MX w) :
    Calls Tryd.prog 4 #[.int .i64 t] w fun e w' => e = .returned (.bool true) ∧ Ext w w' := by
  have hf := finds_any w hm
  go_enter Tryd.func4, Tryd.ntmps4
  go_wp2_with fail
  refine hf.mono ?_
  rintro e w1 ⟨rfl, hE1⟩
  clear hf
  by_cases h0 : t < 0
  · have hd := date_bad w1 t (Or.inl h0)
    simp only [six] at hd
    go_wp2_with fail
    refine hd.mono ?_
    rintro e w2 ⟨rfl, hE2⟩
    clear hd
    go_wp2_with fail
    go_ret
    exact ⟨rfl, (hE1.trans hE2).trans (ext_alloc w2 _)⟩
  by_cases h1 : 4294967296 < t
  · have hd := date_bad w1 t (Or.inr h1)
    simp only [six] at hd
    go_wp2_with fail
    refine hd.mono ?_
    rintro e w2 ⟨rfl, hE2⟩
    clear hd
    go_wp2_with fail
    go_ret
    exact ⟨rfl, (hE1.trans hE2).trans (ext_alloc w2 _)⟩
  have hd := date_out w1 t (by omega) (by omega)
  have ha := fun W => asdate_any W (civY (t / 1440)) (civM (t / 1440)) (civD (t / 1440)) (t / 60 % 24) (t % 60) ((t / 1440 + 6) % 7)
  have hr := fun W => rdate_any W t (by omega) (by omega)
  simp only [dtA, six] at hd ha hr
  go_wp2_with fail
  refine hd.mono ?_
  rintro e w2 ⟨rfl, hE2⟩
  clear hd
  generalize civY (t / 1440) = cy at *
  generalize civM (t / 1440) = cm at *
  generalize civD (t / 1440) = cd at *
  generalize (t / 1440 + 6) % 7 = wk at *
  generalize t / 60 % 24 = hr_ at *
  generalize t % 60 = mi at *
  go_wp2_with fail
  refine (ha _).mono ?_
  rintro e w3 ⟨rfl, hE3⟩
  clear ha
  go_wp2_with fail
  refine (hr _).mono ?_
  rintro e w4 ⟨rfl, hE4⟩
  clear hr
  go_wp2_with fail
  go_ret
  exact ⟨rfl, (((hE1.trans hE2).trans (ext_alloc w2 _)).trans hE3).trans hE4⟩
end Go.Proofs.YtmgpkadgalgnnaaDoor
