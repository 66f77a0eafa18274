/- cron: the next minute that fits, the document's. -/
import Derived.Test.YtmgpkadgalgnnaaDoorCNext
import Derived.Test.YtmgpkadgalgnnaaDoorCRFits
namespace Go.Proofs.YtmgpkadgalgnnaaDoor
set_option maxRecDepth 4000
set_option linter.unusedVariables false
set_option linter.unusedSimpArgs false
open Go Go.RowKit
theorem at_fits {S : Sp} {a : Int} {B : Bool} (h : S.fits (civM (a / 1440)) (civD (a / 1440)) (a / 60 % 24) (a % 60) ((a / 1440 + 6) % 7) = B) : S.at a = B := h
set_option maxHeartbeats 1000000 in
theorem refnext_any (w : World) (g c : Nat) (S : Sp) (vs : Nat → Value) (ls : Nat → List Nat) (t : Int) (hlo : -9223372036854775808 ≤ t) (hhi : t ≤ 9223372036854775807) (hS : Flds w g S vs ls) :
    Calls Tryd.prog 20 #[.slice (some ⟨g, 0, none⟩) 5 c, .int .i64 t] w fun e w' => e = .returned (.tuple #[.int .i64 (nextV S t).1, .int .i64 (nextV S t).2]) ∧ Ext w w' := by
  by_cases hb1 : t < -1
  · have e : nextV S t = (0, 1) := by unfold nextV; rw [if_pos (Or.inl hb1)]
    rw [e]
    go_enter Tryd.func20, Tryd.ntmps20
    go_wp2_with fail
    go_ret2
    exact ⟨rfl, Ext.refl _⟩
  by_cases hb2 : 4294440255 < t
  · have e : nextV S t = (0, 1) := by unfold nextV; rw [if_pos (Or.inr hb2)]
    rw [e]
    go_enter Tryd.func20, Tryd.ntmps20
    go_wp2_with fail
    go_ret2
    exact ⟨rfl, Ext.refl _⟩
  obtain ⟨R, hR⟩ : ∃ R, nextV S t = R := ⟨_, rfl⟩
  have HH : Hid (∀ a, S.at a = true → t < a → a ≤ t + 527040 → (∀ u, t + 1 ≤ u → u < a → S.at u = false) → R = (a, 0)) := Lib.hid fun a h1 h2 h3 h4 => hR.symm.trans (nextV_hit (by omega) (by omega) h1 h2 h3 h4)
  have HN : Hid (∀ a, t + 527040 < a → (∀ u, t + 1 ≤ u → u < a → S.at u = false) → R = (0, 41)) := Lib.hid fun a h3 h4 => hR.symm.trans (nextV_none (by omega) (by omega) h3 h4)
  rw [hR]
  clear hR
  go_enter Tryd.func20, Tryd.ntmps20
  go_wp2_with fail
  go_loopw [6] (fun v wr => NxRel w S t v wr) (fun v _ => (t + 530000 - intOf v).toNat)
  case atStart => exact ⟨t + 1, rfl, by omega, by omega, fun u h1 h2 => by omega, Ext.refl _⟩
  case round =>
    obtain ⟨a, rfl, ha1, ha2, hno, hE⟩ := hrel
    by_cases hlt : a ≤ t + 527040
    · have hd := rdate_any wr a (by omega) (by omega)
      simp only [dtA, six] at hd
      have HNO := Lib.hid hno
      have HA : Hid (∀ B, S.fits (civM (a / 1440)) (civD (a / 1440)) (a / 60 % 24) (a % 60) ((a / 1440 + 6) % 7) = B → S.at a = B) := Lib.hid fun B => at_fits
      have HD : Hid (S.day (civM (a / 1440)) (civD (a / 1440)) ((a / 1440 + 6) % 7) = false → ∀ u, u / 1440 = a / 1440 → S.at u = false) := Lib.hid fun h u => at_day h
      clear hno
      go_wp2_with fail
      refine hd.mono ?_
      rintro e w1 ⟨rfl, hE1⟩
      clear hd
      generalize civY (a / 1440) = cy at *
      generalize civM (a / 1440) = cm at *
      generalize civD (a / 1440) = cd at *
      generalize (a / 1440 + 6) % 7 = wk at *
      generalize a / 60 % 24 = hr at *
      generalize a % 60 = mi at *
      have hB0 : BothR (w1.alloc (.cells (six cy cm cd hr mi wk) 37)) g w1.heap.size S vs ls cy cm cd hr mi wk := ⟨(hS.ext (hE.trans hE1)).ext (ext_alloc _ _), Blk.new _ _ _⟩
      have hE0 := (hE.trans hE1).trans (ext_alloc w1 (.cells (six cy cm cd hr mi wk) 37))
      clear hE hE1
      go_upto_region 6 with fail
      refine gen_world' (fun X => Ext w X ∧ BothR X g w1.heap.size S vs ls cy cm cd hr mi wk) ⟨hE0, hB0⟩ ?_
      clear hE0 hB0
      rintro w2 ⟨hE2, hB⟩
      generalize w1.heap.size = b at *
      obtain ⟨k0, k1, k2, k3, k4, k5⟩ := six_cells hB.d
      have hday := refday_any w2 g c S vs ls cy cm cd hr mi wk hB.s
      simp only [six] at hday
      cases b3 : S.day cm cd wk with
      | false =>
        have HDN := Lib.hid (HD.out b3)
        rw [b3] at hday
        go_wp2_with fail
        refine hday.mono ?_
        rintro e w3 ⟨rfl, hE3⟩
        clear hday k0 k1 k2 k3 k4 k5
        go_wp2_with fail
        refine ⟨⟨(a / 1440 + 1) * 1440, rfl, by omega, by omega, fun u h1 h2 => ?_, hE2.trans hE3⟩, by simp [intOf]; omega⟩
        by_cases hu : u < a
        · exact HNO.out u h1 hu
        · exact HDN.out u (by omega)
      | true =>
        rw [b3] at hday
        go_wp2_with fail
        refine hday.mono ?_
        rintro e w3 ⟨rfl, hE3⟩
        clear hday k0 k1 k2 k3 k4 k5
        replace hB := hB.ext hE3
        replace hE2 := hE2.trans hE3
        clear hE3
        obtain ⟨k0, k1, k2, k3, k4, k5⟩ := six_cells hB.d
        have hfit := reffits_any w3 g c S vs ls cy cm cd hr mi wk hB.s
        simp only [six] at hfit
        cases b4 : S.fits cm cd hr mi wk with
        | false =>
          have HMN := Lib.hid (HA.out false b4)
          rw [b4] at hfit
          go_wp2_with fail
          refine hfit.mono ?_
          rintro e w4 ⟨rfl, hE4⟩
          clear hfit k0 k1 k2 k3 k4 k5
          go_wp2_with fail
          refine ⟨⟨a + 1, rfl, by omega, by omega, fun u h1 h2 => ?_, hE2.trans hE4⟩, by simp [intOf]; omega⟩
          by_cases hu : u < a
          · exact HNO.out u h1 hu
          · obtain rfl : u = a := by omega
            exact HMN.out
        | true =>
          rw [b4] at hfit
          have hR := HH.out a (HA.out true b4) ha1 hlt HNO.out
          subst hR
          go_wp2_with fail
          refine hfit.mono ?_
          rintro e w4 ⟨rfl, hE4⟩
          clear hfit k0 k1 k2 k3 k4 k5
          go_wp2_with fail
          go_ret2
          exact ⟨rfl, hE2.trans hE4⟩
    · have hR := HN.out a (by omega) hno
      subst hR
      go_wp2_with fail
      go_ret2
      exact ⟨rfl, hE⟩
end Go.Proofs.YtmgpkadgalgnnaaDoor
