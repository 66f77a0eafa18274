/- cron: the next minute that fits. -/
import Derived.Test.YtnbdcdeidhhgoaaDoorCFits
namespace Go.Proofs.YtnbdcdeidhhgoaaDoor
set_option maxRecDepth 4000
set_option linter.unusedVariables false
set_option linter.unusedSimpArgs false
open Go Go.RowKit
def seek (S : Sp) : Nat → Int → Option Int
  | 0, _ => none
  | n + 1, a => if S.at a = true then some a else seek S n (a + 1)
theorem seek_hit {S : Sp} {b : Int} (hb : S.at b = true) : ∀ (n : Nat) (a : Int), a ≤ b → b - a < n → (∀ u, a ≤ u → u < b → S.at u = false) → seek S n a = some b
  | 0, a, h1, h2, _ => by omega
  | n + 1, a, h1, h2, h => by
    rw [seek]
    by_cases e : a = b
    · subst e; rw [if_pos hb]
    · rw [if_neg (by rw [h a (by omega) (by omega)]; decide)]
      exact seek_hit hb n (a + 1) (by omega) (by omega) (fun u h1 h2 => h u (by omega) h2)
theorem seek_none {S : Sp} : ∀ (n : Nat) (a : Int), (∀ u, a ≤ u → u < a + n → S.at u = false) → seek S n a = none
  | 0, a, _ => rfl
  | n + 1, a, h => by
    rw [seek, if_neg (by rw [h a (by omega) (by omega)]; decide)]
    exact seek_none n (a + 1) (fun u h1 h2 => h u (by omega) (by omega))
theorem seek_some {S : Sp} {b : Int} : ∀ {n : Nat} {a : Int}, seek S n a = some b → S.at b = true ∧ a ≤ b ∧ b < a + n ∧ ∀ u, a ≤ u → u < b → S.at u = false
  | 0, a, h => by cases h
  | n + 1, a, h => by
    rw [seek] at h
    by_cases e : S.at a = true
    · rw [if_pos e] at h
      injection h with h
      subst h
      exact ⟨e, by omega, by omega, fun u h1 h2 => by omega⟩
    · rw [if_neg e] at h
      obtain ⟨h1, h2, h3, h4⟩ := seek_some h
      refine ⟨h1, by omega, by omega, fun u h5 h6 => ?_⟩
      by_cases e2 : u = a
      · subst e2; simpa using e
      · exact h4 u (by omega) h6
theorem at_day {S : Sp} {a : Int} (h : S.day (civM (a / 1440)) (civD (a / 1440)) ((a / 1440 + 6) % 7) = false) {u : Int} (hu : u / 1440 = a / 1440) : S.at u = false := by
  unfold Sp.at Sp.fits
  rw [hu, h]; simp
theorem at_hour {S : Sp} {a : Int} (h : S.has 1 (a / 60 % 24) = false) {u : Int} (hu : u / 60 = a / 60) : S.at u = false := by
  unfold Sp.at Sp.fits
  rw [hu, h]; simp
theorem at_min {S : Sp} {a : Int} (h : S.has 0 (a % 60) = false) : S.at a = false := by
  unfold Sp.at Sp.fits
  rw [h]; simp
theorem at_all {S : Sp} {a : Int} (h1 : S.day (civM (a / 1440)) (civD (a / 1440)) ((a / 1440 + 6) % 7) = true) (h2 : S.has 1 (a / 60 % 24) = true) (h3 : S.has 0 (a % 60) = true) : S.at a = true := by
  unfold Sp.at Sp.fits
  rw [h1, h2, h3]; rfl
/-- what Next answers -/
def nextV (S : Sp) (t : Int) : Int × Int :=
  if t < -1 ∨ 4294440255 < t then (0, 1) else match seek S 527040 (t + 1) with
    | some a => (a, 0)
    | none => (0, 41)
def NxRel (w : World) (S : Sp) (t : Int) (v : Value) (wr : World) : Prop :=
  ∃ a, v = .int .i64 a ∧ t < a ∧ a ≤ t + 528480 ∧ (∀ u, t + 1 ≤ u → u < a → S.at u = false) ∧ Ext w wr
theorem nextV_hit {S : Sp} {t a : Int} (h0 : -1 ≤ t) (h1 : t ≤ 4294440255) (ha : S.at a = true) (h2 : t < a) (h3 : a ≤ t + 527040) (h : ∀ u, t + 1 ≤ u → u < a → S.at u = false) : nextV S t = (a, 0) := by
  unfold nextV
  rw [if_neg (by omega), seek_hit ha 527040 (t + 1) (by omega) (by omega) h]
theorem nextV_none {S : Sp} {t a : Int} (h0 : -1 ≤ t) (h1 : t ≤ 4294440255) (h3 : t + 527040 < a) (h : ∀ u, t + 1 ≤ u → u < a → S.at u = false) : nextV S t = (0, 41) := by
  unfold nextV
  rw [if_neg (by omega), seek_none 527040 (t + 1) (fun u h1 h2 => h u h1 (by omega))]
set_option maxHeartbeats 1000000 in
theorem next_any (w : World) (g : Nat) (S : Sp) (x : List UInt8) (t : Int) (hlo : -9223372036854775808 ≤ t) (hhi : t ≤ 9223372036854775807) (hS : SpecAt w g S x) (hok : Sok S) :
    Calls Tryd.prog 8 #[.pointer (some ⟨g, 0, none⟩), .int .i64 t] w fun e w' => e = .returned (.tuple #[.int .i64 (nextV S t).1, .int .i64 (nextV S t).2]) ∧ Ext w w' := by
  by_cases hb1 : t < -1
  · have e : nextV S t = (0, 1) := by unfold nextV; rw [if_pos (Or.inl hb1)]
    rw [e]
    go_enter Tryd.func8, Tryd.ntmps8
    go_wp2_with fail
    go_ret2
    exact ⟨rfl, Ext.refl _⟩
  by_cases hb2 : 4294440255 < t
  · have e : nextV S t = (0, 1) := by unfold nextV; rw [if_pos (Or.inr hb2)]
    rw [e]
    go_enter Tryd.func8, Tryd.ntmps8
    go_wp2_with fail
    go_ret2
    exact ⟨rfl, Ext.refl _⟩
  obtain ⟨R, hR⟩ : ∃ R, nextV S t = R := ⟨_, rfl⟩
  have HH : Hid (∀ a, S.at a = true → t < a → a ≤ t + 527040 → (∀ u, t + 1 ≤ u → u < a → S.at u = false) → R = (a, 0)) := Lib.hid fun a h1 h2 h3 h4 => hR.symm.trans (nextV_hit (by omega) (by omega) h1 h2 h3 h4)
  have HN : Hid (∀ a, t + 527040 < a → (∀ u, t + 1 ≤ u → u < a → S.at u = false) → R = (0, 41)) := Lib.hid fun a h3 h4 => hR.symm.trans (nextV_none (by omega) (by omega) h3 h4)
  rw [hR]
  clear hR
  go_enter Tryd.func8, Tryd.ntmps8
  go_wp2_with fail
  go_loopw [6] (fun v wr => NxRel w S t v wr) (fun v _ => (t + 530000 - intOf v).toNat)
  case atStart => exact ⟨t + 1, rfl, by omega, by omega, fun u h1 h2 => by omega, Ext.refl _⟩
  case round =>
    obtain ⟨a, rfl, ha1, ha2, hno, hE⟩ := hrel
    by_cases hlt : a ≤ t + 527040
    · have hd := date_out wr a (by omega) (by omega)
      simp only [dtA, six] at hd
      have HNO := Lib.hid hno
      have HA : Hid (S.day (civM (a / 1440)) (civD (a / 1440)) ((a / 1440 + 6) % 7) = true → S.has 1 (a / 60 % 24) = true → S.has 0 (a % 60) = true → S.at a = true) := Lib.hid at_all
      have HD : Hid (S.day (civM (a / 1440)) (civD (a / 1440)) ((a / 1440 + 6) % 7) = false → ∀ u, u / 1440 = a / 1440 → S.at u = false) := Lib.hid fun h u => at_day h
      have HHr : Hid (S.has 1 (a / 60 % 24) = false → ∀ u, u / 60 = a / 60 → S.at u = false) := Lib.hid fun h u => at_hour h
      have HM : Hid (S.has 0 (a % 60) = false → S.at a = false) := Lib.hid at_min
      have hh0 : 0 ≤ a / 60 % 24 ∧ a / 60 % 24 ≤ 23 ∧ 0 ≤ a % 60 ∧ a % 60 ≤ 59 := by omega
      have HQ : Hid (a + (1440 - 60 * (a / 60 % 24) - a % 60) = (a / 1440 + 1) * 1440) := Lib.hid (by omega)
      clear hno
      go_wp2_with fail
      refine hd.mono ?_
      rintro e w1 ⟨rfl, hE1⟩
      clear hd
      generalize civY (a / 1440) = cy at *
      generalize civM (a / 1440) = cm at *
      generalize civD (a / 1440) = cd at *
      generalize (a / 1440 + 6) % 7 = wk at *
      generalize hHe : a / 60 % 24 = hr at *
      generalize hMe : a % 60 = mi at *
      have HHe := Lib.hid hHe
      have HMe := Lib.hid hMe
      clear hHe hMe
      have hB0 : Both (w1.alloc (.cells (six cy cm cd hr mi wk) 82)) g w1.heap.size S x cy cm cd hr mi wk := ⟨(hS.ext (hE.trans hE1)).ext (ext_alloc _ _), Blk.new _ _ _⟩
      have hE0 := (hE.trans hE1).trans (ext_alloc w1 (.cells (six cy cm cd hr mi wk) 82))
      clear hE hE1
      go_upto_block 2 with fail
      refine gen_world' (fun X => Ext w X ∧ Both X g w1.heap.size S x cy cm cd hr mi wk) ⟨hE0, hB0⟩ ?_
      clear hE0 hB0
      rintro w2 ⟨hE2, hB⟩
      generalize w1.heap.size = b at *
      obtain ⟨k0, k1, k2, k3, k4, k5⟩ := six_cells hB.d
      have hday := day_any w2 g S x cy cm cd hr mi wk hB.s hok
      simp only [six] at hday
      cases b3 : S.day cm cd wk with
      | false =>
        have hdn := HD.out b3
        have HDN := Lib.hid hdn
        clear hdn
        rw [b3] at hday
        go_wp2_with fail
        refine (hday).mono ?_
        rintro e w3 ⟨rfl, hE3⟩
        clear k0 k1 k2 k3 k4 k5 hday
        replace hB := hB.ext hE3
        replace hE2 := hE2.trans hE3
        clear hE3
        obtain ⟨k0, k1, k2, k3, k4, k5⟩ := six_cells hB.d
        go_wp2_with fail
        refine ⟨⟨a + (1440 - 60 * hr - mi), rfl, by omega, by omega, fun u h1 h2 => ?_, hE2⟩, by simp [intOf]; omega⟩
        by_cases hu : u < a
        · exact HNO.out u h1 hu
        · exact HDN.out u (by have := HQ.out; omega)
      | true =>
        rw [b3] at hday
        go_wp2_with fail
        refine (hday).mono ?_
        rintro e w3 ⟨rfl, hE3⟩
        clear k0 k1 k2 k3 k4 k5 hday
        replace hB := hB.ext hE3
        replace hE2 := hE2.trans hE3
        clear hE3
        obtain ⟨k0, k1, k2, k3, k4, k5⟩ := six_cells hB.d
        go_upto_region 9 with fail
        have r1 : ∀ z : ExtOf w3, z.val.cell? ⟨g, 1, none⟩ = some (.int .u64 (mask (S.f 1))) := fun z => (hB.ext z.property).s.m.2.1
        have d3 : ∀ z : ExtOf w3, z.val.cell? ⟨b, 3, none⟩ = some (.int .i64 hr) := fun z => (six_cells (hB.ext z.property).d).2.2.2.1
        have HC1 : ∀ z : ExtOf w3, Calls Tryd.prog 24 #[.int .u64 (mask (S.f 1)), .int .i64 hr] z.val fun e W' => e = .returned (.bool (S.has 1 hr)) ∧ ∃ y : ExtOf w3, W' = y.val := fun z => quiet_ext (spec_has hok 1 (by omega) hr z.val)
        clear k0 k1 k2 k3 k4 k5
        refine region_ext (by kernel_rfl) (by kernel_rfl) ?_
        repeat (go_big_quiet_step (exact HC1 _))
        refine wpQuiet_nil ?_
        intro wq hq
        obtain ⟨xq, rfl⟩ := hq
        have hEq := xq.property
        clear r1 d3 HC1
        replace hB := hB.ext hEq
        have hE4 := hE2.trans hEq
        clear hE2 hEq
        generalize xq.val = w4 at *
        clear xq
        cases b1 : S.has 1 hr with
        | false =>
          obtain ⟨k0, k1, k2, k3, k4, k5⟩ := six_cells hB.d
          have HHN := Lib.hid (HHr.out b1)
          go_wp2_with fail
          refine ⟨⟨a + (60 - mi), rfl, by omega, by omega, fun u h1 h2 => ?_, hE4⟩, by simp [intOf]; omega⟩
          by_cases hu : u < a
          · exact HNO.out u h1 hu
          · exact HHN.out u (by have := HMe.out; omega)
        | true =>
          go_upto_region 11 with fail
          have r0 : ∀ z : ExtOf w4, z.val.cell? ⟨g, 0, none⟩ = some (.int .u64 (mask (S.f 0))) := fun z => (hB.ext z.property).s.m.1
          have d4 : ∀ z : ExtOf w4, z.val.cell? ⟨b, 4, none⟩ = some (.int .i64 mi) := fun z => (six_cells (hB.ext z.property).d).2.2.2.2.1
          have HC0 : ∀ z : ExtOf w4, Calls Tryd.prog 24 #[.int .u64 (mask (S.f 0)), .int .i64 mi] z.val fun e W' => e = .returned (.bool (S.has 0 mi)) ∧ ∃ y : ExtOf w4, W' = y.val := fun z => quiet_ext (spec_has hok 0 (by omega) mi z.val)
          refine region_ext (by kernel_rfl) (by kernel_rfl) ?_
          repeat (go_big_quiet_step (exact HC0 _))
          refine wpQuiet_nil ?_
          intro wq hq
          obtain ⟨xq, rfl⟩ := hq
          have hEq := xq.property
          clear r0 d4 HC0
          have hE5 := hE4.trans hEq
          clear hE4 hEq
          generalize xq.val = w5 at *
          clear xq
          cases b0 : S.has 0 mi with
          | false =>
            have HMN := Lib.hid (HM.out b0)
            go_wp2_with fail
            refine ⟨⟨a + 1, rfl, by omega, by omega, fun u h1 h2 => ?_, hE5⟩, by simp [intOf]; omega⟩
            by_cases hu : u < a
            · exact HNO.out u h1 hu
            · obtain rfl : u = a := by omega
              exact HMN.out
          | true =>
            have hR := HH.out a (HA.out b3 b1 b0) ha1 hlt HNO.out
            subst hR
            go_wp2_with fail
            go_ret2
            exact ⟨rfl, hE5⟩
    · have hR := HN.out a (by omega) hno
      subst hR
      go_wp2_with fail
      go_ret2
      exact ⟨rfl, hE⟩
end Go.Proofs.YtnbdcdeidhhgoaaDoor
