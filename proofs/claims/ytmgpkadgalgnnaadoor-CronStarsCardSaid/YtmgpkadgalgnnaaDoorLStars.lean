/- CronStars, walked. -/
import Derived.Test.YtmgpkadgalgnnaaDoorLNext
namespace Go.Proofs.YtmgpkadgalgnnaaDoor
set_option maxRecDepth 4000
set_option linter.unusedVariables false
set_option linter.unusedSimpArgs false
open Go Go.RowKit
def allS (S : Sp) : Bool :=
  (List.range 60).all (hasP (S.f 0)) && ((List.range 24).all (hasP (S.f 1)) && ((List.range 32).all (fun n => n == 0 || hasP (S.f 2) n) && ((List.range 13).all (fun n => n == 0 || hasP (S.f 3) n) && (List.range 7).all (hasP (S.f 4)))))
theorem all_at {S : Sp} (h : allS S = true) {u : Int} (hu : 0 ≤ u) : S.at u = true := by
  simp only [allS, Bool.and_eq_true, List.all_eq_true, List.mem_range, Bool.or_eq_true, beq_iff_eq] at h
  obtain ⟨h0, h1, h2, h3, h4⟩ := h
  have hd := civ_isDate (show 0 ≤ u / 1440 by omega)
  have hp := dm_pos (civY (u / 1440)) (civM (u / 1440))
  have a1 := hd.m1
  have a2 := hd.m2
  have a3 := hd.d1
  have a4 := hd.d2
  have k0 : S.has 0 (u % 60) = true := by
    have := h0 (u % 60).toNat (by omega)
    unfold Sp.has; rw [Bool.and_eq_true, decide_eq_true_eq]; exact ⟨by omega, this⟩
  have k1 : S.has 1 (u / 60 % 24) = true := by
    have := h1 (u / 60 % 24).toNat (by omega)
    unfold Sp.has; rw [Bool.and_eq_true, decide_eq_true_eq]; exact ⟨by omega, this⟩
  have k2 : S.has 2 (civD (u / 1440)) = true := by
    have := (h2 (civD (u / 1440)).toNat (by omega)).resolve_left (by omega)
    unfold Sp.has; rw [Bool.and_eq_true, decide_eq_true_eq]; exact ⟨by omega, this⟩
  have k3 : S.has 3 (civM (u / 1440)) = true := by
    have := (h3 (civM (u / 1440)).toNat (by omega)).resolve_left (by omega)
    unfold Sp.has; rw [Bool.and_eq_true, decide_eq_true_eq]; exact ⟨by omega, this⟩
  have k4 : S.has 4 ((u / 1440 + 6) % 7) = true := by
    have := h4 ((u / 1440 + 6) % 7).toNat (by omega)
    unfold Sp.has; rw [Bool.and_eq_true, decide_eq_true_eq]; exact ⟨by omega, this⟩
  unfold Sp.at Sp.fits Sp.day
  rw [k0, k1, k2, k3, k4]
  simp
def reads (x : List UInt8) : Bool := match parseS x with
  | .ok S => allS S
  | .error _ => false
theorem reads_ok {x : List UInt8} (h : reads x = true) : ∃ S, parseS x = .ok S ∧ allS S = true := by
  unfold reads at h
  split at h
  · rename_i S hS; exact ⟨S, hS, h⟩
  · cases h
def tx0 : List UInt8 := [42, 32, 42, 32, 42, 32, 42, 32, 42]
def tx1 : List UInt8 := [42, 47, 49, 32, 42, 47, 49, 32, 42, 47, 49, 32, 42, 47, 49, 32, 42, 47, 49]
def tx2 : List UInt8 := [48, 45, 53, 57, 32, 48, 45, 50, 51, 32, 49, 45, 51, 49, 32, 49, 45, 49, 50, 32, 48, 45, 54]
def tx3 : List UInt8 := [48, 45, 50, 57, 44, 51, 48, 45, 53, 57, 32, 48, 47, 49, 32, 49, 45, 49, 53, 44, 49, 54, 45, 51, 49, 32, 49, 47, 49, 32, 48, 44, 49, 44, 50, 44, 51, 44, 52, 44, 53, 44, 54]
theorem rd0 : reads tx0 = true := by decide +kernel
theorem rd1 : reads tx1 = true := by decide +kernel
theorem rd2 : reads tx2 = true := by decide +kernel
theorem rd3 : reads tx3 = true := by decide +kernel
set_option maxHeartbeats 1000000 in
theorem starslaw_any (w : World) (t k : Int) (hlo : -9223372036854775808 ≤ t) (hhi : t ≤ 9223372036854775807) (hm : MX w) :
    Calls Tryd.prog 8 #[.int .i64 t, .int .i64 k] w fun e w' => e = .returned (.bool true) ∧ Ext w w' := by
  have hf := finds_any w hm
  go_enter Tryd.func8, Tryd.ntmps8
  go_wp2_with fail
  refine hf.mono ?_
  rintro e w1 ⟨rfl, hE1⟩
  clear hf
  by_cases h0 : t < 0
  · go_wp2_with fail
    go_ret
    exact ⟨rfl, hE1⟩
  by_cases h1 : 2147483648 < t
  · go_wp2_with fail
    go_ret
    exact ⟨rfl, hE1⟩
  have h0' : 0 ≤ t := by omega
  rcases (show k = 1 ∨ k = 2 ∨ k = 3 ∨ (k ≠ 1 ∧ k ≠ 2 ∧ k ≠ 3) by omega) with rfl | rfl | rfl | ⟨q1, q2, q3⟩
  · obtain ⟨S, hS, hal⟩ := reads_ok rd1
    have hok := (parseS_ok hS).1
    have hp := parse_any w1 tx1 (by decide) (hm.ext hE1)
    rw [hS] at hp
    have hd := fun W : World => date_out W t (by omega) (by omega)
    have hf := fun {W : World} {g : Nat} (hSp : SpecAt W g S tx1) => fits_any W g S tx1 (civY (t / 1440)) (civM (t / 1440)) (civD (t / 1440)) (t / 60 % 24) (t % 60) ((t / 1440 + 6) % 7) hSp hok
    have hat := all_at hal h0'
    unfold Sp.at at hat
    rw [hat] at hf
    clear hat
    have hn := fun {W : World} {g : Nat} (hSp : SpecAt W g S tx1) => next_any W g S tx1 t hlo hhi hSp hok
    rw [nextV_hit (a := t + 1) (by omega) (by omega) (all_at hal (by omega)) (by omega) (by omega) (fun u h6 h7 => by omega)] at hn
    simp only [dtA, six] at hd hf
    generalize civY (t / 1440) = cy at *
    generalize civM (t / 1440) = cm at *
    generalize civD (t / 1440) = cd at *
    generalize (t / 1440 + 6) % 7 = wk at *
    generalize t / 60 % 24 = hr_ at *
    generalize t % 60 = mi at *
    go_wp2_with fail
    refine hp.mono ?_
    intro e w2 hr
    obtain ⟨g, rfl, hSp, hE2⟩ := parse_ok hr
    clear hp hr
    go_wp2_with fail
    refine (hd _).mono ?_
    rintro e w4 ⟨rfl, hE4⟩
    clear hd
    have hEa := ext_alloc w4 (.cells (six cy cm cd hr_ mi wk) 32)
    have hbl := Blk.new w4 32 (six cy cm cd hr_ mi wk)
    go_upto_region 17 with fail
    refine gen_world' (fun X => Ext w4 X ∧ Blk X w4.heap.size 32 (six cy cm cd hr_ mi wk)) ⟨hEa, hbl⟩ ?_
    clear hEa hbl
    rintro w5 ⟨hE5, hbl⟩
    replace hSp := (hSp.ext hE4).ext hE5
    go_wp2_with fail
    refine (hn hSp).mono ?_
    rintro e w6 ⟨rfl, hE6⟩
    clear hn
    obtain ⟨b0, b1, b2, b3, b4, b5⟩ := six_cells (hbl.of_eq (hE6.block _ hbl.lt))
    clear hbl
    replace hSp := hSp.ext hE6
    generalize w4.heap.size = bx at *
    go_wp2_with fail
    refine (hf hSp).mono ?_
    rintro e w7 ⟨rfl, hE7⟩
    clear hf b0 b1 b2 b3 b4 b5
    go_wp2_with fail
    go_ret
    exact ⟨rfl, ((((hE1.trans hE2).trans hE4).trans hE5).trans hE6).trans hE7⟩
  · obtain ⟨S, hS, hal⟩ := reads_ok rd2
    have hok := (parseS_ok hS).1
    have hp := parse_any w1 tx2 (by decide) (hm.ext hE1)
    rw [hS] at hp
    have hd := fun W : World => date_out W t (by omega) (by omega)
    have hf := fun {W : World} {g : Nat} (hSp : SpecAt W g S tx2) => fits_any W g S tx2 (civY (t / 1440)) (civM (t / 1440)) (civD (t / 1440)) (t / 60 % 24) (t % 60) ((t / 1440 + 6) % 7) hSp hok
    have hat := all_at hal h0'
    unfold Sp.at at hat
    rw [hat] at hf
    clear hat
    have hn := fun {W : World} {g : Nat} (hSp : SpecAt W g S tx2) => next_any W g S tx2 t hlo hhi hSp hok
    rw [nextV_hit (a := t + 1) (by omega) (by omega) (all_at hal (by omega)) (by omega) (by omega) (fun u h6 h7 => by omega)] at hn
    simp only [dtA, six] at hd hf
    generalize civY (t / 1440) = cy at *
    generalize civM (t / 1440) = cm at *
    generalize civD (t / 1440) = cd at *
    generalize (t / 1440 + 6) % 7 = wk at *
    generalize t / 60 % 24 = hr_ at *
    generalize t % 60 = mi at *
    go_wp2_with fail
    refine hp.mono ?_
    intro e w2 hr
    obtain ⟨g, rfl, hSp, hE2⟩ := parse_ok hr
    clear hp hr
    go_wp2_with fail
    refine (hd _).mono ?_
    rintro e w4 ⟨rfl, hE4⟩
    clear hd
    have hEa := ext_alloc w4 (.cells (six cy cm cd hr_ mi wk) 32)
    have hbl := Blk.new w4 32 (six cy cm cd hr_ mi wk)
    go_upto_region 17 with fail
    refine gen_world' (fun X => Ext w4 X ∧ Blk X w4.heap.size 32 (six cy cm cd hr_ mi wk)) ⟨hEa, hbl⟩ ?_
    clear hEa hbl
    rintro w5 ⟨hE5, hbl⟩
    replace hSp := (hSp.ext hE4).ext hE5
    go_wp2_with fail
    refine (hn hSp).mono ?_
    rintro e w6 ⟨rfl, hE6⟩
    clear hn
    obtain ⟨b0, b1, b2, b3, b4, b5⟩ := six_cells (hbl.of_eq (hE6.block _ hbl.lt))
    clear hbl
    replace hSp := hSp.ext hE6
    generalize w4.heap.size = bx at *
    go_wp2_with fail
    refine (hf hSp).mono ?_
    rintro e w7 ⟨rfl, hE7⟩
    clear hf b0 b1 b2 b3 b4 b5
    go_wp2_with fail
    go_ret
    exact ⟨rfl, ((((hE1.trans hE2).trans hE4).trans hE5).trans hE6).trans hE7⟩
  · obtain ⟨S, hS, hal⟩ := reads_ok rd3
    have hok := (parseS_ok hS).1
    have hp := parse_any w1 tx3 (by decide) (hm.ext hE1)
    rw [hS] at hp
    have hd := fun W : World => date_out W t (by omega) (by omega)
    have hf := fun {W : World} {g : Nat} (hSp : SpecAt W g S tx3) => fits_any W g S tx3 (civY (t / 1440)) (civM (t / 1440)) (civD (t / 1440)) (t / 60 % 24) (t % 60) ((t / 1440 + 6) % 7) hSp hok
    have hat := all_at hal h0'
    unfold Sp.at at hat
    rw [hat] at hf
    clear hat
    have hn := fun {W : World} {g : Nat} (hSp : SpecAt W g S tx3) => next_any W g S tx3 t hlo hhi hSp hok
    rw [nextV_hit (a := t + 1) (by omega) (by omega) (all_at hal (by omega)) (by omega) (by omega) (fun u h6 h7 => by omega)] at hn
    simp only [dtA, six] at hd hf
    generalize civY (t / 1440) = cy at *
    generalize civM (t / 1440) = cm at *
    generalize civD (t / 1440) = cd at *
    generalize (t / 1440 + 6) % 7 = wk at *
    generalize t / 60 % 24 = hr_ at *
    generalize t % 60 = mi at *
    go_wp2_with fail
    refine hp.mono ?_
    intro e w2 hr
    obtain ⟨g, rfl, hSp, hE2⟩ := parse_ok hr
    clear hp hr
    go_wp2_with fail
    refine (hd _).mono ?_
    rintro e w4 ⟨rfl, hE4⟩
    clear hd
    have hEa := ext_alloc w4 (.cells (six cy cm cd hr_ mi wk) 32)
    have hbl := Blk.new w4 32 (six cy cm cd hr_ mi wk)
    go_upto_region 17 with fail
    refine gen_world' (fun X => Ext w4 X ∧ Blk X w4.heap.size 32 (six cy cm cd hr_ mi wk)) ⟨hEa, hbl⟩ ?_
    clear hEa hbl
    rintro w5 ⟨hE5, hbl⟩
    replace hSp := (hSp.ext hE4).ext hE5
    go_wp2_with fail
    refine (hn hSp).mono ?_
    rintro e w6 ⟨rfl, hE6⟩
    clear hn
    obtain ⟨b0, b1, b2, b3, b4, b5⟩ := six_cells (hbl.of_eq (hE6.block _ hbl.lt))
    clear hbl
    replace hSp := hSp.ext hE6
    generalize w4.heap.size = bx at *
    go_wp2_with fail
    refine (hf hSp).mono ?_
    rintro e w7 ⟨rfl, hE7⟩
    clear hf b0 b1 b2 b3 b4 b5
    go_wp2_with fail
    go_ret
    exact ⟨rfl, ((((hE1.trans hE2).trans hE4).trans hE5).trans hE6).trans hE7⟩
  · have r1 : (k == 1) = false := by simpa using q1
    have r2 : (k == 2) = false := by simpa using q2
    have r3 : (k == 3) = false := by simpa using q3
    clear q1 q2 q3
    obtain ⟨S, hS, hal⟩ := reads_ok rd0
    have hok := (parseS_ok hS).1
    have hp := parse_any w1 tx0 (by decide) (hm.ext hE1)
    rw [hS] at hp
    have hd := fun W : World => date_out W t (by omega) (by omega)
    have hf := fun {W : World} {g : Nat} (hSp : SpecAt W g S tx0) => fits_any W g S tx0 (civY (t / 1440)) (civM (t / 1440)) (civD (t / 1440)) (t / 60 % 24) (t % 60) ((t / 1440 + 6) % 7) hSp hok
    have hat := all_at hal h0'
    unfold Sp.at at hat
    rw [hat] at hf
    clear hat
    have hn := fun {W : World} {g : Nat} (hSp : SpecAt W g S tx0) => next_any W g S tx0 t hlo hhi hSp hok
    rw [nextV_hit (a := t + 1) (by omega) (by omega) (all_at hal (by omega)) (by omega) (by omega) (fun u h6 h7 => by omega)] at hn
    simp only [dtA, six] at hd hf
    generalize civY (t / 1440) = cy at *
    generalize civM (t / 1440) = cm at *
    generalize civD (t / 1440) = cd at *
    generalize (t / 1440 + 6) % 7 = wk at *
    generalize t / 60 % 24 = hr_ at *
    generalize t % 60 = mi at *
    go_wp2_with fail
    refine hp.mono ?_
    intro e w2 hr
    obtain ⟨g, rfl, hSp, hE2⟩ := parse_ok hr
    clear hp hr
    go_wp2_with fail
    refine (hd _).mono ?_
    rintro e w4 ⟨rfl, hE4⟩
    clear hd
    have hEa := ext_alloc w4 (.cells (six cy cm cd hr_ mi wk) 32)
    have hbl := Blk.new w4 32 (six cy cm cd hr_ mi wk)
    go_upto_region 17 with fail
    refine gen_world' (fun X => Ext w4 X ∧ Blk X w4.heap.size 32 (six cy cm cd hr_ mi wk)) ⟨hEa, hbl⟩ ?_
    clear hEa hbl
    rintro w5 ⟨hE5, hbl⟩
    replace hSp := (hSp.ext hE4).ext hE5
    go_wp2_with fail
    refine (hn hSp).mono ?_
    rintro e w6 ⟨rfl, hE6⟩
    clear hn
    obtain ⟨b0, b1, b2, b3, b4, b5⟩ := six_cells (hbl.of_eq (hE6.block _ hbl.lt))
    clear hbl
    replace hSp := hSp.ext hE6
    generalize w4.heap.size = bx at *
    go_wp2_with fail
    refine (hf hSp).mono ?_
    rintro e w7 ⟨rfl, hE7⟩
    clear hf b0 b1 b2 b3 b4 b5
    go_wp2_with fail
    go_ret
    exact ⟨rfl, ((((hE1.trans hE2).trans hE4).trans hE5).trans hE6).trans hE7⟩
end Go.Proofs.YtmgpkadgalgnnaaDoor
