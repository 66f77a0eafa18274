/- DERIVED LEMMAS, OF NO PROGRAM: dates. -/
import Derived.Test.YtnbdcdeidhhgoaaDoorCom
namespace Go.Proofs.YtnbdcdeidhhgoaaDoor
set_option maxRecDepth 4000
set_option linter.unusedVariables false
set_option linter.unusedSimpArgs false
def leapB (y : Int) : Bool := y % 4 == 0 && (y % 100 != 0 || y % 400 == 0)
def lp (y : Int) : Int := if leapB y = true then 1 else 0
def dm (y m : Int) : Int := if m = 2 then 28 + lp y else if m = 4 ∨ m = 6 ∨ m = 9 ∨ m = 11 then 30 else 31
theorem lp_def (y : Int) : lp y = if y % 4 = 0 ∧ (y % 100 ≠ 0 ∨ y % 400 = 0) then 1 else 0 := by
  unfold lp leapB
  have : (y % 4 == 0 && (y % 100 != 0 || y % 400 == 0)) = decide (y % 4 = 0 ∧ (y % 100 ≠ 0 ∨ y % 400 = 0)) := by
    rw [Bool.eq_iff_iff]; simp
  rw [this]; simp
theorem lp_01 (y : Int) : 0 ≤ lp y ∧ lp y ≤ 1 := by unfold lp; split <;> omega
/-- days ahead of a year, from 2000 on -/
def yb (y : Int) : Int := 365 * (y - 2000) + (y - 2000 + 3) / 4 - (y - 2000 + 99) / 100 + (y - 2000 + 399) / 400
theorem yb_succ (y : Int) : yb (y + 1) = yb y + 365 + lp y := by
  rw [lp_def]; unfold yb; split <;> omega
theorem yb_mono {a b : Int} (h : a ≤ b) : yb a ≤ yb b := by
  unfold yb; omega
theorem yb_inj {a b d : Int} (h1 : yb a ≤ d) (h2 : d < yb (a + 1)) (h3 : yb b ≤ d) (h4 : d < yb (b + 1)) : a = b := by
  rcases Int.lt_trichotomy a b with h | h | h
  · have := yb_mono (show a + 1 ≤ b by omega); omega
  · exact h
  · have := yb_mono (show b + 1 ≤ a by omega); omega
/-- days ahead of a month -/
def cumN (m : Int) : Int := if m = 1 then 0 else if m = 2 then 31 else if m = 3 then 59 else if m = 4 then 90 else if m = 5 then 120 else if m = 6 then 151 else if m = 7 then 181 else if m = 8 then 212 else if m = 9 then 243 else if m = 10 then 273 else if m = 11 then 304 else if m = 12 then 334 else 365
def cum (y m : Int) : Int := cumN m + if 2 < m then lp y else 0
theorem months {p : Int → Prop} {m : Int} (h1 : 1 ≤ m) (h2 : m ≤ 12) (h : p 1 ∧ p 2 ∧ p 3 ∧ p 4 ∧ p 5 ∧ p 6 ∧ p 7 ∧ p 8 ∧ p 9 ∧ p 10 ∧ p 11 ∧ p 12) : p m := by
  obtain ⟨a1, a2, a3, a4, a5, a6, a7, a8, a9, a10, a11, a12⟩ := h
  rcases (show m = 1 ∨ m = 2 ∨ m = 3 ∨ m = 4 ∨ m = 5 ∨ m = 6 ∨ m = 7 ∨ m = 8 ∨ m = 9 ∨ m = 10 ∨ m = 11 ∨ m = 12 by omega) with rfl | rfl | rfl | rfl | rfl | rfl | rfl | rfl | rfl | rfl | rfl | rfl <;> assumption
theorem cum_succ (y : Int) {m : Int} (h1 : 1 ≤ m) (h2 : m ≤ 12) : cum y (m + 1) = cum y m + dm y m := by
  refine months (p := fun m => cum y (m + 1) = cum y m + dm y m) h1 h2 ?_
  simp [cum, cumN, dm]; omega
theorem cum_1 (y : Int) : cum y 1 = 0 := by simp [cum, cumN]
theorem cum_13 (y : Int) : cum y 13 = 365 + lp y := by simp [cum, cumN]
theorem dm_pos (y m : Int) : 28 ≤ dm y m ∧ dm y m ≤ 31 := by
  have := lp_01 y
  unfold dm; split
  · omega
  · split <;> omega
theorem cum_mono (y : Int) {a b : Int} (h1 : 1 ≤ a) (h : a ≤ b) (h2 : b ≤ 13) : cum y a ≤ cum y b := by
  obtain ⟨n, rfl⟩ : ∃ n : Nat, b = a + n := ⟨(b - a).toNat, by omega⟩
  induction n with
  | zero => simp
  | succ n ih =>
    have h3 := cum_succ y (m := a + n) (by omega) (by omega)
    have h4 := dm_pos y (a + n)
    have := ih (by omega) (by omega)
    rw [show a + ((n + 1 : Nat) : Int) = a + n + 1 by omega]
    omega
theorem cum_inj {y a b d : Int} (ha : 1 ≤ a ∧ a ≤ 12) (hb : 1 ≤ b ∧ b ≤ 12) (h1 : cum y a ≤ d) (h2 : d < cum y (a + 1)) (h3 : cum y b ≤ d) (h4 : d < cum y (b + 1)) : a = b := by
  rcases Int.lt_trichotomy a b with h | h | h
  · have := cum_mono y (show 1 ≤ a + 1 by omega) (show a + 1 ≤ b by omega) (by omega); omega
  · exact h
  · have := cum_mono y (show 1 ≤ b + 1 by omega) (show b + 1 ≤ a by omega) (by omega); omega
/-- a date of the calendar, of so many days behind the first of January 2000 -/
structure IsDate (day y m d : Int) : Prop where
  y0 : 2000 ≤ y
  m1 : 1 ≤ m
  m2 : m ≤ 12
  d1 : 1 ≤ d
  d2 : d ≤ dm y m
  eq : day = yb y + cum y m + d - 1
theorem IsDate.year {day y m d : Int} (h : IsDate day y m d) : yb y ≤ day ∧ day < yb (y + 1) := by
  have h1 := cum_mono y (show 1 ≤ (1 : Int) by omega) h.m1 (by have := h.m2; omega)
  have h2 := cum_mono y (show 1 ≤ m + 1 by have := h.m1; omega) (show m + 1 ≤ 13 by have := h.m2; omega) (by omega)
  rw [cum_1] at h1
  rw [cum_13, cum_succ y h.m1 h.m2] at h2
  have h3 := yb_succ y
  have := h.eq
  have := h.d1
  have := h.d2
  omega
theorem IsDate.unique {day y m d y' m' d' : Int} (h : IsDate day y m d) (h' : IsDate day y' m' d') : y = y' ∧ m = m' ∧ d = d' := by
  obtain rfl : y = y' := yb_inj h.year.1 h.year.2 h'.year.1 h'.year.2
  have e1 := h.eq
  have e2 := h'.eq
  have a1 := h.d1
  have a2 := h.d2
  have b1 := h'.d1
  have b2 := h'.d2
  obtain rfl : m = m' := cum_inj (y := y) (d := day - yb y) ⟨h.m1, h.m2⟩ ⟨h'.m1, h'.m2⟩ (by omega) (by rw [cum_succ y h.m1 h.m2]; omega) (by omega) (by rw [cum_succ y h'.m1 h'.m2]; omega)
  exact ⟨rfl, rfl, by omega⟩
/-! ### the document's reckoning -/
def g4 (d : Nat) : Nat := d - d / 1460 + d / 36524 - d / 146096
def st (y : Nat) : Nat := if y = 400 then 146097 else 365 * y + y / 4 - y / 100
theorem g4_step (d : Nat) (h : d < 146096) : g4 d ≤ g4 (d + 1) := by unfold g4; omega
theorem g4_mono {a b : Nat} (h : a ≤ b) (hb : b ≤ 146096) : g4 a ≤ g4 b := by
  obtain ⟨n, rfl⟩ := Nat.exists_eq_add_of_le h
  induction n with
  | zero => exact Nat.le_refl _
  | succ n ih => exact Nat.le_trans (ih (by omega) (by omega)) (g4_step (a + n) (by omega))
theorem st_ends : ∀ y, y < 400 → g4 (st y) / 365 = y ∧ g4 (st (y + 1) - 1) / 365 = y ∧ st y < st (y + 1) := by decide +kernel
theorem yoe_of (d : Nat) : ∀ n, n ≤ 400 → d < st n → ∃ y, y < n ∧ st y ≤ d ∧ d < st (y + 1)
  | 0, _, h => by simp [st] at h
  | n + 1, hn, h => by
    rcases Nat.lt_or_ge d (st n) with h1 | h1
    · obtain ⟨y, h2, h3⟩ := yoe_of d n (by omega) h1
      exact ⟨y, by omega, h3⟩
    · exact ⟨n, by omega, h1, h⟩
theorem st_le : ∀ y, y < 401 → st y ≤ 146097 := by decide +kernel
theorem yoe_eq {d : Nat} (h : d < 146097) : g4 d / 365 < 400 ∧ st (g4 d / 365) ≤ d ∧ d < st (g4 d / 365 + 1) := by
  obtain ⟨y, h1, h2, h3⟩ := yoe_of d 400 (Nat.le_refl _) (by simpa [st] using h)
  obtain ⟨e1, e2, -⟩ := st_ends y h1
  have hl := st_le (y + 1) (by omega)
  have m1 := g4_mono h2 (by omega)
  have m2 := g4_mono (show d ≤ st (y + 1) - 1 by omega) (by omega)
  have d1 := Nat.div_le_div_right (c := 365) m1
  have d2 := Nat.div_le_div_right (c := 365) m2
  rw [e1] at d1
  rw [e2] at d2
  have : g4 d / 365 = y := Nat.le_antisymm d2 d1
  rw [this]
  exact ⟨h1, h2, h3⟩
theorem st_lt (y : Nat) (h : y < 400) : st y = 365 * y + y / 4 - y / 100 := by unfold st; rw [if_neg (by omega)]
def mpN (doy : Nat) : Nat := (5 * doy + 2) / 153
def mdN (doy : Nat) : Nat := (153 * mpN doy + 2) / 5
def cumM (mp : Nat) : Nat := if mp = 0 then 0 else if mp = 1 then 31 else if mp = 2 then 61 else if mp = 3 then 92 else if mp = 4 then 122 else if mp = 5 then 153 else if mp = 6 then 184 else if mp = 7 then 214 else if mp = 8 then 245 else if mp = 9 then 275 else if mp = 10 then 306 else if mp = 11 then 337 else 366
theorem march : ∀ doy, doy < 366 → mpN doy < 12 ∧ mdN doy = cumM (mpN doy) ∧ mdN doy ≤ doy ∧ doy < cumM (mpN doy + 1) := by decide +kernel
/-- the document's date of a day -/
def civY (day : Int) : Int := let z := day + 730425; let doe := (z % 146097).toNat; let yoe := g4 doe / 365; let doy := doe - (365 * yoe + yoe / 4 - yoe / 100)
  (yoe : Int) + 400 * (z / 146097) + if 9 < mpN doy then 1 else 0
def civM (day : Int) : Int := let z := day + 730425; let doe := (z % 146097).toNat; let yoe := g4 doe / 365; let doy := doe - (365 * yoe + yoe / 4 - yoe / 100)
  (mpN doy : Int) + 3 - if 9 < mpN doy then 12 else 0
def civD (day : Int) : Int := let z := day + 730425; let doe := (z % 146097).toNat; let yoe := g4 doe / 365; let doy := doe - (365 * yoe + yoe / 4 - yoe / 100)
  (doy : Int) - mdN doy + 1
theorem st_top (y : Nat) (h : y < 400) : st (y + 1) ≤ 365 * y + y / 4 - y / 100 + 365 + (if (y + 1) % 4 = 0 ∧ ((y + 1) % 100 ≠ 0 ∨ (y + 1) % 400 = 0) then 1 else 0) := by
  revert y; decide +kernel
theorem yb_era (y era : Int) (c : Int) : yb (y + 400 * era + c) = 365 * (y + c) + (y + c + 3) / 4 - (y + c + 99) / 100 + (y + c + 399) / 400 + 146097 * (era - 5) := by
  have h1 : (y + 400 * era + c - 2000 + 3) / 4 = (y + c + 3) / 4 + 100 * (era - 5) := by omega
  have h2 : (y + 400 * era + c - 2000 + 99) / 100 = (y + c + 99) / 100 + 4 * (era - 5) := by omega
  have h3 : (y + 400 * era + c - 2000 + 399) / 400 = (y + c + 399) / 400 + (era - 5) := by omega
  unfold yb
  rw [h1, h2, h3]; omega
theorem lp_era (y era : Int) (c : Int) : lp (y + 400 * era + c) = lp (y + c) := by
  rw [lp_def, lp_def]
  have h1 : (y + 400 * era + c) % 4 = (y + c) % 4 := by omega
  have h2 : (y + 400 * era + c) % 100 = (y + c) % 100 := by omega
  have h3 : (y + 400 * era + c) % 400 = (y + c) % 400 := by omega
  rw [h1, h2, h3]
theorem yb_next {y : Int} (era : Int) (h : 0 ≤ y ∧ y < 400) : yb (y + 400 * era + 1) = 365 * y + y / 4 - y / 100 + 146097 * (era - 5) + 366 := by
  rw [yb_era]
  have f1 : (y + 1 + 3) / 4 = y / 4 + 1 := by omega
  have f2 : (y + 1 + 99) / 100 = y / 100 + 1 := by omega
  have f3 : (y + 1 + 399) / 400 = 1 := by omega
  rw [f1, f2, f3]; omega
theorem yb_this {y : Int} (era : Int) (h : 0 ≤ y ∧ y < 400) : yb (y + 400 * era + 0) + lp (y + 400 * era + 0) = 365 * y + y / 4 - y / 100 + 146097 * (era - 5) + 1 := by
  rw [yb_era, lp_era, lp_def]
  have f1 : (y + 0 + 3) / 4 = y / 4 + (if (y + 0) % 4 = 0 then 0 else 1) := by split <;> omega
  have f2 : (y + 0 + 99) / 100 = y / 100 + (if (y + 0) % 100 = 0 then 0 else 1) := by split <;> omega
  have f3 : (y + 0 + 399) / 400 = (if (y + 0) % 400 = 0 then 0 else 1) := by split <;> omega
  rw [f1, f2, f3]
  by_cases g1 : (y + 0) % 4 = 0
  · by_cases g2 : (y + 0) % 100 = 0
    · by_cases g3 : (y + 0) % 400 = 0
      · rw [if_pos g1, if_pos g2, if_pos g3, if_pos ⟨g1, Or.inr g3⟩]; omega
      · rw [if_pos g1, if_pos g2, if_neg g3, if_neg (fun h => h.2.elim (fun h => h g2) g3)]; omega
    · have g3 : ¬ (y + 0) % 400 = 0 := by omega
      rw [if_pos g1, if_neg g2, if_neg g3, if_pos ⟨g1, Or.inl g2⟩]; omega
  · have g2 : ¬ (y + 0) % 100 = 0 := by omega
    have g3 : ¬ (y + 0) % 400 = 0 := by omega
    rw [if_neg g1, if_neg g2, if_neg g3, if_neg (fun h => g1 h.1)]; omega
theorem civ_isDate {day : Int} (h0 : 0 ≤ day) : IsDate day (civY day) (civM day) (civD day) := by
  unfold civY civM civD
  obtain ⟨z, hz⟩ : ∃ z, day + 730425 = z := ⟨_, rfl⟩
  simp only [hz]
  obtain ⟨era, he⟩ : ∃ e, z / 146097 = e := ⟨_, rfl⟩
  obtain ⟨doe, hd⟩ : ∃ d, (z % 146097).toNat = d := ⟨_, rfl⟩
  rw [he, hd]
  have hdoe : doe < 146097 := by omega
  have hz2 : z = 146097 * era + doe := by omega
  have he5 : 4 ≤ era := by omega
  clear he hd
  obtain ⟨h1, h2, h3⟩ := yoe_eq hdoe
  generalize g4 doe / 365 = y at *
  have h4 := st_top y h1
  rw [st_lt y h1] at h2
  obtain ⟨b, hb⟩ : ∃ b, 365 * y + y / 4 - y / 100 = b := ⟨_, rfl⟩
  rw [hb] at h2 h4 ⊢
  obtain ⟨doy, hdoy⟩ : ∃ d, doe - b = d := ⟨_, rfl⟩
  rw [hdoy]
  have hlt : doy < 365 + (if (y + 1) % 4 = 0 ∧ ((y + 1) % 100 ≠ 0 ∨ (y + 1) % 400 = 0) then 1 else 0) := by omega
  have hl366 : doy < 366 := by split at hlt <;> omega
  obtain ⟨m1, m2, m3, m4⟩ := march doy hl366
  rw [m2] at m3 ⊢
  generalize mpN doy = mp at *
  clear h3 h4 m2
  obtain ⟨L2, hL2⟩ : ∃ l : Int, (if ((y : Int) + 1) % 4 = 0 ∧ (((y : Int) + 1) % 100 ≠ 0 ∨ ((y : Int) + 1) % 400 = 0) then (1 : Int) else 0) = l := ⟨_, rfl⟩
  have hlt2 : (doy : Int) < 365 + L2 := by
    rw [← hL2]
    split at hlt
    · rw [if_pos (by omega)]; omega
    · rw [if_neg (by omega)]; omega
  clear hlt
  have hbI : (b : Int) = 365 * y + (y : Int) / 4 - (y : Int) / 100 := by omega
  have hdI : (doy : Int) = doe - b := by omega
  have hday : day = 146097 * (era - 5) + b + doy + 60 := by omega
  have hy4 : (0 : Int) ≤ y ∧ (y : Int) < 400 := by omega
  clear hb hdoy h1 hz hz2
  by_cases h9 : 9 < mp
  · rw [if_pos h9, if_pos h9]
    have hY : yb ((y : Int) + 400 * era + 1) = b + 146097 * (era - 5) + 366 := by
      rw [hbI, yb_next era hy4]
    have hL3 : lp ((y : Int) + 400 * era + 1) = L2 := by
      rw [lp_era, lp_def, ← hL2]
    rcases (show mp = 10 ∨ mp = 11 by omega) with rfl | rfl
    · have c1 : cumM 10 = 306 := rfl
      have c2 : cumM (10 + 1) = 337 := rfl
      rw [c1] at m3 ⊢
      rw [c2] at m4
      refine ⟨by omega, by decide, by decide, by omega, ?_, ?_⟩
      · simp [dm]; omega
      · rw [hY]; simp [cum, cumN]; omega
    · have c1 : cumM 11 = 337 := rfl
      rw [c1] at m3 ⊢
      refine ⟨by omega, by decide, by decide, by omega, ?_, ?_⟩
      · have : dm ((y : Int) + 400 * era + 1) 2 = 28 + L2 := by rw [← hL3]; simp [dm]
        show _ ≤ dm _ 2
        rw [this]; omega
      · have : cum ((y : Int) + 400 * era + 1) 2 = 31 := by simp [cum, cumN]
        show _ = _ + cum _ 2 + _ - 1
        rw [hY, this]; omega
  · rw [if_neg h9, if_neg h9]
    have hl1 := lp_01 ((y : Int) + 400 * era + 0)
    have key : yb ((y : Int) + 400 * era + 0) + lp ((y : Int) + 400 * era + 0) = b + 146097 * (era - 5) + 1 := by rw [hbI, yb_this era hy4]
    obtain ⟨Y, hY⟩ : ∃ Y, (y : Int) + 400 * era + 0 = Y := ⟨_, rfl⟩
    rw [hY] at key hl1 ⊢
    have hY0 : 2000 ≤ Y + 400 := by omega
    have hY1 : 2000 ≤ Y := by
      rcases Int.lt_or_le era 5 with h | h
      · exfalso
        have : era = 4 := by omega
        subst this
        have h306 : ∀ m, m < 10 → cumM (m + 1) ≤ 306 := by decide
        have h307 := h306 mp (by omega)
        have hb2 : (b : Int) ≤ 145731 := by rw [hbI]; clear hbI; omega
        omega
      · omega
    clear hY hbI hL2 hlt2 hdI hy4 he5 hl366 m1
    rcases (show mp = 0 ∨ mp = 1 ∨ mp = 2 ∨ mp = 3 ∨ mp = 4 ∨ mp = 5 ∨ mp = 6 ∨ mp = 7 ∨ mp = 8 ∨ mp = 9 by omega) with rfl | rfl | rfl | rfl | rfl | rfl | rfl | rfl | rfl | rfl
    all_goals
      simp [cumM] at m3 m4
      refine ⟨hY1, by decide, by decide, ?_, ?_, ?_⟩
      · simp [cumM]; omega
      · simp [cumM, dm]; omega
      · simp [cumM, cum, cumN]; omega
end Go.Proofs.YtnbdcdeidhhgoaaDoor
