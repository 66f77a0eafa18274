/- CronNext, walked. -/
import Derived.Test.YtmgpkadgalgnnaaDoorCFinds
namespace Go.Proofs.YtmgpkadgalgnnaaDoor
set_option maxRecDepth 4000
set_option linter.unusedVariables false
set_option linter.unusedSimpArgs false
open Go Go.RowKit
theorem fieldsS_err : ∀ {k : Nat} {l : List (List UInt8)} {e : Int}, fieldsS k l = .error e → e = 1 ∨ e = 8
  | k, [], e, h => by cases h
  | k, x :: l, e, h => by
    rw [fieldsS] at h
    cases hx : fieldS (lo k) (Go.Proofs.YtmgpkadgalgnnaaDoor.hi k) x with
    | error e' => rw [hx] at h; injection h with h; subst h; exact fieldS_err hx
    | ok p =>
      rw [hx] at h
      simp only [] at h
      cases hl : fieldsS (k + 1) l with
      | error e' => rw [hl] at h; injection h with h; subst h; exact fieldsS_err hl
      | ok q => rw [hl] at h; cases h
theorem parseS_err {x : List UInt8} {e : Int} (h : parseS x = .error e) : e = 1 ∨ e = 8 ∨ e = 40 ∨ e = 2 := by
  unfold parseS at h
  split at h
  · injection h with h; exact Or.inr (Or.inr (Or.inr h.symm))
  · split at h
    · injection h with h; exact Or.inr (Or.inr (Or.inl h.symm))
    · split at h
      · rename_i e' he
        injection h with h
        subst h
        rcases fieldsS_err he with h | h
        · exact Or.inl h
        · exact Or.inr (Or.inl h)
      · cases h
theorem refparse_ok {w W : World} {S : Sp} {e : Ending} (h : RParseR (.ok S) w e W) : ∃ g c vs ls, e = .returned (.tuple #[.slice (some ⟨g, 0, none⟩) 5 c, .int .i64 0]) ∧ Flds W g S vs ls ∧ Ext w W := by
  obtain ⟨v, h1, h2, h3⟩ := h
  obtain ⟨g, c, vs, ls, rfl, h4⟩ := h3.open
  exact ⟨g, c, vs, ls, h1, h4, h2⟩
theorem nextlaw_any (w : World) (s : ByteArray) (t : Int) (hlo : -9223372036854775808 ≤ t) (hhi : t ≤ 9223372036854775807) (hm : MX w) :
    Calls Tryd.prog 5 #[.string s, .int .i64 t] w fun e w' => e = .returned (.bool true) ∧ Ext w w' := by
  have hf := finds_any w hm
  go_enter Tryd.func5, Tryd.ntmps5
  go_wp2_with fail
  refine hf.mono ?_
  rintro e w1 ⟨rfl, hE1⟩
  clear hf
  by_cases hl : (128 : Int) < s.size
  · go_wp2_with fail
    go_ret
    exact ⟨rfl, hE1⟩
  have hlt : (tl s).length ≤ 128 := by rw [tl_length]; omega
  have hp := parse_any w1 (tl s) (by omega) (hm.ext hE1)
  have hrp := fun W => refparse_any W (tl s) (by omega)
  rw [show strV (tl s) = .string s by rw [strV, strOf_tl]] at hp hrp
  cases hS : parseS (tl s) with
  | error c =>
    rw [hS] at hp hrp
    rcases parseS_err hS with rfl | rfl | rfl | rfl
    · go_wp2_with fail
      refine hp.mono ?_
      rintro e w2 ⟨rfl, hE2⟩
      clear hp
      go_wp2_with fail
      refine (hrp _).mono ?_
      rintro e w3 ⟨rfl, hE3⟩
      clear hrp
      go_wp2_with fail
      go_ret
      exact ⟨rfl, (hE1.trans hE2).trans hE3⟩
    · go_wp2_with fail
      refine hp.mono ?_
      rintro e w2 ⟨rfl, hE2⟩
      clear hp
      go_wp2_with fail
      refine (hrp _).mono ?_
      rintro e w3 ⟨rfl, hE3⟩
      clear hrp
      go_wp2_with fail
      go_ret
      exact ⟨rfl, (hE1.trans hE2).trans hE3⟩
    · go_wp2_with fail
      refine hp.mono ?_
      rintro e w2 ⟨rfl, hE2⟩
      clear hp
      go_wp2_with fail
      refine (hrp _).mono ?_
      rintro e w3 ⟨rfl, hE3⟩
      clear hrp
      go_wp2_with fail
      go_ret
      exact ⟨rfl, (hE1.trans hE2).trans hE3⟩
    · go_wp2_with fail
      refine hp.mono ?_
      rintro e w2 ⟨rfl, hE2⟩
      clear hp
      go_wp2_with fail
      refine (hrp _).mono ?_
      rintro e w3 ⟨rfl, hE3⟩
      clear hrp
      go_wp2_with fail
      go_ret
      exact ⟨rfl, (hE1.trans hE2).trans hE3⟩
  | ok S =>
    rw [hS] at hp hrp
    have hok := (parseS_ok hS).1
    go_wp2_with fail
    refine hp.mono ?_
    intro e w2 hr
    obtain ⟨g, rfl, hSp, hE2⟩ := parse_ok hr
    clear hp hr
    go_wp2_with fail
    refine (hrp _).mono ?_
    intro e w3 hr
    obtain ⟨g2, c2, vs, ls, rfl, hFl, hE3⟩ := refparse_ok hr
    clear hrp hr
    have hn := next_any w3 g S (tl s) t hlo hhi (hSp.ext hE3) hok
    have hn2 := fun {W : World} (hE : Ext w3 W) => refnext_any W g2 c2 S vs ls t hlo hhi (hFl.ext hE)
    generalize nextV S t = R at *
    go_wp2_with fail
    refine hn.mono ?_
    rintro e w4 ⟨rfl, hE4⟩
    clear hn
    go_wp2_with fail
    refine (hn2 hE4).mono ?_
    rintro e w5 ⟨rfl, hE5⟩
    clear hn2
    go_wp2_with fail
    go_ret
    exact ⟨rfl, (((hE1.trans hE2).trans hE3).trans hE4).trans hE5⟩
end Go.Proofs.YtmgpkadgalgnnaaDoor
