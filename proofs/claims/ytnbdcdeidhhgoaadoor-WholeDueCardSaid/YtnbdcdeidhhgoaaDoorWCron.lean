/- What is to happen again and again, beside others. -/
import Derived.Test.YtnbdcdeidhhgoaaDoorCNext
import Derived.Test.YtnbdcdeidhhgoaaDoorDKit
namespace Go.Proofs.YtnbdcdeidhhgoaaDoor
set_option maxRecDepth 4000
set_option linter.unusedVariables false
set_option linter.unusedSimpArgs false
open Go Go.RowKit
theorem nextV_ok (S : Sp) (t : Int) (h0 : 0 ≤ t) (h1 : t ≤ 2147483648) (h : (nextV S t).2 = 0) : t < (nextV S t).1 ∧ (nextV S t).1 ≤ t + 527040 := by
  unfold nextV at h ⊢
  rw [if_neg (by omega)] at h ⊢
  cases hs : seek S 527040 (t + 1) with
  | none => rw [hs] at h; simp at h
  | some a =>
    obtain ⟨_, h2, h3, _⟩ := seek_some hs
    show t < a ∧ a ≤ t + 527040
    omega
def CronOk (w : World) (v12 : Value) (R : List Asr) : Prop := ∀ W : World, Has w W R → ∀ t : Int, 0 ≤ t → t ≤ 2147483648 → Calls Tryd.prog 8 #[v12, .int .i64 t] W fun e W' => ∃ n f : Int, e = .returned (.tuple #[.int .i64 n, .int .i64 f]) ∧ (f = 0 → t < n ∧ n ≤ t + 527040) ∧ Ext W W'
def PhOut (w W' : World) (ps : List Asr) (e : Ending) : Prop := ∃ (v12 : Value) (c : Int) (R : List Asr), e = .returned (.tuple #[v12, .int .i64 c]) ∧ Locs R ∧ (c = 0 → CronOk w v12 R) ∧ Has w W' (R ++ ps)
theorem parse_has {w W : World} {ps : List Asr} (h : Has w W ps) (hl : Locs ps) (s : ByteArray) (hs : s.size ≤ 60) (hm : MX W) :
    Calls Tryd.prog 7 #[.string s] W fun e W' => PhOut w W' ps e := by
  have hp := parse_any W (tl s) (by rw [tl_length]; omega) hm
  rw [show strV (tl s) = .string s by rw [strV, strOf_tl]] at hp
  refine hp.mono ?_
  intro e W' hr
  cases hS : parseS (tl s) with
  | error c =>
    rw [hS] at hr
    obtain ⟨rfl, hE⟩ := hr
    refine ⟨.pointer none, c, [], rfl, .nil, fun hc => ?_, h.ext hl hE⟩
    exfalso
    have : ∀ {k : Nat} {l : List (List UInt8)} {e : Int}, fieldsS k l = .error e → e = 1 ∨ e = 8 := by
      intro k l
      induction l generalizing k with
      | nil => intro e h; simp [fieldsS] at h
      | cons x l ih =>
        intro e h
        simp only [fieldsS] at h
        cases hx : fieldS (lo k) (Go.Proofs.YtnbdcdeidhhgoaaDoor.hi k) x with
        | error e' => rw [hx] at h; injection h with h; subst h; exact fieldS_err hx
        | ok p =>
          rw [hx] at h
          simp only [] at h
          cases hl : fieldsS (k + 1) l with
          | error e' => rw [hl] at h; injection h with h; subst h; exact ih hl
          | ok q => rw [hl] at h; cases h
    unfold parseS at hS
    split at hS
    · injection hS with hS; omega
    · split at hS
      · injection hS with hS; omega
      · split at hS
        · rename_i e' he
          injection hS with hS
          rcases this he with h | h <;> omega
        · cases hS
  | ok S =>
    rw [hS] at hr
    obtain ⟨g, rfl, hH⟩ := hr
    refine ⟨.pointer (some ⟨g, 0, none⟩), 0, [blkA g 74 (spC S.q S.b (tl s))], rfl, .cons (blkA_loc _ _ _) .nil, fun _ => ?_, h.join hl hH (.cons (blkA_loc _ _ _) .nil)⟩
    intro X hX t h0 h1
    refine (next_any X g S (tl s) t (by omega) (by omega) hX.blk0 (parseS_ok hS).1).mono ?_
    rintro e W2 ⟨rfl, hE⟩
    exact ⟨_, _, rfl, nextV_ok S t h0 h1, hE⟩
end Go.Proofs.YtnbdcdeidhhgoaaDoor
