/- QueueOrder, in plain Lean. -/
import Derived.Test.YtkpdhciomfanoaaHeldR
namespace Go.Proofs.Ytkpdhciomfanoaa
set_option linter.unusedVariables false
set_option linter.unusedSimpArgs false
open Go
/-- what is wanted behind the first ids -/
def wanted : List Int → List Int → List Int
  | acc, [] => acc
  | acc, x :: xs => wanted (if acc.contains x then acc else acc ++ [x]) xs
def act (i : Int) : It := ⟨1, 2, i, 0⟩
def acts (l : List Int) : List It := l.map act
theorem acts_any (l : List Int) (i : Int) : (acts l).any (isK · 1 2 i) = l.contains i := by
  unfold acts
  rw [List.any_map, Bool.eq_iff_iff, List.any_eq_true, List.contains_iff_mem]
  constructor
  · rintro ⟨x, hx, h⟩; simp [isK, act] at h; subst h; exact hx
  · intro h; exact ⟨i, h, by simp [isK, act]⟩
theorem acts_others (l : List Int) (i : Int) : others (acts l) 1 2 i = acts (l.filter fun x => x != i) := by
  unfold others acts
  rw [List.filter_map]
  congr 1
def stay (gone l : List Int) : List Int := l.filter fun x => !gone.contains x
theorem stay_snoc (g : List Int) (i : Int) (l : List Int) : (stay g l).filter (fun x => x != i) = stay (g ++ [i]) l := by
  unfold stay
  rw [List.filter_filter]
  refine List.filter_congr fun x _ => ?_
  rw [Bool.eq_iff_iff]; simp; constructor <;> (rintro ⟨a, b⟩; exact ⟨b, a⟩)
theorem stay_cons_out (g : List Int) (x : Int) (l : List Int) (h : g.contains x = true) : stay g (x :: l) = stay g l := by
  unfold stay; rw [List.filter_cons, h]; rfl
theorem stay_cons_in (g : List Int) (x : Int) (l : List Int) (h : g.contains x = false) : stay g (x :: l) = x :: stay g l := by
  unfold stay; rw [List.filter_cons, h]; rfl
theorem wanted_length : ∀ (xs acc : List Int), (wanted acc xs).length ≤ acc.length + xs.length
  | [], acc => by simp [wanted]
  | x :: xs, acc => by
    have := wanted_length xs (if acc.contains x then acc else acc ++ [x])
    have h2 : (if acc.contains x then acc else acc ++ [x]).length ≤ acc.length + 1 := by split <;> simp
    simp only [wanted, List.length_cons]
    omega
theorem wanted_snoc : ∀ (xs acc : List Int) (i : Int), wanted acc (xs ++ [i]) = if (wanted acc xs).contains i then wanted acc xs else wanted acc xs ++ [i]
  | [], acc, i => rfl
  | x :: xs, acc, i => by simp only [List.cons_append, wanted]; exact wanted_snoc xs _ i
end Go.Proofs.Ytkpdhciomfanoaa
