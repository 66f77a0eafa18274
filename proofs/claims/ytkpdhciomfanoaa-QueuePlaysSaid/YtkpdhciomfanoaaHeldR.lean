/- A queue of the law's own: what is removed. -/
import Derived.Test.YtkpdhciomfanoaaHeld
namespace Go.Proofs.Ytkpdhciomfanoaa
set_option linter.unusedVariables false
set_option linter.unusedSimpArgs false
open Go Go.RowKit Go.Maps Go.ChangeMaps Go.MapKept
def others (xs : List It) (r k i : Int) : List It := xs.filter fun x => !isK x r k i
theorem others_map (ys : List Ent) (r k i : Int) : others (ys.map Ent.it) r k i = (ys.filter fun e => !isT e r k i).map Ent.it := by
  unfold others; rw [List.filter_map]; rfl
theorem filter_at {l r : List Ent} {e : Ent} (h : Apart (l ++ e :: r)) : (l ++ e :: r).filter (fun x => !isT x e.run e.kind e.id) = l ++ r := by
  unfold Apart at h
  rw [List.pairwise_append] at h
  obtain ⟨_, h2, h3⟩ := h
  rw [List.pairwise_cons] at h2
  have he : isT e e.run e.kind e.id = true := isT_iff.2 ⟨rfl, rfl, rfl⟩
  rw [List.filter_append, List.filter_cons, he]
  simp only [Bool.not_true, Bool.false_eq_true, if_false]
  rw [List.filter_eq_self.2 (fun a ha => by rw [h3 a ha e (by simp)]; rfl), List.filter_eq_self.2 (fun b hb => by rw [isT_symm (h2.1 b hb)]; rfl)]
theorem held_remove {w W : World} {q : Nat} {xs : List It} (h : Held w W q xs) (r k i : Int) (hok : TaskOk r k i) :
    Calls Try.prog 11 #[.pointer (some ⟨q, 0, none⟩), taskV r k i] W fun e W' => e = .returned (.bool (xs.any (isK · r k i))) ∧ Held w W' q (others xs r k i) := by
  have h' := h
  obtain ⟨hE, bm, ys, hq, rfl, hf⟩ := h
  rw [any_it, others_map]
  cases he : look ys r k i with
  | none =>
    have hn := look_none he
    rw [hn]
    have hfl : (ys.filter fun e => !isT e r k i) = ys := List.filter_eq_self.2 (fun a ha => by
      have := (List.any_eq_false.1 hn) a ha
      simpa using this)
    rw [hfl]
    refine (remove_no W q 0 bm ys r k i hq hok he).mono ?_
    rintro e W' ⟨rfl, h1⟩
    exact ⟨rfl, h'.keep h1⟩
  | some e =>
    obtain ⟨hm, rfl, rfl, rfl⟩ := look_some he
    obtain ⟨l, r, rfl⟩ := List.append_of_mem hm
    have hany : (l ++ e :: r).any (isT · e.run e.kind e.id) = true := by
      rw [List.any_eq_true]; exact ⟨e, hm, isT_iff.2 ⟨rfl, rfl, rfl⟩⟩
    rw [hany, filter_at hq.apart]
    refine (remove_yes W q 0 bm l r e hq).mono ?_
    rintro e' W' ⟨rfl, hq', ht, -⟩
    refine ⟨rfl, ext_foot hE ht hf, bm, _, hq', rfl, fun k hk => hf k ?_⟩
    rcases hk with hk | hk | hk
    · exact Or.inl hk
    · exact Or.inr (Or.inl hk)
    · refine Or.inr (Or.inr ?_)
      simp only [blks, List.map_append, List.mem_append, List.map_cons, List.mem_cons] at hk ⊢
      rcases hk with hk | hk
      · exact Or.inl hk
      · exact Or.inr (Or.inr hk)
end Go.Proofs.Ytkpdhciomfanoaa
