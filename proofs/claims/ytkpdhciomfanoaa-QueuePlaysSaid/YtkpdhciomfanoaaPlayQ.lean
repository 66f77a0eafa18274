/- A queue of the law's own, among other things of the law's own. -/
import Derived.Test.YtkpdhciomfanoaaHeldD
import Derived.Test.YtkpdhciomfanoaaRow
namespace Go.Proofs.Ytkpdhciomfanoaa
set_option linter.unusedVariables false
set_option linter.unusedSimpArgs false
open Go Go.RowKit Go.Maps Go.ChangeMaps Go.MapKept
def qA (q : Nat) (xs : List It) : Asr := fun W F => ∃ bm ys, QRep W q 0 bm ys ∧ ys.map Ent.it = xs ∧ F = Foot q bm ys
theorem qA_loc (q : Nat) (xs : List It) : Loc (qA q xs) := by
  constructor
  · rintro W W' F ⟨bm, ys, h, hm, rfl⟩ hk
    exact ⟨bm, ys, h.keep hk, hm, rfl⟩
  · rintro W F k ⟨bm, ys, h, hm, rfl⟩ hk
    exact h.foot_lt hk
section
variable {W : World} {q : Nat} {xs : List It} {F : Nat → Prop}
theorem q_new (W : World) (T : TypeId) (hT : T ≠ 61) : qA W.heap.size [] (W.alloc (.cells #[.pointer none, .pointer none, .map none] T)) (Foot W.heap.size none []) :=
  ⟨none, [], qrep_new (Blk.new _ _ _) hT, rfl, rfl⟩
theorem q_add_ok (h : qA q xs W F) (r k i s : Int) (hok : Ent.Ok ⟨r, k, i, s, 0⟩) (hin : xs.any (isK · r k i) = false) (hl : (xs.length : Int) < 128) :
    Calls Try.prog 8 #[.pointer (some ⟨q, 0, none⟩), taskV r k i, .int .i64 s] W fun e W' => e = .returned (.int .i64 0) ∧ Next F W W' (qA q (xs ++ [⟨r, k, i, s⟩])) := by
  obtain ⟨bm, ys, hq, rfl, rfl⟩ := h
  rw [any_it] at hin
  refine (add_ok W q 0 bm ys r k i s hq hok hin (by simpa using hl)).mono ?_
  rintro e W' ⟨rfl, bm', b, hb, hq', ht, -, hbm⟩
  refine ⟨rfl, _, ⟨bm', _, hq', by simp [Ent.it], rfl⟩, ht, fun k hk => ?_⟩
  rcases hk with rfl | hk | hk
  · exact Or.inl (Or.inl rfl)
  · rcases hbm _ hk with h1 | h1
    · exact Or.inl (Or.inr (Or.inl h1))
    · exact Or.inr h1
  · simp only [blks, List.map_append, List.mem_append, List.map_cons, List.map_nil, List.mem_singleton] at hk
    rcases hk with hk | rfl
    · exact Or.inl (Or.inr (Or.inr hk))
    · exact Or.inr hb
theorem q_add_full (h : qA q xs W F) (r k i s : Int) (hok : Ent.Ok ⟨r, k, i, s, 0⟩) (hin : xs.any (isK · r k i) = false) (hl : 128 ≤ (xs.length : Int)) :
    Calls Try.prog 8 #[.pointer (some ⟨q, 0, none⟩), taskV r k i, .int .i64 s] W fun e W' => e = .returned (.int .i64 3) ∧ Ext W W' := by
  obtain ⟨bm, ys, hq, rfl, rfl⟩ := h
  rw [any_it] at hin
  exact add_full W q 0 bm ys r k i s hq hok hin (by simpa using hl)
theorem q_add_twice (h : qA q xs W F) (r k i s : Int) (hok : Ent.Ok ⟨r, k, i, s, 0⟩) (hin : xs.any (isK · r k i) = true) :
    Calls Try.prog 8 #[.pointer (some ⟨q, 0, none⟩), taskV r k i, .int .i64 s] W fun e W' => e = .returned (.int .i64 5) ∧ Ext W W' := by
  obtain ⟨bm, ys, hq, rfl, rfl⟩ := h
  rw [any_it] at hin
  exact add_twice W q 0 bm ys r k i s hq hok hin
theorem q_len (h : qA q xs W F) : Calls Try.prog 10 #[.pointer (some ⟨q, 0, none⟩)] W fun e W' => e = .returned (.int .i64 xs.length) ∧ Ext W W' := by
  obtain ⟨bm, ys, hq, rfl, rfl⟩ := h
  simpa using len_any W q 0 bm ys hq
theorem q_take_yes {x : It} (h : qA q (x :: xs) W F) :
    Calls Try.prog 9 #[.pointer (some ⟨q, 0, none⟩)] W fun e W' => e = .returned (.tuple #[taskV x.run x.kind x.id, .bool true]) ∧ Next F W W' (qA q xs) := by
  obtain ⟨bm, ys, hq, hm, rfl⟩ := h
  cases ys with
  | nil => simp at hm
  | cons y ys =>
    simp only [List.map_cons, List.cons.injEq] at hm
    obtain ⟨rfl, rfl⟩ := hm
    refine (take_yes W q 0 bm y ys hq).mono ?_
    rintro e W' ⟨rfl, hq', ht, -⟩
    exact ⟨rfl, _, ⟨bm, ys, hq', rfl, rfl⟩, ht, fun k hk => Or.inl (foot_cons hk)⟩
theorem q_take_no (h : qA q [] W F) : Calls Try.prog 9 #[.pointer (some ⟨q, 0, none⟩)] W fun e W' => e = .returned (.tuple #[taskV 0 0 0, .bool false]) ∧ Ext W W' := by
  obtain ⟨bm, ys, hq, hm, rfl⟩ := h
  obtain rfl := List.map_eq_nil_iff.1 hm
  exact take_no W q 0 bm hq
theorem q_remove (h : qA q xs W F) (r k i : Int) (hok : TaskOk r k i) :
    Calls Try.prog 11 #[.pointer (some ⟨q, 0, none⟩), taskV r k i] W fun e W' => e = .returned (.bool (xs.any (isK · r k i))) ∧ Next F W W' (qA q (others xs r k i)) := by
  have hl := qA_loc q xs
  have h' := h
  obtain ⟨bm, ys, hq, rfl, rfl⟩ := h
  rw [any_it, others_map]
  cases he : look ys r k i with
  | none =>
    have hn := look_none he
    rw [hn]
    have hfl : (ys.filter fun e => !isT e r k i) = ys := List.filter_eq_self.2 (fun a ha => by
      have := (List.any_eq_false.1 hn) a ha
      simpa using this)
    rw [hfl]
    refine (remove_no W q 0 bm ys r k i hq hok he).mono ?_
    rintro e W' ⟨rfl, h1⟩
    exact ⟨rfl, Next.of_ext hl h' h1⟩
  | some e =>
    obtain ⟨hm, rfl, rfl, rfl⟩ := look_some he
    obtain ⟨l, r, rfl⟩ := List.append_of_mem hm
    have hany : (l ++ e :: r).any (isT · e.run e.kind e.id) = true := by
      rw [List.any_eq_true]; exact ⟨e, hm, isT_iff.2 ⟨rfl, rfl, rfl⟩⟩
    rw [hany, filter_at hq.apart]
    refine (remove_yes W q 0 bm l r e hq).mono ?_
    rintro e' W' ⟨rfl, hq', ht, -⟩
    refine ⟨rfl, _, ⟨bm, _, hq', rfl, rfl⟩, ht, fun k hk => Or.inl ?_⟩
    rcases hk with hk | hk | hk
    · exact Or.inl hk
    · exact Or.inr (Or.inl hk)
    · refine Or.inr (Or.inr ?_)
      simp only [blks, List.map_append, List.mem_append, List.map_cons, List.mem_cons] at hk ⊢
      rcases hk with hk | hk
      · exact Or.inl hk
      · exact Or.inr (Or.inr hk)
theorem q_drop (h : qA q xs W F) (run : Int) (hlen : xs.length < 1000) :
    Calls Try.prog 12 #[.pointer (some ⟨q, 0, none⟩), .int .i64 run] W fun e W' => e = .returned (.int .i64 (xs.length - (restIt run xs).length)) ∧ Next F W W' (qA q (restIt run xs)) := by
  obtain ⟨bm, ys, hq, rfl, rfl⟩ := h
  refine (drop_any W q 0 bm ys run hq (by simpa using hlen)).mono ?_
  rintro e W' ⟨n, rfl, hn, hq', ht, -⟩
  refine ⟨?_, _, ⟨bm, _, hq', rest_it run ys, rfl⟩, ht, fun k hk => Or.inl ?_⟩
  · congr 2
    rw [← rest_it]
    simp
    omega
  · have := foot_rest (pre := ys) (post := []) (q := q) (bm := bm) (run := run) (k := k) (by simpa using hk)
    simpa using this
theorem q_has (h : qA q xs W F) (r k i : Int) (hok : TaskOk r k i) : Calls Try.prog 17 #[.pointer (some ⟨q, 0, none⟩), taskV r k i] W fun e W' => e = .returned (.bool (xs.any (isK · r k i))) ∧ Ext W W' := by
  obtain ⟨bm, ys, hq, rfl, rfl⟩ := h
  rw [any_it]
  exact has_any W q 0 bm ys r k i hq hok
theorem q_first_no (h : qA q [] W F) : Calls Try.prog 18 #[.pointer (some ⟨q, 0, none⟩)] W fun e W' => e = .returned (.tuple #[taskV 0 0 0, .int .i64 0, .bool false]) ∧ Ext W W' := by
  obtain ⟨bm, ys, hq, hm, rfl⟩ := h
  obtain rfl := List.map_eq_nil_iff.1 hm
  exact first_no W q 0 bm hq
theorem q_first_yes {x : It} (h : qA q (x :: xs) W F) :
    Calls Try.prog 18 #[.pointer (some ⟨q, 0, none⟩)] W fun e W' => e = .returned (.tuple #[taskV x.run x.kind x.id, .int .i64 x.since, .bool true]) ∧ Ext W W' := by
  obtain ⟨bm, ys, hq, hm, rfl⟩ := h
  cases ys with
  | nil => simp at hm
  | cons y ys =>
    simp only [List.map_cons, List.cons.injEq] at hm
    obtain ⟨rfl, rfl⟩ := hm
    exact first_yes W q 0 bm y ys hq
theorem q_since (h : qA q xs W F) (r k i : Int) (x : It) (hok : TaskOk r k i) (hx : xs.find? (isK · r k i) = some x) :
    Calls Try.prog 16 #[.pointer (some ⟨q, 0, none⟩), taskV r k i] W fun e W' => e = .returned (.tuple #[.int .i64 x.since, .bool true]) ∧ Ext W W' := by
  obtain ⟨bm, ys, hq, rfl, rfl⟩ := h
  rw [find_it] at hx
  obtain ⟨e, he, rfl⟩ := Option.map_eq_some_iff.1 hx
  exact since_yes W q 0 bm ys e r k i hq hok he
theorem q_list (h : qA q xs W F) (hlen : xs.length < 1000) :
    Calls Try.prog 13 #[.pointer (some ⟨q, 0, none⟩)] W fun e W' => (∃ v, e = .returned v ∧ W'.ownsRow W.heap.size 32 3 v xs.length (flatIt xs)) ∧ Ext W W' := by
  obtain ⟨bm, ys, hq, rfl, rfl⟩ := h
  refine (list_any W q 0 bm ys hq (by simpa using hlen)).mono ?_
  rintro e W' ⟨v, rfl, hown, h1⟩
  rw [flat_it] at hown
  exact ⟨⟨v, rfl, by simpa using hown⟩, h1⟩
/-- no task twice; each is one that may be -/
def ItApart (xs : List It) : Prop := xs.Pairwise fun a b => isK a b.run b.kind b.id = false
theorem q_apart (h : qA q xs W F) : ItApart xs ∧ ∀ x ∈ xs, TaskOk x.run x.kind x.id := by
  obtain ⟨bm, ys, hq, rfl, rfl⟩ := h
  refine ⟨?_, fun x hx => ?_⟩
  · unfold ItApart
    rw [List.pairwise_map]
    exact hq.apart
  · obtain ⟨e, he, rfl⟩ := List.mem_map.1 hx
    exact (hq.ok e he).key
end
theorem isK_self (x : It) : isK x x.run x.kind x.id = true := by simp [isK]
theorem isK_iff {x : It} {r k i : Int} : isK x r k i = true ↔ x.run = r ∧ x.kind = k ∧ x.id = i := by simp [isK, and_assoc]
theorem find_self {l r : List It} {x : It} (h : ItApart (l ++ x :: r)) : (l ++ x :: r).find? (isK · x.run x.kind x.id) = some x := by
  have hp := (List.pairwise_append.1 h).2.2
  rw [List.find?_append, List.find?_cons, isK_self]
  have : l.find? (isK · x.run x.kind x.id) = none := by
    rw [List.find?_eq_none]
    intro y hy
    rw [hp y hy x (by simp)]; decide
  rw [this]; rfl
theorem others_at {l r : List It} {x : It} (h : ItApart (l ++ x :: r)) : others (l ++ x :: r) x.run x.kind x.id = l ++ r := by
  have hp := List.pairwise_append.1 h
  have h1 : ∀ y ∈ l, isK y x.run x.kind x.id = false := fun y hy => hp.2.2 y hy x (by simp)
  have h2 : ∀ y ∈ r, isK y x.run x.kind x.id = false := fun y hy => by
    have := (List.pairwise_cons.1 hp.2.1).1 y hy
    rw [Bool.eq_false_iff] at *
    intro h'
    rw [isK_iff] at h'
    exact this (isK_iff.2 ⟨h'.1.symm, h'.2.1.symm, h'.2.2.symm⟩)
  unfold others
  rw [List.filter_append, List.filter_cons, isK_self]
  rw [List.filter_eq_self.2 (fun y hy => by rw [h1 y hy]; rfl), List.filter_eq_self.2 (fun y hy => by rw [h2 y hy]; rfl)]
  simp
end Go.Proofs.Ytkpdhciomfanoaa
