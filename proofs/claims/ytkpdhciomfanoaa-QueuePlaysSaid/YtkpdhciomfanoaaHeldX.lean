/- A queue of the law's own beside other blocks (X) that it leaves alone. -/
import Derived.Test.YtkpdhciomfanoaaHeldR
namespace Go.Proofs.Ytkpdhciomfanoaa
set_option linter.unusedVariables false
set_option linter.unusedSimpArgs false
open Go Go.RowKit Go.Maps Go.ChangeMaps Go.MapKept
structure HeldX (w W : World) (q : Nat) (xs : List It) (X : Nat → Prop) : Prop where
  ext : Ext w W
  rep : ∃ bm ys, QRep W q 0 bm ys ∧ ys.map Ent.it = xs ∧ ∀ k, Foot q bm ys k → w.heap.size ≤ k ∧ ¬ X k
  low : ∀ k, X k → k < W.heap.size
theorem HeldX.keep {w W W' : World} {q : Nat} {xs : List It} {X : Nat → Prop} (h : HeldX w W q xs X) (hE : Ext W W') : HeldX w W' q xs X := by
  obtain ⟨he, ⟨bm, ys, hq, hm, hf⟩, hl⟩ := h
  exact ⟨he.trans hE, ⟨bm, ys, hq.ext hE, hm, hf⟩, fun k hk => Nat.lt_of_lt_of_le (hl k hk) hE.le⟩
/-- other blocks turn: the queue stays -/
theorem HeldX.turn {w W W' : World} {q : Nat} {xs : List It} {X Y S : Nat → Prop} (h : HeldX w W q xs X) (hE : Ext w W') (ht : Tch S W W') (hS : ∀ k, S k → k < W.heap.size → X k) (hY : ∀ k, Y k → k < W'.heap.size ∧ (k < W.heap.size → X k)) : HeldX w W' q xs Y := by
  obtain ⟨he, ⟨bm, ys, hq, hm, hf⟩, hl⟩ := h
  refine ⟨hE, ⟨bm, ys, hq.tch ht (fun k hk hs => (hf k hk).2 (hS k hs (hq.foot_lt hk))), hm, fun k hk => ⟨(hf k hk).1, fun hy => (hf k hk).2 ((hY k hy).2 (hq.foot_lt hk))⟩⟩, fun k hk => (hY k hk).1⟩
theorem heldx_new {w W : World} {q : Nat} {T : TypeId} {X : Nat → Prop} (hE : Ext w W) (hq : w.heap.size ≤ q) (h : Blk W q T #[.pointer none, .pointer none, .map none]) (hT : T ≠ 61) (hX : ∀ k, X k → k < W.heap.size ∧ k ≠ q) : HeldX w W q [] X :=
  ⟨hE, ⟨none, [], qrep_new h hT, rfl, fun k hk => by rcases hk with rfl | hk | hk; exact ⟨hq, fun h => (hX _ h).2 rfl⟩; exact absurd hk (by simp); simp [blks] at hk⟩, fun k hk => (hX k hk).1⟩
theorem heldx_add {w W : World} {q : Nat} {xs : List It} {X : Nat → Prop} (h : HeldX w W q xs X) (r k i s : Int) (hok : Ent.Ok ⟨r, k, i, s, 0⟩) (hin : xs.any (isK · r k i) = false) (hl : (xs.length : Int) < 128) :
    Calls Try.prog 8 #[.pointer (some ⟨q, 0, none⟩), taskV r k i, .int .i64 s] W fun e W' => e = .returned (.int .i64 0) ∧ HeldX w W' q (xs ++ [⟨r, k, i, s⟩]) X ∧ Tch (fun k => ¬ X k) W W' := by
  obtain ⟨hE, ⟨bm, ys, hq, rfl, hf⟩, hlow⟩ := h
  rw [any_it] at hin
  refine (add_ok W q 0 bm ys r k i s hq hok hin (by simpa using hl)).mono ?_
  rintro e W' ⟨rfl, bm', b, hb, hq', ht, -, hbm⟩
  refine ⟨rfl, ⟨ext_foot hE ht fun k hk => (hf k hk).1, ⟨bm', _, hq', by simp [Ent.it], fun k hk => ?_⟩, fun k hk => Nat.lt_of_lt_of_le (hlow k hk) ht.size⟩, ht.mono fun k hk _ => (hf k hk).2⟩
  have hnew : ∀ k, W.heap.size ≤ k → w.heap.size ≤ k ∧ ¬ X k := fun k hk => ⟨Nat.le_trans hE.le hk, fun hx => absurd (hlow k hx) (Nat.not_lt.2 hk)⟩
  rcases hk with rfl | hk | hk
  · exact hf _ (Or.inl rfl)
  · rcases hbm _ hk with h1 | h1
    · exact hf _ (Or.inr (Or.inl h1))
    · exact hnew _ h1
  · simp only [blks, List.map_append, List.mem_append, List.map_cons, List.map_nil, List.mem_singleton] at hk
    rcases hk with hk | rfl
    · exact hf _ (Or.inr (Or.inr hk))
    · exact hnew _ hb
theorem heldx_twice {w W : World} {q : Nat} {xs : List It} {X : Nat → Prop} (h : HeldX w W q xs X) (r k i s : Int) (hok : Ent.Ok ⟨r, k, i, s, 0⟩) (hin : xs.any (isK · r k i) = true) :
    Calls Try.prog 8 #[.pointer (some ⟨q, 0, none⟩), taskV r k i, .int .i64 s] W fun e W' => e = .returned (.int .i64 5) ∧ HeldX w W' q xs X ∧ Ext W W' := by
  have h' := h
  obtain ⟨hE, ⟨bm, ys, hq, rfl, hf⟩, hlow⟩ := h
  rw [any_it] at hin
  refine (add_twice W q 0 bm ys r k i s hq hok hin).mono ?_
  rintro e W' ⟨rfl, h1⟩
  exact ⟨rfl, h'.keep h1, h1⟩
theorem heldx_full {w W : World} {q : Nat} {xs : List It} {X : Nat → Prop} (h : HeldX w W q xs X) (r k i s : Int) (hok : Ent.Ok ⟨r, k, i, s, 0⟩) (hin : xs.any (isK · r k i) = false) (hl : 128 ≤ (xs.length : Int)) :
    Calls Try.prog 8 #[.pointer (some ⟨q, 0, none⟩), taskV r k i, .int .i64 s] W fun e W' => e = .returned (.int .i64 3) ∧ HeldX w W' q xs X ∧ Ext W W' := by
  have h' := h
  obtain ⟨hE, ⟨bm, ys, hq, rfl, hf⟩, hlow⟩ := h
  rw [any_it] at hin
  refine (add_full W q 0 bm ys r k i s hq hok hin (by simpa using hl)).mono ?_
  rintro e W' ⟨rfl, h1⟩
  exact ⟨rfl, h'.keep h1, h1⟩
theorem heldx_len {w W : World} {q : Nat} {xs : List It} {X : Nat → Prop} (h : HeldX w W q xs X) :
    Calls Try.prog 10 #[.pointer (some ⟨q, 0, none⟩)] W fun e W' => e = .returned (.int .i64 xs.length) ∧ HeldX w W' q xs X ∧ Ext W W' := by
  have h' := h
  obtain ⟨hE, ⟨bm, ys, hq, rfl, hf⟩, hlow⟩ := h
  refine (len_any W q 0 bm ys hq).mono ?_
  rintro e W' ⟨rfl, h1⟩
  exact ⟨by simp, h'.keep h1, h1⟩
theorem heldx_take {w W : World} {q : Nat} {x : It} {xs : List It} {X : Nat → Prop} (h : HeldX w W q (x :: xs) X) :
    Calls Try.prog 9 #[.pointer (some ⟨q, 0, none⟩)] W fun e W' => e = .returned (.tuple #[taskV x.run x.kind x.id, .bool true]) ∧ HeldX w W' q xs X ∧ Tch (fun k => ¬ X k) W W' := by
  obtain ⟨hE, ⟨bm, ys, hq, hm, hf⟩, hlow⟩ := h
  cases ys with
  | nil => simp at hm
  | cons y ys =>
    simp only [List.map_cons, List.cons.injEq] at hm
    obtain ⟨rfl, rfl⟩ := hm
    refine (take_yes W q 0 bm y ys hq).mono ?_
    rintro e W' ⟨rfl, hq', ht, -⟩
    exact ⟨rfl, ⟨ext_foot hE ht fun k hk => (hf k hk).1, ⟨bm, ys, hq', rfl, fun k hk => hf k (foot_cons hk)⟩, fun k hk => Nat.lt_of_lt_of_le (hlow k hk) ht.size⟩, ht.mono fun k hk _ => (hf k hk).2⟩
theorem heldx_remove {w W : World} {q : Nat} {xs : List It} {X : Nat → Prop} (h : HeldX w W q xs X) (r k i : Int) (hok : TaskOk r k i) :
    Calls Try.prog 11 #[.pointer (some ⟨q, 0, none⟩), taskV r k i] W fun e W' => e = .returned (.bool (xs.any (isK · r k i))) ∧ HeldX w W' q (others xs r k i) X ∧ Tch (fun k => ¬ X k) W W' := by
  have h' := h
  obtain ⟨hE, ⟨bm, ys, hq, rfl, hf⟩, hlow⟩ := h
  rw [any_it, others_map]
  cases he : look ys r k i with
  | none =>
    have hn := look_none he
    rw [hn]
    have hfl : (ys.filter fun e => !isT e r k i) = ys := List.filter_eq_self.2 (fun a ha => by
      have := (List.any_eq_false.1 hn) a ha
      simpa using this)
    rw [hfl]
    refine (remove_no W q 0 bm ys r k i hq hok he).mono ?_
    rintro e W' ⟨rfl, h1⟩
    exact ⟨rfl, h'.keep h1, Tch.of_ext h1⟩
  | some e =>
    obtain ⟨hm, rfl, rfl, rfl⟩ := look_some he
    obtain ⟨l, r, rfl⟩ := List.append_of_mem hm
    have hany : (l ++ e :: r).any (isT · e.run e.kind e.id) = true := by
      rw [List.any_eq_true]; exact ⟨e, hm, isT_iff.2 ⟨rfl, rfl, rfl⟩⟩
    rw [hany, filter_at hq.apart]
    refine (remove_yes W q 0 bm l r e hq).mono ?_
    rintro e' W' ⟨rfl, hq', ht, -⟩
    refine ⟨rfl, ⟨ext_foot hE ht fun k hk => (hf k hk).1, ⟨bm, _, hq', rfl, fun k hk => hf k ?_⟩, fun k hk => Nat.lt_of_lt_of_le (hlow k hk) ht.size⟩, ht.mono fun k hk _ => (hf k hk).2⟩
    rcases hk with hk | hk | hk
    · exact Or.inl hk
    · exact Or.inr (Or.inl hk)
    · refine Or.inr (Or.inr ?_)
      simp only [blks, List.map_append, List.mem_append, List.map_cons, List.mem_cons] at hk ⊢
      rcases hk with hk | hk
      · exact Or.inl hk
      · exact Or.inr (Or.inr hk)
end Go.Proofs.Ytkpdhciomfanoaa
