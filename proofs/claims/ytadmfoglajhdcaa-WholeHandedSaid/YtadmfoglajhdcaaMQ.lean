/- Queues that lie at an offset in a block: what they hold, as a list; each call's step. -/
import Derived.Test.YtadmfoglajhdcaaQDrop
import Derived.Test.YtadmfoglajhdcaaSep
namespace Go.Proofs.Ytadmfoglajhdcaa
set_option maxRecDepth 4000
set_option linter.unusedVariables false
set_option linter.unusedSimpArgs false
open Go Go.RowKit Go.Maps Go.ChangeMaps Go.MapKept
/-- a task that waits: run, kind, id, since -/
structure It where
  run : Int
  kind : Int
  id : Int
  since : Int
def Ent.it (e : Ent) : It := ⟨e.run, e.kind, e.id, e.since⟩
def isK (x : It) (r k i : Int) : Bool := x.run == r && x.kind == k && x.id == i
theorem isK_iff {x : It} {r k i : Int} : isK x r k i = true ↔ x.run = r ∧ x.kind = k ∧ x.id = i := by simp [isK, and_assoc]
theorem any_it (ys : List Ent) (r k i : Int) : (ys.map Ent.it).any (isK · r k i) = ys.any (isT · r k i) := by
  rw [List.any_map]; rfl
theorem find_it (ys : List Ent) (r k i : Int) : (ys.map Ent.it).find? (isK · r k i) = (look ys r k i).map Ent.it := by
  unfold look
  rw [List.find?_map]; rfl
def others (xs : List It) (r k i : Int) : List It := xs.filter fun x => !isK x r k i
theorem others_map (ys : List Ent) (r k i : Int) : others (ys.map Ent.it) r k i = (ys.filter fun e => !isT e r k i).map Ent.it := by
  unfold others; rw [List.filter_map]; rfl
theorem filter_at {l r : List Ent} {e : Ent} (h : Apart (l ++ e :: r)) : (l ++ e :: r).filter (fun x => !isT x e.run e.kind e.id) = l ++ r := by
  unfold Apart at h
  rw [List.pairwise_append] at h
  obtain ⟨_, h2, h3⟩ := h
  rw [List.pairwise_cons] at h2
  have he : isT e e.run e.kind e.id = true := isT_iff.2 ⟨rfl, rfl, rfl⟩
  rw [List.filter_append, List.filter_cons, he]
  simp only [Bool.not_true, Bool.false_eq_true, if_false]
  rw [List.filter_eq_self.2 (fun a ha => by rw [h3 a ha e (by simp)]; rfl), List.filter_eq_self.2 (fun b hb => by rw [isT_symm (h2.1 b hb)]; rfl)]
def flatIt (xs : List It) : List Value := xs.flatMap fun e => [.int .i64 e.run, .int .i64 e.kind, .int .i64 e.id]
theorem flat_it (ys : List Ent) : flat ys = flatIt (ys.map Ent.it) := by
  unfold flat flatIt
  rw [List.flatMap_map]; rfl
theorem flatIt_length (xs : List It) : (flatIt xs).length = xs.length * 3 := by
  induction xs with
  | nil => rfl
  | cons e xs ih => simp only [flatIt, List.flatMap_cons, List.length_append, List.length_cons, List.length_nil] at *; omega
def restIt (run : Int) (l : List It) : List It := l.filter fun x => !(x.run == run)
theorem rest_it (run : Int) (ys : List Ent) : (rest run ys).map Ent.it = restIt run (ys.map Ent.it) := by
  unfold rest restIt; rw [List.filter_map]; rfl
structure It.Ok (x : It) : Prop where
  key : TaskOk x.run x.kind x.id
  s1 : -9223372036854775808 ≤ x.since
  s2 : x.since ≤ 9223372036854775807
/-- a queue at ⟨q, o⟩; F: the blocks that are its own alone -/
def QP (W : World) (q o : Nat) (xs : List It) (F : Nat → Prop) : Prop := ∃ bm ys, QRep W q o bm ys ∧ ys.map Ent.it = xs ∧ F = fun k => bm = some k ∨ k ∈ blks ys
/-- a call's step -/
def QStep (W W' : World) (q o : Nat) (F : Nat → Prop) (xs' : List It) : Prop :=
  ∃ F', QP W' q o xs' F' ∧ Tch (fun k => k = q ∨ F k) W W' ∧ RowKept q o W W' ∧ ∀ k, F' k → F k ∨ W.heap.size ≤ k
section
variable {W W' : World} {q o : Nat} {xs : List It} {F : Nat → Prop}
theorem QP.keep (h : QP W q o xs F) (hq : W'.heap[q]? = W.heap[q]?) (hk : ∀ k, F k → W'.heap[k]? = W.heap[k]?) : QP W' q o xs F := by
  obtain ⟨bm, ys, h1, h2, rfl⟩ := h
  refine ⟨bm, ys, h1.keep fun k hk' => ?_, h2, rfl⟩
  rcases hk' with rfl | h
  · exact hq
  · exact hk k h
theorem QP.q_lt (h : QP W q o xs F) : q < W.heap.size := by
  obtain ⟨bm, ys, h1, h2, rfl⟩ := h
  exact h1.foot_lt (Or.inl rfl)
theorem QP.lt (h : QP W q o xs F) {k : Nat} (hk : F k) : k < W.heap.size := by
  obtain ⟨bm, ys, h1, h2, rfl⟩ := h
  exact h1.foot_lt (Or.inr hk)
theorem QP.ext (h : QP W q o xs F) (hE : Ext W W') : QP W' q o xs F := h.keep (hE.block _ h.q_lt) fun k hk => hE.block k (h.lt hk)
theorem QP.step_ext (h : QP W q o xs F) (hE : Ext W W') : QStep W W' q o F xs := ⟨F, h.ext hE, Tch.of_ext hE, RowKept.ext hE, fun _ h => Or.inl h⟩
theorem QP.ne (h : QP W q o xs F) {k : Nat} (hk : F k) : k ≠ q := by
  obtain ⟨bm, ys, h1, h2, rfl⟩ := h
  obtain ⟨cs, T, c0, cT, _⟩ := h1.cells
  rintro rfl
  rcases hk with rfl | hk
  · obtain ⟨D, n, _, ⟨es, clock, hb, _⟩, _⟩ := h1.mp
    rw [hb] at c0
    cases c0
  · obtain ⟨cs', hb⟩ := h1.seg.lt _ hk
    have hb' : W.heap[k]? = _ := hb
    rw [c0] at hb'
    injection hb' with hb'
    injection hb' with _ e
    exact cT e
/-- a queue in a row of cells, of which other cells turn -/
theorem QP.row {cs cs' : Array Value} {T : TypeId} (h : QP W q o xs F) (h0 : Blk W q T cs) (h1 : Blk W' q T cs') (hc : ∀ j, o ≤ j → j < o + 3 → cs'[j]? = cs[j]?) (hk : ∀ k, F k → W'.heap[k]? = W.heap[k]?) : QP W' q o xs F := by
  have hne := fun k hk => h.ne (k := k) hk
  obtain ⟨bm, ys, hq, h2, rfl⟩ := h
  refine ⟨bm, ys, ?_, h2, rfl⟩
  obtain ⟨⟨c, T0, g0, g1, g2, g3, g4⟩, hs, hn, ha, ho, hm⟩ := hq
  have e0 : W.heap[q]? = _ := h0
  rw [g0] at e0
  injection e0 with e0
  injection e0 with e1 e2
  subst e1 e2
  refine ⟨⟨cs', T0, h1, g1, (hc o (by omega) (by omega)).trans g2, (hc (o + 1) (by omega) (by omega)).trans g3, (hc (o + 2) (by omega) (by omega)).trans g4⟩, hs.keep fun b hb => hk b (Or.inr hb), hn, ha, ho, ?_⟩
  cases bm with
  | none => exact hm
  | some b =>
    obtain ⟨D, n, hD, ⟨es, clock, hb, r⟩, hnn⟩ := hm
    exact ⟨D, n, hD, ⟨es, clock, (hk b (Or.inl rfl)).trans hb, r⟩, hnn⟩
theorem QP.new {T : TypeId} {cs : Array Value} (h : Blk W q T cs) (hT : T ≠ 87) (h0 : cs[o]? = some (.pointer none)) (h1 : cs[o + 1]? = some (.pointer none)) (h2 : cs[o + 2]? = some (.map none)) : QP W q o [] (fun _ => False) :=
  ⟨none, [], ⟨⟨_, T, h, hT, h0, h1, h2⟩, trivial, by simp [blks], List.Pairwise.nil, fun _ h => absurd h (by simp), rfl⟩, rfl, by funext k; simp [blks]⟩
theorem QP.apart (h : QP W q o xs F) : xs.Pairwise fun a b => isK a b.run b.kind b.id = false := by
  obtain ⟨bm, ys, h1, rfl, rfl⟩ := h
  rw [List.pairwise_map]
  exact h1.apart
theorem QP.ok (h : QP W q o xs F) : ∀ x ∈ xs, x.Ok := by
  obtain ⟨bm, ys, h1, rfl, rfl⟩ := h
  intro x hx
  obtain ⟨e, he, rfl⟩ := List.mem_map.1 hx
  have := h1.ok e he
  exact ⟨this.key, this.s1, this.s2⟩
/-- Add's answer -/
def qaddE (xs : List It) (r k i : Int) : Int := if xs.any (isK · r k i) = true then 5 else if 128 ≤ xs.length then 3 else 0
def qadd (xs : List It) (r k i s : Int) : List It := if xs.any (isK · r k i) = true then xs else if 128 ≤ xs.length then xs else xs ++ [⟨r, k, i, s⟩]
theorem qp_add (h : QP W q o xs F) (r k i s : Int) (hok : It.Ok ⟨r, k, i, s⟩) :
    Calls Try.prog 4 #[.pointer (some ⟨q, o, none⟩), taskV r k i, .int .i64 s] W fun e W' => e = .returned (.int .i64 (qaddE xs r k i)) ∧ QStep W W' q o F (qadd xs r k i s) := by
  have hok' : Ent.Ok ⟨r, k, i, s, 0⟩ := ⟨hok.key, hok.s1, hok.s2⟩
  have h' := h
  obtain ⟨bm, ys, hq, rfl, rfl⟩ := h
  unfold qaddE qadd
  split
  · rename_i hin
    rw [any_it] at hin
    refine (add_twice W q o bm ys r k i s hq hok' hin).mono ?_
    rintro e W' ⟨rfl, h1⟩
    exact ⟨rfl, h'.step_ext h1⟩
  · rename_i hin
    rw [any_it, Bool.not_eq_true] at hin
    split
    · rename_i hf
      refine (add_full W q o bm ys r k i s hq hok' hin (by rw [List.length_map] at hf; omega)).mono ?_
      rintro e W' ⟨rfl, h1⟩
      exact ⟨rfl, h'.step_ext h1⟩
    · rename_i hf
      refine (add_ok W q o bm ys r k i s hq hok' hin (by simp at hf; omega)).mono ?_
      rintro e W' ⟨rfl, bm', b, hb, hq', ht, hr, hbm⟩
      refine ⟨rfl, _, ⟨bm', _, hq', by simp [Ent.it], rfl⟩, ht, hr, fun k hk => ?_⟩
      rcases hk with hk | hk
      · rcases hbm _ hk with h1 | h1
        · exact Or.inl (Or.inl h1)
        · exact Or.inr h1
      · simp only [blks, List.map_append, List.mem_append, List.map_cons, List.map_nil, List.mem_singleton] at hk
        rcases hk with hk | rfl
        · exact Or.inl (Or.inr hk)
        · exact Or.inr hb
theorem qp_has (h : QP W q o xs F) (r k i : Int) (hok : TaskOk r k i) :
    Calls Try.prog 14 #[.pointer (some ⟨q, o, none⟩), taskV r k i] W fun e W' => e = .returned (.bool (xs.any (isK · r k i))) ∧ Ext W W' := by
  obtain ⟨bm, ys, hq, rfl, rfl⟩ := h
  rw [any_it]
  exact has_any W q o bm ys r k i hq hok
def sinceOf (xs : List It) (r k i : Int) : Value := match xs.find? (isK · r k i) with
  | some x => .tuple #[.int .i64 x.since, .bool true]
  | none => .tuple #[.int .i64 0, .bool false]
theorem qp_since (h : QP W q o xs F) (r k i : Int) (x : It) (hok : TaskOk r k i) (hx : xs.find? (isK · r k i) = some x) :
    Calls Try.prog 30 #[.pointer (some ⟨q, o, none⟩), taskV r k i] W fun e W' => e = .returned (.tuple #[.int .i64 x.since, .bool true]) ∧ Ext W W' := by
  obtain ⟨bm, ys, hq, rfl, rfl⟩ := h
  rw [find_it] at hx
  obtain ⟨e, he, rfl⟩ := Option.map_eq_some_iff.1 hx
  exact since_yes W q o bm ys e r k i hq hok he
theorem qp_take_no (h : QP W q o [] F) : Calls Try.prog 29 #[.pointer (some ⟨q, o, none⟩)] W fun e W' => e = .returned (.tuple #[taskV 0 0 0, .bool false]) ∧ Ext W W' := by
  obtain ⟨bm, ys, hq, hm, rfl⟩ := h
  obtain rfl := List.map_eq_nil_iff.1 hm
  exact take_no W q o bm hq
theorem qp_take {x : It} (h : QP W q o (x :: xs) F) : Calls Try.prog 29 #[.pointer (some ⟨q, o, none⟩)] W fun e W' => e = .returned (.tuple #[taskV x.run x.kind x.id, .bool true]) ∧ QStep W W' q o F xs := by
  obtain ⟨bm, ys, hq, hm, rfl⟩ := h
  cases ys with
  | nil => simp at hm
  | cons y ys =>
    simp only [List.map_cons, List.cons.injEq] at hm
    obtain ⟨rfl, rfl⟩ := hm
    refine (take_yes W q o bm y ys hq).mono ?_
    rintro e W' ⟨rfl, hq', ht, hr⟩
    refine ⟨rfl, _, ⟨bm, ys, hq', rfl, rfl⟩, ht, hr, fun k hk => Or.inl ?_⟩
    rcases hk with hk | hk
    · exact Or.inl hk
    · exact Or.inr (by simp only [blks, List.map_cons, List.mem_cons] at hk ⊢; exact Or.inr hk)
theorem qp_remove (h : QP W q o xs F) (r k i : Int) (hok : TaskOk r k i) :
    Calls Try.prog 25 #[.pointer (some ⟨q, o, none⟩), taskV r k i] W fun e W' => e = .returned (.bool (xs.any (isK · r k i))) ∧ QStep W W' q o F (others xs r k i) := by
  have h' := h
  obtain ⟨bm, ys, hq, rfl, rfl⟩ := h
  rw [any_it, others_map]
  cases he : look ys r k i with
  | none =>
    have hn := look_none he
    rw [hn]
    have hfl : (ys.filter fun e => !isT e r k i) = ys := List.filter_eq_self.2 (fun a ha => by
      have := (List.any_eq_false.1 hn) a ha
      simpa using this)
    rw [hfl]
    refine (remove_no W q o bm ys r k i hq hok he).mono ?_
    rintro e W' ⟨rfl, h1⟩
    exact ⟨rfl, h'.step_ext h1⟩
  | some e =>
    obtain ⟨hm, rfl, rfl, rfl⟩ := look_some he
    obtain ⟨l, r, rfl⟩ := List.append_of_mem hm
    have hany : (l ++ e :: r).any (isT · e.run e.kind e.id) = true := by
      rw [List.any_eq_true]; exact ⟨e, hm, isT_iff.2 ⟨rfl, rfl, rfl⟩⟩
    rw [hany, filter_at hq.apart]
    refine (remove_yes W q o bm l r e hq).mono ?_
    rintro e' W' ⟨rfl, hq', ht, hr⟩
    refine ⟨rfl, _, ⟨bm, _, hq', rfl, rfl⟩, ht, hr, fun k hk => Or.inl ?_⟩
    rcases hk with hk | hk
    · exact Or.inl hk
    · refine Or.inr ?_
      simp only [blks, List.map_append, List.mem_append, List.map_cons, List.mem_cons] at hk ⊢
      rcases hk with hk | hk
      · exact Or.inl hk
      · exact Or.inr (Or.inr hk)
theorem qp_list (h : QP W q o xs F) (hlen : xs.length < 1000) :
    Calls Try.prog 20 #[.pointer (some ⟨q, o, none⟩)] W fun e W' => ∃ v, e = .returned v ∧ W'.ownsRow W.heap.size 43 3 v xs.length (flatIt xs) ∧ Ext W W' := by
  obtain ⟨bm, ys, hq, rfl, rfl⟩ := h
  refine (list_any W q o bm ys hq (by simpa using hlen)).mono ?_
  rintro e W' ⟨v, rfl, hown, h1⟩
  rw [flat_it] at hown
  exact ⟨v, rfl, by simpa using hown, h1⟩
theorem qp_drop (h : QP W q o xs F) (run : Int) (hlen : xs.length < 1000) :
    Calls Try.prog 21 #[.pointer (some ⟨q, o, none⟩), .int .i64 run] W fun e W' => e = .returned (.int .i64 (xs.length - (restIt run xs).length)) ∧ QStep W W' q o F (restIt run xs) := by
  obtain ⟨bm, ys, hq, rfl, rfl⟩ := h
  refine (drop_any W q o bm ys run hq (by simpa using hlen)).mono ?_
  rintro e W' ⟨n, rfl, hn, hq', ht, hr⟩
  refine ⟨?_, _, ⟨bm, _, hq', rest_it run ys, rfl⟩, ht, hr, fun k hk => Or.inl ?_⟩
  · congr 2
    rw [← rest_it]
    simp
    omega
  · have := foot_rest (pre := ys) (post := []) (q := q) (bm := bm) (run := run) (k := k) (by rcases hk with h | h; exact Or.inr (Or.inl h); exact Or.inr (Or.inr (by simpa using h)))
    rcases this with h | h | h
    · exfalso
      subst h
      rcases hk with h | h
      · exact (QP.ne ⟨bm, _, hq', rfl, rfl⟩ (Or.inl h)) rfl
      · exact (QP.ne ⟨bm, _, hq', rfl, rfl⟩ (Or.inr h)) rfl
    · exact Or.inl h
    · exact Or.inr (by simpa using h)
end
end Go.Proofs.Ytadmfoglajhdcaa
