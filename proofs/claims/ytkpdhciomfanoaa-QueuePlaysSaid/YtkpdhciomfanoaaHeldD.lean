/- A queue of the law's own: a run's tasks are dropped; two queues side by side. -/
import Derived.Test.YtkpdhciomfanoaaHeldY
import Derived.Test.YtkpdhciomfanoaaQDrop
namespace Go.Proofs.Ytkpdhciomfanoaa
set_option linter.unusedVariables false
set_option linter.unusedSimpArgs false
open Go Go.RowKit Go.Maps Go.ChangeMaps Go.MapKept
def restIt (run : Int) (l : List It) : List It := l.filter fun x => !(x.run == run)
theorem rest_it (run : Int) (ys : List Ent) : (rest run ys).map Ent.it = restIt run (ys.map Ent.it) := by
  unfold rest restIt; rw [List.filter_map]; rfl
theorem restIt_twice (run : Int) (l : List It) : restIt run (restIt run l) = restIt run l := by
  unfold restIt; rw [List.filter_filter]; congr 1; funext x; simp
theorem heldx_drop {w W : World} {q : Nat} {xs : List It} {X : Nat → Prop} (h : HeldX w W q xs X) (run : Int) (hlen : xs.length < 1000) :
    Calls Try.prog 12 #[.pointer (some ⟨q, 0, none⟩), .int .i64 run] W fun e W' => e = .returned (.int .i64 (xs.length - (restIt run xs).length)) ∧ HeldX w W' q (restIt run xs) X ∧ Tch (fun k => ¬ X k) W W' := by
  obtain ⟨hE, ⟨bm, ys, hq, rfl, hf⟩, hlow⟩ := h
  refine (drop_any W q 0 bm ys run hq (by simpa using hlen)).mono ?_
  rintro e W' ⟨n, rfl, hn, hq', ht, -⟩
  refine ⟨?_, ⟨ext_foot hE ht fun k hk => (hf k hk).1, ⟨bm, _, hq', rest_it run ys, fun k hk => hf k ?_⟩, fun k hk => Nat.lt_of_lt_of_le (hlow k hk) ht.size⟩, ht.mono fun k hk _ => (hf k hk).2⟩
  · congr 2
    rw [← rest_it]
    simp
    omega
  · have := foot_rest (pre := ys) (post := []) (q := q) (bm := bm) (run := run) (k := k) (by simpa using hk)
    simpa using this
/-- two queues side by side, and blocks (Z) that neither of them holds -/
def Two (w W : World) (qa qb : Nat) (xs ys : List It) (Z : Nat → Prop) : Prop :=
  ∃ bm fs, HeldX w W qa xs (fun k => Foot qb bm fs k ∨ Z k) ∧ QRep W qb 0 bm fs ∧ fs.map Ent.it = ys ∧ ∀ k, Foot qb bm fs k → w.heap.size ≤ k ∧ ¬ Z k
section
variable {w W W' : World} {qa qb : Nat} {xs ys xs' : List It} {Z : Nat → Prop}
theorem Two.ext (h : Two w W qa qb xs ys Z) : Ext w W := by obtain ⟨_, _, h, _⟩ := h; exact h.ext
theorem Two.swap (h : Two w W qa qb xs ys Z) : Two w W qb qa ys xs Z := by
  obtain ⟨bm, fs, ⟨hE, ⟨bma, es, hqa, hma, hfa⟩, hlow⟩, hqb, hmb, hfb⟩ := h
  refine ⟨bma, es, ⟨hE, ⟨bm, fs, hqb, hmb, fun k hk => ⟨(hfb k hk).1, ?_⟩⟩, ?_⟩, hqa, hma, fun k hk => ⟨(hfa k hk).1, fun hz => (hfa k hk).2 (Or.inr hz)⟩⟩
  · rintro (hk' | hz)
    · exact (hfa k hk').2 (Or.inl hk)
    · exact (hfb k hk).2 hz
  · rintro k (hk | hz)
    · exact hqa.foot_lt hk
    · exact hlow k (Or.inr hz)
theorem Two.keep (h : Two w W qa qb xs ys Z) (hE : Ext W W') : Two w W' qa qb xs ys Z := by
  obtain ⟨bm, fs, hx, hqb, hmb, hfb⟩ := h
  exact ⟨bm, fs, hx.keep hE, hqb.ext hE, hmb, hfb⟩
theorem Two.less (h : Two w W qa qb xs ys Z) : Two w W qa qb xs ys (fun _ => False) := by
  obtain ⟨bm, fs, ⟨hE, ⟨bma, es, hqa, hma, hfa⟩, hlow⟩, hqb, hmb, hfb⟩ := h
  exact ⟨bm, fs, ⟨hE, ⟨bma, es, hqa, hma, fun k hk => ⟨(hfa k hk).1, fun h => h.elim (fun h => (hfa k hk).2 (Or.inl h)) id⟩⟩, fun k h => h.elim (fun h => hlow k (Or.inl h)) False.elim⟩, hqb, hmb, fun k hk => ⟨(hfb k hk).1, id⟩⟩
/-- a block that was made just now -/
theorem Two.box (h : Two w W qa qb xs ys (fun _ => False)) (hE : Ext W W') {z : Nat} (hz : W.heap.size ≤ z) (hz' : z < W'.heap.size) : Two w W' qa qb xs ys (fun k => k = z) := by
  obtain ⟨bm, fs, ⟨hE0, ⟨bma, es, hqa, hma, hfa⟩, hlow⟩, hqb, hmb, hfb⟩ := h
  refine ⟨bm, fs, ⟨hE0.trans hE, ⟨bma, es, hqa.ext hE, hma, fun k hk => ⟨(hfa k hk).1, ?_⟩⟩, ?_⟩, hqb.ext hE, hmb, fun k hk => ⟨(hfb k hk).1, ?_⟩⟩
  · rintro (h | rfl)
    · exact (hfa k hk).2 (Or.inl h)
    · have := hqa.foot_lt hk; omega
  · rintro k (h | rfl)
    · exact Nat.lt_of_lt_of_le (hqb.foot_lt h) hE.le
    · exact hz'
  · rintro rfl
    have := hqb.foot_lt hk; omega
theorem Two.act {P : Program} {f : FuncId} {args : Array Value} {R : Ending → Prop} (h : Two w W qa qb xs ys Z)
    (hc : ∀ X, HeldX w W qa xs X → Calls P f args W fun e W' => R e ∧ HeldX w W' qa xs' X ∧ Tch (fun k => ¬ X k) W W') :
    Calls P f args W fun e W' => R e ∧ Two w W' qa qb xs' ys Z ∧ (∀ k, Z k → W'.heap[k]? = W.heap[k]?) := by
  obtain ⟨bm, fs, hx, hqb, hmb, hfb⟩ := h
  refine (hc _ hx).mono ?_
  rintro e W' ⟨hR, hx', ht⟩
  exact ⟨hR, ⟨bm, fs, hx', hqb.tch ht (fun k hk hn => hn (Or.inl hk)), hmb, hfb⟩, fun k hz => ht.block k (hx.low k (Or.inr hz)) (fun hn => hn (Or.inr hz))⟩
theorem two_new {T T' : TypeId} {a : Nat} (hE : Ext w W) (ha : w.heap.size ≤ a) (h : Blk W a T #[.pointer none, .pointer none, .map none]) (hT : T ≠ 61) (h' : Blk W (a + 1) T' #[.pointer none, .pointer none, .map none]) (hT' : T' ≠ 61) :
    Two w W a (a + 1) [] [] (fun _ => False) := by
  refine ⟨none, [], heldx_new hE ha h hT fun k hk => ?_, qrep_new h' hT', rfl, fun k hk => ?_⟩
  · rcases hk with (rfl | hk | hk) | hk
    · exact ⟨h'.lt, by omega⟩
    · cases hk
    · simp [blks] at hk
    · exact hk.elim
  · rcases hk with rfl | hk | hk
    · exact ⟨by omega, id⟩
    · cases hk
    · simp [blks] at hk
end
theorem ents_of : ∀ l : List It, ∃ xs : List Ent, xs.map Ent.it = l
  | [] => ⟨[], rfl⟩
  | x :: l => by
    obtain ⟨xs, h⟩ := ents_of l
    exact ⟨⟨x.run, x.kind, x.id, x.since, 0⟩ :: xs, by rw [List.map_cons, h]; rfl⟩
theorem flatIt_cell {w : World} {base L : Nat} {p : Option Addr} {c : Nat} {pre post : List It} {e : It} (hL : L = (pre ++ e :: post).length) (h : w.ownsRow base 32 3 (.slice p L c) L (flatIt (pre ++ e :: post))) :
    ∃ g, p = some ⟨g, 0, none⟩ ∧ base ≤ g ∧ g < w.heap.size ∧ w.cell? ⟨g, pre.length * 3, none⟩ = some (.int .i64 e.run) ∧ w.cell? ⟨g, pre.length * 3 + 1, none⟩ = some (.int .i64 e.kind) ∧ w.cell? ⟨g, pre.length * 3 + 2, none⟩ = some (.int .i64 e.id) := by
  obtain ⟨xs, hxs⟩ := ents_of (pre ++ e :: post)
  obtain ⟨p', r', hxs', h1, h2⟩ := List.map_eq_append_iff.1 hxs
  obtain ⟨e', r2, rfl, h3, h4⟩ := List.map_eq_cons_iff.1 h2
  subst hxs'
  rw [← hxs, ← flat_it] at h
  have := flat_cell (by rw [hL, ← hxs]; simp) h
  subst h1 h3
  simpa [Ent.it] using this
end Go.Proofs.Ytkpdhciomfanoaa
