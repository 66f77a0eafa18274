/- A row of leases in a block: one of them is stored anew; the tail is cleared. -/
import Derived.Test.YtadmfoglajhdcaaMPoll
import Derived.Deep.MidRow
import Derived.Lib.SliceRun
namespace Go.Proofs.Ytadmfoglajhdcaa
set_option maxRecDepth 4000
set_option linter.unusedVariables false
set_option linter.unusedSimpArgs false
open Go Go.RowKit Go.Maps Go.ChangeMaps Go.MapKept
structure LRow (W : World) (g c : Nat) (xs : List Ls) : Prop where
  blk : ∃ cur, Blk W g 56 cur ∧ cur.size = c * 6
  le : xs.length ≤ c
  max : c ≤ maxLen
  at_ : W.rangeAt g 0 (flatL xs)
theorem LRow.of_own {W : World} {base g n c : Nat} {xs : List Ls} (h : W.ownsRow base 56 6 (.slice (some ⟨g, 0, none⟩) n c) n (flatL xs)) (hn : n = xs.length) : LRow W g c xs := by
  have hc := h.cells (g := g) rfl
  rcases h.2 with ⟨hv, _⟩ | ⟨g', cap, cur, hv, _, hb, hl, hm, hs, ht⟩
  · cases hv
  · injection hv with h1 h2 h3
    injection h1 with h1
    injection h1 with h1
    subst h1 h3
    refine ⟨⟨cur, hb, hs⟩, by omega, hm, fun j v hj => ?_⟩
    have := hc j v hj
    rwa [Go.WideShapes.add_plain] at this
theorem LRow.own {W : World} {g c n : Nat} {xs : List Ls} (h : LRow W g c xs) (hn : n = xs.length) : W.ownsRow 0 56 6 (.slice (some ⟨g, 0, none⟩) n c) n (flatL xs) := by
  obtain ⟨⟨cur, hb, hs⟩, hl, hm, hat⟩ := h
  have fl := flatL_length xs
  refine ⟨by rw [fl, hn], Or.inr ⟨g, c, cur, rfl, Nat.zero_le _, hb, by omega, hm, hs, ?_⟩⟩
  have hsz : cur.toList.length = c * 6 := by simpa using hs
  have hle : n * 6 ≤ c * 6 := Nat.mul_le_mul_right 6 (by omega)
  refine List.ext_getElem (by rw [List.length_take, hsz, fl]; omega) fun i h1 h2 => ?_
  have h3 := hat i _ (List.getElem?_eq_getElem h2)
  rw [Nat.zero_add, hb.cell] at h3
  rw [List.getElem_take]
  have h4 : i < cur.size := by rw [hs]; omega
  rw [Array.getElem?_eq_getElem h4] at h3
  simpa using Option.some.inj h3
theorem LRow.at {W : World} {g c n : Nat} {a b xs : List Ls} {l : Ls} (h : LRow W g c xs) (hx : xs = a ++ l :: b) (ha : n = a.length) : LCells W g (n * 6) l := by
  subst hx ha
  have fl := flatL_length a
  have key : ∀ j u, (lsC l)[j]? = some u → W.cell? ⟨g, a.length * 6 + j, none⟩ = some u := by
    intro j u hj
    have := h.at_ (a.length * 6 + j) u (by
      rw [flatL_append, flatL_cons, List.getElem?_append_right (by omega), fl, show a.length * 6 + j - a.length * 6 = j by omega, List.getElem?_append_left (by have := (List.getElem?_eq_some_iff.1 hj).1; exact this)]
      exact hj)
    simpa using this
  exact ⟨key 0 _ rfl, key 1 _ rfl, key 2 _ rfl, key 3 _ rfl, key 4 _ rfl, key 5 _ rfl⟩
theorem blk_setCells {g : Nat} {T : TypeId} : ∀ (vs : List Value) (o : Nat) (w : World) (cur : Array Value), Blk w g T cur → ∃ cur', Blk (w.setCells g o vs) g T cur' ∧ cur'.size = cur.size
  | [], _, _, cur, h => ⟨cur, h, rfl⟩
  | v :: vs, o, w, cur, h => by
    obtain ⟨c2, h1, h2⟩ := blk_setCells vs (o + 1) _ _ (h.set_ o v)
    exact ⟨c2, h1, by simpa using h2⟩
theorem tch_setCells {g : Nat} : ∀ (vs : List Value) (o : Nat) (w : World), Tch (fun k => k = g) w (w.setCells g o vs)
  | [], _, w => Tch.refl _ w
  | v :: vs, o, w => by
    have h1 : Tch (fun k => k = g) w (w.setCell ⟨g, o, none⟩ v) := ((Tch.refl (fun k => k = g) w).setCell (p := ⟨g, o, none⟩) (fun _ => rfl) v : Tch (fun k => k = g) w (w.setCell ⟨g, o, none⟩ v))
    exact h1.trans (tch_setCells vs (o + 1) _) (fun _ h _ => h)
theorem LRow.there {W : World} {g c o n : Nat} {xs : List Ls} (h : LRow W g c xs) (hl : o + n ≤ c * 6) : W.there g o n := by
  obtain ⟨⟨cur, hb, hs⟩, _, _, _⟩ := h
  intro j hj
  refine ⟨?_, hb.frozen _⟩
  rw [hb.cell, Array.getElem?_eq_getElem (by omega)]
  rfl
/-- so many leases in the middle are others -/
theorem LRow.put {W : World} {g c o : Nat} {a b m m' : List Ls} (h : LRow W g c (a ++ (m ++ b))) (hm : m'.length = m.length) (ho : o = a.length * 6) : LRow (W.setCells g o (flatL m')) g c (a ++ (m' ++ b)) := by
  subst ho
  have fa := flatL_length a
  have fm := flatL_length m
  have fm' := flatL_length m'
  have hl := h.le
  simp only [List.length_append] at hl
  have hth := h.there (o := a.length * 6) (n := (flatL m').length) (by rw [fm', hm]; omega)
  obtain ⟨⟨cur, hb, hs⟩, _, hmx, hat⟩ := h
  obtain ⟨c2, h1, h2⟩ := blk_setCells (flatL m') (a.length * 6) W cur hb
  refine ⟨⟨c2, h1, h2.trans hs⟩, by simp only [List.length_append]; omega, hmx, fun j v hj => ?_⟩
  rw [flatL_append, flatL_append] at hj hat
  rw [Nat.zero_add]
  have hat' : ∀ j v, (flatL a ++ (flatL m ++ flatL b))[j]? = some v → W.cell? ⟨g, j, none⟩ = some v := fun j v hj => by simpa using hat j v hj
  rcases Nat.lt_or_ge j (a.length * 6) with h3 | h3
  · rw [World.cell?_setCells_out g _ _ _ _ (fun _ _ => Or.inl h3)]
    rw [List.getElem?_append_left (by omega)] at hj
    exact hat' j v (by rw [List.getElem?_append_left (by omega)]; exact hj)
  · rw [List.getElem?_append_right (by omega), fa] at hj
    rcases Nat.lt_or_ge j (a.length * 6 + (flatL m').length) with h4 | h4
    · obtain ⟨i, rfl⟩ : ∃ i, j = a.length * 6 + i := ⟨j - a.length * 6, by omega⟩
      have hi : i < (flatL m').length := by omega
      rw [World.cell?_setCells_in g _ _ _ (fun i hi => (hth i hi).1) i hi]
      rw [show a.length * 6 + i - a.length * 6 = i by omega, List.getElem?_append_left hi, List.getElem?_eq_getElem hi] at hj
      exact hj
    · rw [World.cell?_setCells_out g _ _ _ _ (fun _ _ => Or.inr h4)]
      rw [List.getElem?_append_right (by omega)] at hj
      refine hat' j v ?_
      rw [List.getElem?_append_right (by omega), List.getElem?_append_right (by omega), fa, fm]
      rw [fm', hm] at hj
      exact hj
theorem LRow.keep {W W' : World} {g c : Nat} {xs : List Ls} (h : LRow W g c xs) (e : W'.heap[g]? = W.heap[g]?) : LRow W' g c xs := by
  obtain ⟨⟨cur, hb, hs⟩, h1, h2, h3⟩ := h
  refine ⟨⟨cur, hb.of_eq e, hs⟩, h1, h2, fun j v hj => ?_⟩
  have h4 := h3 j v hj
  rw [hb.cell] at h4
  rw [(hb.of_eq e).cell]
  exact h4
theorem LRow.lt {W : World} {g c : Nat} {xs : List Ls} (h : LRow W g c xs) : g < W.heap.size := by
  obtain ⟨⟨cur, hb, _⟩, _⟩ := h
  exact hb.lt
theorem LRow.ext {W W' : World} {g c : Nat} {xs : List Ls} (h : LRow W g c xs) (hE : Ext W W') : LRow W' g c xs := h.keep (hE.block g h.lt)
theorem LRow.pre {W : World} {g c : Nat} {a b : List Ls} (h : LRow W g c (a ++ b)) : LRow W g c a := by
  obtain ⟨h0, h1, h2, h3⟩ := h
  simp only [List.length_append] at h1
  refine ⟨h0, by omega, h2, fun j v hj => h3 j v ?_⟩
  rw [flatL_append, List.getElem?_append_left (List.getElem?_eq_some_iff.1 hj).1]
  exact hj
theorem flatL_oneC (xs : List Ls) : ((flatL xs).toArray).all (·.oneCell') = true := all_oneCell_toArray (fun v hv => flatL_one v hv)
theorem zero_cells (n : Nat) : (Builtin.zeroCells (lsA zeroL) n).toList = flatL (List.replicate n zeroL) := by
  have h6 : (lsA zeroL).size = 6 := rfl
  have h0 : (Builtin.zeroCells (lsA zeroL) n).toList = (List.range (n * 6)).map fun i => (lsA zeroL)[i % 6]! := by simp [Builtin.zeroCells, h6]
  rw [h0]
  clear h0
  induction n with
  | zero => rfl
  | succ n ih =>
    rw [List.replicate_succ, flatL_cons, ← ih, show (n + 1) * 6 = 6 + n * 6 by omega, List.range_add, List.map_append, List.map_map]
    congr 1
    refine List.map_congr_left fun i _ => ?_
    show (lsA zeroL)[(6 + i) % 6]! = _
    rw [Nat.add_mod_left]
theorem zero_lease (w : World) : (zeroValue 56).run Try.prog w = .ok (.agg (lsA zeroL)) w := by
  obtain ⟨i, h0, h1, h2, h3⟩ := info_parts6 lsInfo
  simp [zeroValue, typeInfo, h0, h1]
/-- clear, of a part of such a row -/
theorem run_clear6 (w : World) (ty : TypeId) (g o n c : Nat) (hn : 0 < n) (h : w.there g o (n * 6)) :
    (Builtin.clear_ #[39] ty #[.slice (some ⟨g, o, none⟩) n c]).run Try.prog w = .ok (.tuple #[]) (w.setCells g o (flatL (List.replicate n zeroL))) := by
  have hl : (flatL (List.replicate n zeroL)).length = n * 6 := by rw [flatL_length, List.length_replicate]
  have hst := run_storeCells_cells (P := Try.prog) g o (flatL (List.replicate n zeroL)) 0 w (fun j hj => by simpa using (h j (by omega)).1) (fun j hj => by simpa using (h j (by omega)).2) (fun v hv => flatL_one v hv)
  simp only [Nat.add_zero] at hst
  obtain ⟨k, rfl⟩ : ∃ k, n = k + 1 := ⟨n - 1, by omega⟩
  have hz : (Builtin.zeroCells #[.int .u64 0, .int .i64 0, .int .i64 0, .int .i64 0, .int .i64 0, .int .i64 0] (k + 1)).toList = flatL (List.replicate (k + 1) zeroL) := zero_cells (k + 1)
  have hv : ∀ w, (zeroValue 56).run Try.prog w = .ok (.agg #[.int .u64 0, .int .i64 0, .int .i64 0, .int .i64 0, .int .i64 0, .int .i64 0]) w := zero_lease
  simp [Builtin.clear_, run_underlying Try.underlying39, hv, Value.cells, hz, hst]
end Go.Proofs.Ytadmfoglajhdcaa
