/- Things with ticks in a row of a law's own. -/
import Derived.Test.YtnbdcdeidhhgoaaDoorHMap
import Derived.Test.YtnbdcdeidhhgoaaDoorDKit
import Derived.Deep.MidRow
namespace Go.Proofs.YtnbdcdeidhhgoaaDoor
set_option maxRecDepth 4000
set_option linter.unusedVariables false
set_option linter.unusedSimpArgs false
open Go Go.RowKit
/-- a thing: whose it is, of which kind, its number, its tick, and the number that it got -/
structure It where
  run : Int
  kind : Int
  id : Int
  due : Int
  seq : Nat
def It.key (t : It) : HK := (t.run, t.kind, t.id)
def It.cells (t : It) : List Value := [.int .i64 t.run, .int .i64 t.kind, .int .i64 t.id, .int .i64 t.due, .int .u64 t.seq]
structure It.Ok (t : It) : Prop where
  key : KeyOk t.key
  d1 : -9223372036854775808 ≤ t.due
  d2 : t.due ≤ 9223372036854775807
  s : t.seq < 18446744073709551616
def itC (xs : List It) : List Value := xs.flatMap It.cells
theorem itC_length : ∀ xs : List It, (itC xs).length = xs.length * 5
  | [] => rfl
  | x :: xs => by
    show (x.cells ++ itC xs).length = (xs.length + 1) * 5
    rw [List.length_append, itC_length xs]
    show 5 + _ = _
    omega
theorem itC_get : ∀ (xs : List It) (i j : Nat) (h : i < xs.length), j < 5 → (itC xs)[i * 5 + j]? = xs[i].cells[j]?
  | x :: xs, 0, j, _, hj => by
    show (x.cells ++ itC xs)[0 * 5 + j]? = x.cells[j]?
    rw [List.getElem?_append_left (by show 0 * 5 + j < 5; omega)]
    congr 1; omega
  | x :: xs, i + 1, j, h, hj => by
    show (x.cells ++ itC xs)[(i + 1) * 5 + j]? = (x :: xs)[i + 1].cells[j]?
    rw [List.getElem?_append_right (by show 5 ≤ (i + 1) * 5 + j; omega), show (i + 1) * 5 + j - x.cells.length = i * 5 + j by show (i + 1) * 5 + j - 5 = _; omega]
    exact itC_get xs i j (by simpa using h) hj
theorem itC_append (a b : List It) : itC (a ++ b) = itC a ++ itC b := by simp [itC]
theorem itC_take : ∀ (xs : List It) (k : Nat), (itC xs).take (k * 5) = itC (xs.take k)
  | [], k => by simp [itC]
  | x :: xs, 0 => by simp [itC]
  | x :: xs, k + 1 => by
    show (x.cells ++ itC xs).take ((k + 1) * 5) = x.cells ++ itC (xs.take k)
    rw [List.take_append, ← itC_take xs k]
    have e : x.cells.length = 5 := rfl
    rw [e, List.take_of_length_le (by rw [e]; omega), show (k + 1) * 5 - 5 = k * 5 by omega]
theorem itC_ext {xs : List It} {l : List Value} (hl : l.length = xs.length * 5) (h : ∀ i j (hi : i < xs.length), j < 5 → l[i * 5 + j]? = xs[i].cells[j]?) : l = itC xs := by
  apply List.ext_getElem?
  intro k
  by_cases hk : k < xs.length * 5
  · have h1 := h (k / 5) (k % 5) (by omega) (by omega)
    have h2 := itC_get xs (k / 5) (k % 5) (by omega) (by omega)
    rw [show k / 5 * 5 + k % 5 = k by omega] at h1 h2
    rw [h1, h2]
  · rw [List.getElem?_eq_none (by omega), List.getElem?_eq_none (by rw [itC_length]; omega)]
theorem itC_one (xs : List It) : ∀ u ∈ itC xs, u.oneCell' = true := by
  intro u hu
  obtain ⟨x, _, hx⟩ := List.mem_flatMap.1 hu
  simp [It.cells] at hx
  rcases hx with rfl | rfl | rfl | rfl | rfl <;> rfl
/-- a row of things, with or without cells behind it -/
def itsA (full : Bool) (v : Value) (xs : List It) : Asr := fun W F =>
  ((v = .slice none 0 0 ∧ xs = []) ∨ ∃ g c cur, v = .slice (some ⟨g, 0, none⟩) xs.length c ∧ Blk W g 51 cur ∧ xs.length ≤ c ∧ c ≤ maxLen ∧ c * 5 ≤ cur.size ∧ (full = true → cur.size = c * 5) ∧ cur.toList.take (xs.length * 5) = itC xs) ∧ F = fun k => v.ownBlock = some k
theorem itsA_loc (full : Bool) (v : Value) (xs : List It) : Loc (itsA full v xs) :=
  ⟨fun h hk => by
    obtain ⟨h1, rfl⟩ := h
    refine ⟨h1.imp id fun ⟨g, c, cur, e, hb, h2⟩ => ⟨g, c, cur, e, hb.of_eq (hk g (by rw [e]; rfl)), h2⟩, rfl⟩, fun h hk => by
    obtain ⟨h1, rfl⟩ := h
    rcases h1 with ⟨rfl, _⟩ | ⟨g, c, cur, rfl, hb, _⟩
    · cases hk
    · injection hk with hk
      subst hk
      exact hb.lt⟩
theorem its_of_row {W : World} {F : Nat → Prop} {v : Value} {xs : List It} (h : rowA 51 5 v xs.length (itC xs) W F) : itsA true v xs W F := by
  obtain ⟨⟨h1, h2⟩, rfl⟩ := h
  refine ⟨?_, rfl⟩
  rcases h2 with ⟨rfl, h0⟩ | ⟨g, c, cur, rfl, _, hb, h3, h4, h5, h6⟩
  · exact Or.inl ⟨rfl, List.length_eq_zero_iff.1 h0⟩
  · exact Or.inr ⟨g, c, cur, rfl, hb, h3, h4, by omega, fun _ => h5, h6⟩
theorem row_of_its {W : World} {F : Nat → Prop} {v : Value} {xs : List It} (h : itsA true v xs W F) : rowA 51 5 v xs.length (itC xs) W F := by
  obtain ⟨h1, rfl⟩ := h
  refine ⟨⟨itC_length xs, ?_⟩, rfl⟩
  rcases h1 with ⟨rfl, rfl⟩ | ⟨g, c, cur, rfl, hb, h3, h4, h5, h6, h7⟩
  · exact Or.inl ⟨rfl, rfl⟩
  · exact Or.inr ⟨g, c, cur, rfl, Nat.zero_le _, hb, h3, h4, h6 rfl, h7⟩
theorem its_slice {W : World} {F : Nat → Prop} {full : Bool} {v : Value} {xs : List It} (h : itsA full v xs W F) : ∃ p c, v = .slice p xs.length c ∧ xs.length ≤ maxLen := by
  rcases h.1 with ⟨rfl, rfl⟩ | ⟨g, c, cur, rfl, _, h1, h2, _⟩
  · exact ⟨none, 0, rfl, by simp⟩
  · exact ⟨_, c, rfl, by omega⟩
theorem its_weak {W : World} {F : Nat → Prop} {full : Bool} {v : Value} {xs : List It} (h : itsA full v xs W F) : itsA false v xs W F :=
  ⟨h.1.imp id fun ⟨g, c, cur, e, hb, h1, h2, h3, _, h5⟩ => ⟨g, c, cur, e, hb, h1, h2, h3, (fun e => by cases e), h5⟩, h.2⟩
theorem its_some {W : World} {F : Nat → Prop} {full : Bool} {v : Value} {xs : List It} (h : itsA full v xs W F) (hn : 0 < xs.length) : ∃ g c, v = .slice (some ⟨g, 0, none⟩) xs.length c ∧ g < W.heap.size ∧ xs.length ≤ c := by
  rcases h.1 with ⟨rfl, rfl⟩ | ⟨g, c, cur, rfl, hb, h1, _⟩
  · simp at hn
  · exact ⟨g, c, rfl, hb.lt, h1⟩
theorem its_cell {W : World} {F : Nat → Prop} {full : Bool} {g n c : Nat} {xs : List It} (h : itsA full (.slice (some ⟨g, 0, none⟩) n c) xs W F) (i : Nat) (hi : i < xs.length) (j : Nat) (hj : j < 5) : W.cell? ⟨g, i * 5 + j, none⟩ = xs[i].cells[j]? := by
  rcases h.1 with ⟨e, _⟩ | ⟨g', c', cur, e, hb, h1, h2, h3, _, h5⟩
  · cases e
  · injection e with e _ _
    injection e with e
    injection e with e _ _
    subst e
    rw [Blk.cell hb, ← itC_get xs i j hi hj, ← h5, List.getElem?_take, if_pos (by omega), Array.getElem?_toList]
theorem its_range {W : World} {F : Nat → Prop} {full : Bool} {g n c : Nat} {xs : List It} (h : itsA full (.slice (some ⟨g, 0, none⟩) n c) xs W F) (i : Nat) (hi : i < xs.length) : W.rangeAt g (i * 5) xs[i].cells := by
  intro j v hv
  have hj : j < 5 := (List.getElem?_eq_some_iff.1 hv).1
  rw [its_cell h i hi j hj, hv]
/-- cells of a block, set one by one -/
def setL (cs : Array Value) : Nat → List Value → Array Value
  | _, [] => cs
  | o, v :: r => setL (cs.setIfInBounds o v) (o + 1) r
theorem setL_size : ∀ (vs : List Value) (cs : Array Value) (o : Nat), (setL cs o vs).size = cs.size
  | [], _, _ => rfl
  | v :: r, cs, o => by rw [setL, setL_size r, Array.size_setIfInBounds]
theorem setL_get : ∀ (vs : List Value) (cs : Array Value) (o k : Nat), o + vs.length ≤ cs.size → (setL cs o vs)[k]? = if o ≤ k ∧ k < o + vs.length then vs[k - o]? else cs[k]?
  | [], cs, o, k, h => by rw [setL, if_neg (by rintro ⟨h1, h2⟩; simp at h2; omega)]
  | v :: r, cs, o, k, h => by
    rw [List.length_cons] at h ⊢
    rw [setL, setL_get r _ _ _ (by rw [Array.size_setIfInBounds]; omega), Array.getElem?_setIfInBounds]
    by_cases h1 : o + 1 ≤ k ∧ k < o + 1 + r.length
    · rw [if_pos h1, if_pos (by omega), show k - o = (k - (o + 1)) + 1 by omega, List.getElem?_cons_succ]
    · rw [if_neg h1]
      by_cases h2 : o = k
      · subst h2
        rw [if_pos rfl, if_pos (by omega), if_pos (by omega), Nat.sub_self, List.getElem?_cons_zero]
      · rw [if_neg h2, if_neg (by omega)]
theorem Blk.setCells {t : TypeId} {g : Nat} : ∀ (vs : List Value) (cs : Array Value) (o : Nat) (W : World), Blk W g t cs → Blk (W.setCells g o vs) g t (setL cs o vs)
  | [], _, _, _, h => h
  | v :: r, cs, o, W, h => by
    rw [World.setCells, setL]
    exact Blk.setCells r _ _ _ (h.set_ o v)
theorem Tch.setCells {S : Nat → Prop} {g : Nat} (hg : S g) {a : World} : ∀ (vs : List Value) (o : Nat) (b : World), Tch S a b → Tch S a (b.setCells g o vs)
  | [], _, _, h => h
  | v :: r, o, b, h => by
    rw [World.setCells]
    exact Tch.setCells hg r _ _ (h.setCell (fun _ => hg) v)
theorem its_set {w W : World} {ps : List Asr} {full : Bool} {g n c : Nat} {xs : List It} (h : Has w W (itsA full (.slice (some ⟨g, 0, none⟩) n c) xs :: ps)) (hl : Locs ps) (i : Nat) (hi : i < xs.length) (t : It) :
    W.there g (i * 5) 5 ∧ Has w (W.setCells g (i * 5) t.cells) (itsA full (.slice (some ⟨g, 0, none⟩) n c) (xs.set i t) :: ps) := by
  constructor
  · obtain ⟨F, hF⟩ := h.head
    intro j hj
    refine ⟨by rw [its_cell hF i hi j hj, List.getElem?_eq_getElem (show j < xs[i].cells.length from hj)]; rfl, ?_⟩
    rcases hF.1 with ⟨e, _⟩ | ⟨g', c', cur, e, hb, _⟩
    · cases e
    · injection e with e _ _
      injection e with e
      injection e with e _ _
      subst e
      exact Blk.frozen hb _
  · refine h.next hl fun F hF => ?_
    obtain ⟨h1, rfl⟩ := hF
    rcases h1 with ⟨e, _⟩ | ⟨g', c', cur, e, hb, h2, h3, h4, h5, h6⟩
    · cases e
    · injection e with e e2 e3
      injection e with e
      injection e with e _ _
      subst e e2 e3
      refine ⟨_, ⟨Or.inr ⟨g, c, setL cur (i * 5) t.cells, by rw [List.length_set], Blk.setCells _ _ _ _ hb, by rw [List.length_set]; exact h2, h3, by rw [setL_size]; exact h4, by rw [setL_size]; exact h5, ?_⟩, rfl⟩, Tch.setCells (S := fun k => (Value.slice (some ⟨g, 0, none⟩) xs.length c).ownBlock = some k) rfl _ _ _ (Tch.refl _ _), fun k hk => Or.inl hk⟩
      rw [List.length_set]
      have hsz : xs.length * 5 ≤ cur.size := by have := Nat.mul_le_mul_right 5 h2; omega
      refine itC_ext (xs := xs.set i t) (by
        have e1 : (setL cur (i * 5) t.cells).toList.length = cur.size := setL_size _ _ _
        rw [List.length_take, List.length_set, e1]; omega) fun k j hk hj => ?_
      rw [List.length_set] at hk
      have hcl : t.cells.length = 5 := rfl
      rw [List.getElem?_take, if_pos (by omega), Array.getElem?_toList, setL_get _ _ _ _ (by rw [hcl]; omega), hcl, List.getElem_set]
      by_cases hki : i = k
      · subst hki
        rw [if_pos (by omega), if_pos rfl, show i * 5 + j - i * 5 = j by omega]
      · rw [if_neg (by omega), if_neg hki, ← itC_get xs k j hk hj, ← h6, List.getElem?_take, if_pos (by omega), Array.getElem?_toList]
/-- the last ones are cut away -/
theorem its_cut {W : World} {F : Nat → Prop} {full : Bool} {g n c : Nat} {xs : List It} (h : itsA full (.slice (some ⟨g, 0, none⟩) n c) xs W F) (k : Nat) (hk : k ≤ xs.length) : itsA false (.slice (some ⟨g, 0, none⟩) k k) (xs.take k) W F := by
  obtain ⟨h1, rfl⟩ := h
  refine ⟨?_, rfl⟩
  have hkl : (xs.take k).length = k := by rw [List.length_take]; omega
  rcases h1 with ⟨e, _⟩ | ⟨g', c', cur, e, hb, h2, h3, h4, h5, h6⟩
  · cases e
  · injection e with e _ _
    injection e with e
    injection e with e _ _
    subst e
    refine Or.inr ⟨g, k, cur, by rw [hkl], hb, by omega, by omega, by omega, (fun e => by cases e), ?_⟩
    rw [hkl, ← itC_take, ← h6, List.take_take, Nat.min_eq_left (by omega)]
end Go.Proofs.YtnbdcdeidhhgoaaDoor
