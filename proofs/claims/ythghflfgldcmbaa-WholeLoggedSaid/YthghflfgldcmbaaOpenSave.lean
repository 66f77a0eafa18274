/- A slice of saves that came in. -/
import Derived.Test.YthghflfgldcmbaaWLaw
import Derived.Test.YthghflfgldcmbaaOpenR
import Derived.OpenShut
import Derived.Lib.SmallJoins
namespace Go.Proofs.Ythghflfgldcmbaa
set_option maxRecDepth 4000
set_option linter.unusedVariables false
set_option linter.unusedSimpArgs false
open Go Go.RowKit Go.ChangeShapes Go.WideShapes Go.Deep Go.Joins
section
variable {H : Type} {enc : TypeId × Value → H} {P : Program} {w : World} {base : Nat} {spare : Nat → Bool} {held : Bool}
theorem rows_of {α : Type} {cells : α → List Value} {Ok : α → Prop} {t e : TypeId} {n fuel : Nat} {cs : List Value} {x : DataW H × List MemPlace} (ht : P.underlying t = some (.slice e)) (hc : P.cellsOf e = n) (hn : 0 < n) (hlen : ∀ q, (cells q).length = n)
    (hel : ∀ {f : Nat} {cs : List Value} {x : DataW H × List MemPlace}, f < fuel → DataW.trod enc P w base spare held f e cs = some x → ∃ q : α, cs = cells q ∧ Ok q)
    (h : DataW.trod enc P w base spare held fuel t cs = some x) :
    ∃ p c qs, cs = [.slice p qs.length c] ∧ RowsAt n cells Ok w p qs ∧ ((p = none → qs.length = 0 ∧ c = 0) ∧ qs.length ≤ c ∧ c ≤ maxLen) := by
  rcases DataW.trod_slice ht h with ⟨hcs, hx⟩ | ⟨a, len, cap, elems, rest, m, hfu, hcs, hx, hb, hl, hm, hel', he, _, _⟩
  · exact ⟨none, 0, [], hcs, fun i hi => absurd hi (by simp), fun _ => ⟨rfl, rfl⟩, Nat.le_refl _, Nat.zero_le _⟩
  · rw [hc] at he
    have key : ∀ i, i < len → ∃ q : α, (∀ j, j < n → w.cell? (a.add (i * n + j)) = (cells q)[j]?) ∧ Ok q := by
      intro i hi
      have h0 := he i hi
      rw [List.getElem?_eq_getElem (by omega)] at h0
      obtain ⟨cs', h1, h2⟩ := Option.bind_eq_some_iff.1 h0
      obtain ⟨q, rfl, hq⟩ := hel (by omega) h2
      obtain ⟨_, hcl, hat⟩ := World.cells?_some h1
      exact ⟨q, fun j hj => by rw [← Go.Deep.add_add]; exact hat j hj, hq⟩
    have : ∀ k, k ≤ len → ∃ ps : List α, ps.length = k ∧ ∀ i (h : i < ps.length), (∀ j, j < n → w.cell? (a.add (i * n + j)) = (cells ps[i])[j]?) ∧ Ok ps[i] := by
      intro k
      induction k with
      | zero => exact fun _ => ⟨[], rfl, fun i hi => absurd hi (by simp)⟩
      | succ k ih =>
        intro hk
        obtain ⟨ps, h1, h2⟩ := ih (by omega)
        obtain ⟨q, h3, h4⟩ := key k (by omega)
        refine ⟨ps ++ [q], by simp [h1], fun i hi => ?_⟩
        rcases Nat.lt_or_ge i ps.length with h | h
        · rw [List.getElem_append_left h]; exact h2 i h
        · have hik : i = k := by simp at hi; omega
          subst hik
          rw [List.getElem_append_right (by omega)]
          simp only [h1, Nat.sub_self, List.getElem_cons_zero]
          exact ⟨h3, h4⟩
    obtain ⟨ps, h1, h2⟩ := this len (Nat.le_refl _)
    refine ⟨some a, cap, ps, by rw [h1]; exact hcs, fun i hi => ?_, fun h => (by cases h), by omega, hm⟩
    obtain ⟨h3, h4⟩ := h2 i hi
    obtain ⟨b, o, sp⟩ := a
    have hi0 : ∀ i (h : i < ps.length), (cells ps[i])[0]? = some ((cells ps[i])[0]'(by rw [hlen]; exact hn)) := fun i h => List.getElem?_eq_getElem _
    have hc0 := h3 0 hn
    rw [hi0 i hi] at hc0
    have hsp : sp = none := by
      have h5 := (h2 0 (by omega)).1 0 hn
      rw [hi0 0 (by omega)] at h5
      simpa [Addr.add] using World.cell?_spot h5
    subst hsp
    refine ⟨b, o, rfl, ?_, fun j hj => by rw [← Go.WideShapes.add_plain]; exact h3 j hj, h4⟩
    have := World.block_lt_of_cell? w _ hc0
    rw [Go.WideShapes.add_plain] at this
    exact this
end
section
variable {H : Type} {enc : TypeId × Value → H} {w : World} {base : Nat} {spare : Nat → Bool} {held : Bool}
theorem open_str {fuel : Nat} {cs : List Value} {x : DataW H × List MemPlace} (h : DataW.trod enc Try.prog w base spare held fuel 9 cs = some x) : ∃ q : List UInt8, cs = [.string (strOf q)] ∧ True := by
  obtain ⟨s, h1, -, -⟩ := DataW.trod_string Try.underlying9 h
  exact ⟨s.data.toList, by rw [h1]; cases s; simp [strOf], trivial⟩
theorem open_save {fuel : Nat} {cs : List Value} {x : DataW H × List MemPlace} (h : DataW.trod enc Try.prog w base spare held fuel 34 cs = some x) : ∃ t : Sv, cs = t.cells ∧ Sv.Ok w t := by
  obtain ⟨xs, n, _, _, hl, hxl, hf⟩ := DataW.trod_struct Try.underlying34 h
  have hc : Try.prog.cellsOf 34 = 4 := by kernel_rfl
  rw [hc] at hl
  have hx : xs.length = 4 := hxl
  have gx : ∀ i, i < 4 → ∃ y, xs[i]? = some y := fun i hi => ⟨xs[i]'(by omega), List.getElem?_eq_getElem (by omega)⟩
  have c3 : Try.prog.cellsOf 3 = 1 := by kernel_rfl
  have c27 : Try.prog.cellsOf 32 = 1 := by kernel_rfl
  have c4 : Try.prog.cellsOf 9 = 1 := by kernel_rfl
  have h0 : DataW.trod enc Try.prog w base spare held n 32 ((cs.drop 0).take (Try.prog.cellsOf 32)) = xs[0]? := hf 0 _ rfl
  have h1 : DataW.trod enc Try.prog w base spare held n 3 ((cs.drop 1).take (Try.prog.cellsOf 3)) = xs[1]? := hf 1 _ rfl
  have h2 : DataW.trod enc Try.prog w base spare held n 3 ((cs.drop 2).take (Try.prog.cellsOf 3)) = xs[2]? := hf 2 _ rfl
  have h3 : DataW.trod enc Try.prog w base spare held n 3 ((cs.drop 3).take (Try.prog.cellsOf 3)) = xs[3]? := hf 3 _ rfl
  obtain ⟨y0, e0⟩ := gx 0 (by omega)
  obtain ⟨y1, e1⟩ := gx 1 (by omega)
  obtain ⟨y2, e2⟩ := gx 2 (by omega)
  obtain ⟨y3, e3⟩ := gx 3 (by omega)
  rw [e0, c27, one_of (i := 0) (by omega)] at h0
  rw [e1, c3, one_of (i := 1) (by omega)] at h1
  rw [e2, c3, one_of (i := 2) (by omega)] at h2
  rw [e3, c3, one_of (i := 3) (by omega)] at h3
  obtain ⟨p, c, qs, k0, hR, hn, hle, hm⟩ := rows_of (α := List UInt8) (n := 1) (cells := fun l => [.string (strOf l)]) (Ok := fun _ => True) Try.underlying32 c4 (by omega) (fun _ => rfl) (fun _ h => open_str h) h0
  obtain ⟨a, k1, w1⟩ := int_of Try.underlying3 h1
  obtain ⟨b, k2, w2⟩ := int_of Try.underlying3 h2
  obtain ⟨e, k3, w3⟩ := int_of Try.underlying3 h3
  refine ⟨⟨p, c, qs, a, b, e⟩, ?_, ⟨fun j hj => ?_, hn, hle, hm, bd_i64 w1, bd_i64 w2, bd_i64 w3⟩⟩
  · match cs, hl with
    | [x0, x1, x2, x3], _ =>
      simp at k0 k1 k2 k3
      rw [k0, k1, k2, k3]
      rfl
  · obtain ⟨b, o, hp, hb, hcc, -⟩ := hR j hj
    have h3 := hcc 0 (by omega)
    rw [Nat.mul_one, Nat.add_zero] at h3
    exact ⟨b, o, hp, hb, h3⟩
theorem open_saves {b0 : Nat} {r : Reach} {v : Value} {d : DataW H} {pl : List MemPlace} (hval : Value.okWide Try.prog w r b0 22 v) (h : DataW.Trod enc Try.prog w base spare held 22 v d pl) :
    ∃ p c ts, v = .slice p ts.length c ∧ SvsAt w p ts :=
  open_rows Try.underlying22 (show Try.prog.cellsOf 34 = 4 by kernel_rfl) (by omega) (fun _ => rfl) (fun h => open_save h) hval h
end
end Go.Proofs.Ythghflfgldcmbaa
