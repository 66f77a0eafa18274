/- DERIVED LEMMAS, OF NO PROGRAM: slices of structs that came in, row by row. | image: values and images that came in. | image: fits, small. | image's laws: how long an image's bytes are; same. | image: image.Clone, its rows one's own. | image: a Program's Image with rows of one's own; rows as blocks. | ImageOwn: the walk. | ImageOwn: for every input the law returns true, and each argument reads behind the call as it read before. -/
import Derived.Test.YtkkhcpknldlpoaaQA4
import Derived.ChangeArms
import Derived.OpenShut
import Derived.Deep.Slices
import Derived.Lib.SmallJoins
import Derived.WalkKit
import Derived.ProofKit
import Derived.ShutString
import Derived.ChangeOld
import Derived.Below
import Derived.Deep.Fields
set_option maxHeartbeats 2000000
namespace Go.Proofs.Ytkkhcpknldlpoaa
set_option maxRecDepth 4000
set_option linter.unusedVariables false
set_option linter.unusedSimpArgs false
open Go Go.RowKit Go.ChangeShapes Go.WideShapes Go.Deep
theorem one_of {l : List Value} {i : Nat} (h : i < l.length) : (l.drop i).take 1 = [l[i]] := by
  rw [List.drop_eq_getElem_cons h]; rfl
/-- a slice of rows of n cells that came in -/
def RowsAt {α : Type} (n : Nat) (cells : α → List Value) (Ok : α → Prop) (w : World) (p : Option Addr) (qs : List α) : Prop :=
  ∀ i (h : i < qs.length), ∃ b o, p = some ⟨b, o, none⟩ ∧ b < w.heap.size ∧ (∀ j, j < n → w.cell? ⟨b, o + (i * n + j), none⟩ = (cells qs[i])[j]?) ∧ Ok qs[i]
section
variable {H : Type} {enc : TypeId × Value → H} {P : Program} {w : World} {base : Nat} {spare : Nat → Bool} {held : Bool}
theorem int_of {k : IntKind} {t : TypeId} {fuel : Nat} {v : Value} {x : DataW H × List MemPlace} (ht : P.underlying t = some (.int k)) (h : DataW.trod enc P w base spare held fuel t [v] = some x) : ∃ m, v = .int k m ∧ (Lit.int k m).wf = true := by
  obtain ⟨m, h1, _, h3⟩ := DataW.trod_int ht h
  injection h1 with h1
  exact ⟨m, h1, h3⟩
theorem open_rows {α : Type} {cells : α → List Value} {Ok : α → Prop} {t e : TypeId} {n b0 : Nat} {r : Reach} {v : Value} {d : DataW H} {pl : List MemPlace} (ht : P.underlying t = some (.slice e)) (hc : P.cellsOf e = n) (hn : 0 < n) (hlen : ∀ q, (cells q).length = n)
    (hel : ∀ {fuel : Nat} {cs : List Value} {x : DataW H × List MemPlace}, DataW.trod enc P w base spare held fuel e cs = some x → ∃ q : α, cs = cells q ∧ Ok q)
    (hval : Value.okWide P w r b0 t v) (h : DataW.Trod enc P w base spare held t v d pl) :
    ∃ p c qs, v = .slice p qs.length c ∧ RowsAt n cells Ok w p qs := by
  obtain ⟨a0, len, cap, rfl⟩ := okWide_slice ht hval
  obtain ⟨fuel, hf⟩ := h
  rcases open_slice ht hf with ⟨hcs, hx⟩ | ⟨a, len', cap', m, k, D, Pl, hcs, hb, hl, hm, hmm, hx, he⟩
  · simp [Value.cells] at hcs
    obtain ⟨rfl, rfl, rfl⟩ := hcs
    exact ⟨none, 0, [], rfl, fun i hi => absurd hi (by simp)⟩
  · simp [Value.cells] at hcs
    obtain ⟨rfl, rfl, rfl⟩ := hcs
    have hlm : len ≤ m := by rw [hmm]; split <;> omega
    rw [hc] at he
    have key : ∀ i, i < len → ∃ q : α, (∀ j, j < n → w.cell? (a.add (i * n + j)) = (cells q)[j]?) ∧ Ok q := by
      intro i hi
      obtain ⟨cs', h1, h2⟩ := he i (by omega)
      obtain ⟨q, rfl, hq⟩ := hel h2
      obtain ⟨_, hcl, hat⟩ := World.cells?_some h1
      exact ⟨q, fun j hj => by rw [← Go.Deep.add_add]; exact hat j hj, hq⟩
    have : ∀ k, k ≤ len → ∃ ps : List α, ps.length = k ∧ ∀ i (h : i < ps.length), (∀ j, j < n → w.cell? (a.add (i * n + j)) = (cells ps[i])[j]?) ∧ Ok ps[i] := by
      intro k
      induction k with
      | zero => exact fun _ => ⟨[], rfl, fun i hi => absurd hi (by simp)⟩
      | succ k ih =>
        intro hk
        obtain ⟨ps, h1, h2⟩ := ih (by omega)
        obtain ⟨q, h3, h4⟩ := key k (by omega)
        refine ⟨ps ++ [q], by simp [h1], fun i hi => ?_⟩
        rcases Nat.lt_or_ge i ps.length with h | h
        · rw [List.getElem_append_left h]; exact h2 i h
        · have hik : i = k := by simp at hi; omega
          subst hik
          rw [List.getElem_append_right (by omega)]
          simp only [h1, Nat.sub_self, List.getElem_cons_zero]
          exact ⟨h3, h4⟩
    obtain ⟨ps, h1, h2⟩ := this len (Nat.le_refl _)
    refine ⟨some a, cap, ps, by rw [h1], fun i hi => ?_⟩
    obtain ⟨h3, h4⟩ := h2 i hi
    obtain ⟨b, o, sp⟩ := a
    have hi0 : ∀ i (h : i < ps.length), (cells ps[i])[0]? = some ((cells ps[i])[0]'(by rw [hlen]; exact hn)) := fun i h => List.getElem?_eq_getElem _
    have hc0 := h3 0 hn
    rw [hi0 i hi] at hc0
    have hsp : sp = none := by
      have h5 := (h2 0 (by omega)).1 0 hn
      rw [hi0 0 (by omega)] at h5
      simpa [Addr.add] using World.cell?_spot h5
    subst hsp
    refine ⟨b, o, rfl, ?_, fun j hj => by rw [← Go.WideShapes.add_plain]; exact h3 j hj, h4⟩
    have := World.block_lt_of_cell? w _ hc0
    rw [Go.WideShapes.add_plain] at this
    exact this
end
end Go.Proofs.Ytkkhcpknldlpoaa

namespace Go.Proofs.Ytkkhcpknldlpoaa
set_option maxRecDepth 4000
set_option linter.unusedVariables false
set_option linter.unusedSimpArgs false
open Go Go.RowKit Go.ChangeShapes Go.WideShapes Go.Deep Go.Joins
section
variable {H : Type} {enc : TypeId × Value → H} {P : Program} {w : World} {base : Nat} {spare : Nat → Bool} {held : Bool}
theorem rows_of {α : Type} {cells : α → List Value} {Ok : α → Prop} {t e : TypeId} {n fuel : Nat} {cs : List Value} {x : DataW H × List MemPlace} (ht : P.underlying t = some (.slice e)) (hc : P.cellsOf e = n) (hn : 0 < n) (hlen : ∀ q, (cells q).length = n)
    (hel : ∀ {f : Nat} {cs : List Value} {x : DataW H × List MemPlace}, f < fuel → DataW.trod enc P w base spare held f e cs = some x → ∃ q : α, cs = cells q ∧ Ok q)
    (h : DataW.trod enc P w base spare held fuel t cs = some x) :
    ∃ p c qs, cs = [.slice p qs.length c] ∧ RowsAt n cells Ok w p qs ∧ SlOk p qs.length c := by
  rcases DataW.trod_slice ht h with ⟨hcs, hx⟩ | ⟨a, len, cap, elems, rest, m, hfu, hcs, hx, hb, hl, hm, hel', he, _, _⟩
  · exact ⟨none, 0, [], hcs, fun i hi => absurd hi (by simp), fun _ => ⟨rfl, rfl⟩, Nat.le_refl _, Nat.zero_le _⟩
  · rw [hc] at he
    have key : ∀ i, i < len → ∃ q : α, (∀ j, j < n → w.cell? (a.add (i * n + j)) = (cells q)[j]?) ∧ Ok q := by
      intro i hi
      have h0 := he i hi
      rw [List.getElem?_eq_getElem (by omega)] at h0
      obtain ⟨cs', h1, h2⟩ := Option.bind_eq_some_iff.1 h0
      obtain ⟨q, rfl, hq⟩ := hel (by omega) h2
      obtain ⟨_, hcl, hat⟩ := World.cells?_some h1
      exact ⟨q, fun j hj => by rw [← Go.Deep.add_add]; exact hat j hj, hq⟩
    have : ∀ k, k ≤ len → ∃ ps : List α, ps.length = k ∧ ∀ i (h : i < ps.length), (∀ j, j < n → w.cell? (a.add (i * n + j)) = (cells ps[i])[j]?) ∧ Ok ps[i] := by
      intro k
      induction k with
      | zero => exact fun _ => ⟨[], rfl, fun i hi => absurd hi (by simp)⟩
      | succ k ih =>
        intro hk
        obtain ⟨ps, h1, h2⟩ := ih (by omega)
        obtain ⟨q, h3, h4⟩ := key k (by omega)
        refine ⟨ps ++ [q], by simp [h1], fun i hi => ?_⟩
        rcases Nat.lt_or_ge i ps.length with h | h
        · rw [List.getElem_append_left h]; exact h2 i h
        · have hik : i = k := by simp at hi; omega
          subst hik
          rw [List.getElem_append_right (by omega)]
          simp only [h1, Nat.sub_self, List.getElem_cons_zero]
          exact ⟨h3, h4⟩
    obtain ⟨ps, h1, h2⟩ := this len (Nat.le_refl _)
    refine ⟨some a, cap, ps, by rw [h1]; exact hcs, fun i hi => ?_, fun h => (by cases h), by omega, hm⟩
    obtain ⟨h3, h4⟩ := h2 i hi
    obtain ⟨b, o, sp⟩ := a
    have hi0 : ∀ i (h : i < ps.length), (cells ps[i])[0]? = some ((cells ps[i])[0]'(by rw [hlen]; exact hn)) := fun i h => List.getElem?_eq_getElem _
    have hc0 := h3 0 hn
    rw [hi0 i hi] at hc0
    have hsp : sp = none := by
      have h5 := (h2 0 (by omega)).1 0 hn
      rw [hi0 0 (by omega)] at h5
      simpa [Addr.add] using World.cell?_spot h5
    subst hsp
    refine ⟨b, o, rfl, ?_, fun j hj => by rw [← Go.WideShapes.add_plain]; exact h3 j hj, h4⟩
    have := World.block_lt_of_cell? w _ hc0
    rw [Go.WideShapes.add_plain] at this
    exact this
end
section
variable {H : Type} {enc : TypeId × Value → H} {w : World} {base : Nat} {spare : Nat → Bool} {held : Bool}
def ElOk (w : World) (e : El) : Prop := VlB (fun _ => True) w e.2.1 e.2.2 e.1 ∧ e.1.ok
theorem els_get : ∀ (es : List El) (i j : Nat) (h : i < es.length), j < 4 → (els es)[i * 4 + j]? = es[i].cells[j]?
  | e :: r, 0, j, _, hj => by
    show (e.cells ++ els r)[0 * 4 + j]? = e.cells[j]?
    rw [List.getElem?_append_left (by show 0 * 4 + j < e.cells.length; simp [El.cells, Vl.cells]; omega)]
    congr 1; omega
  | e :: r, i + 1, j, h, hj => by
    show (e.cells ++ els r)[(i + 1) * 4 + j]? = (e :: r)[i + 1].cells[j]?
    rw [List.getElem?_append_right (by show e.cells.length ≤ _; simp [El.cells, Vl.cells]; omega)]
    have := els_get r i j (by simpa using h) hj
    rw [show (i + 1) * 4 + j - e.cells.length = i * 4 + j by simp [El.cells, Vl.cells]; omega, this]
    rfl
theorem rows_fo {p : Option Addr} {es : List El} (h : RowsAt 4 El.cells (ElOk w) w p es) : FoB (fun _ => True) w p 0 (Fo.of (es.map Prod.fst)) := by
  by_cases he : es.length = 0
  · have : es = [] := List.length_eq_zero_iff.1 he
    subst this; trivial
  · obtain ⟨b, o, rfl, _, _, _⟩ := h 0 (by omega)
    have hat : ∀ i (hi : i < es.length), (∀ j, j < 4 → w.cell? ⟨b, o + (i * 4 + j), none⟩ = es[i].cells[j]?) ∧ ElOk w es[i] := fun i hi => by
      obtain ⟨b', o', hp, _, h1, h2⟩ := h i hi
      injection hp with hp; injection hp with e1 e2
      subst e1; subst e2
      exact ⟨h1, h2⟩
    refine els_fo trivial es 0 (fun j u hj => ?_) (fun e he => ?_)
    · have hjl : j < es.length * 4 := by
        have := (List.getElem?_eq_some_iff.1 hj).1
        rwa [els_length] at this
      have hd : j / 4 * 4 + j % 4 = j := by omega
      have hi : j / 4 < es.length := by omega
      have h1 := (hat (j / 4) hi).1 (j % 4) (by omega)
      rw [hd] at h1
      have h2 := els_get es (j / 4) (j % 4) hi (by omega)
      rw [hd, hj] at h2
      rw [Nat.mul_zero, Nat.add_zero, h1, ← h2]
    · obtain ⟨i, hi, rfl⟩ := List.getElem_of_mem he
      exact (hat i hi).2.1
theorem rows_ok {p : Option Addr} {es : List El} (h : RowsAt 4 El.cells (ElOk w) w p es) : (Fo.of (es.map Prod.fst)).ok := by
  refine Fo.of_ok fun v hv => ?_
  obtain ⟨e, he, rfl⟩ := List.mem_map.1 hv
  obtain ⟨i, hi, rfl⟩ := List.getElem_of_mem he
  obtain ⟨_, _, _, _, _, h2⟩ := h i hi
  exact h2.2
theorem wf_i64 {m : Int} (h : (Lit.int .i64 m).wf = true) : i64b m := by
  have := bd_i64 h
  exact ⟨this.1, by have := this.2; omega⟩
theorem valStruct : ∃ f0 f1 f2 f3 : Field, Try.prog.underlying 62 = some (.struct #[f0, f1, f2, f3]) ∧ f0.type = 3 ∧ f0.offset = 0 ∧ f1.type = 2 ∧ f1.offset = 1 ∧ f2.type = 9 ∧ f2.offset = 2 ∧ f3.type = 23 ∧ f3.offset = 3 :=
  ⟨_, _, _, _, Try.underlying62, rfl, rfl, rfl, rfl, rfl, rfl, rfl, rfl⟩
theorem len4 {l : List Value} (h : l.length = 4) : ∃ a b c d, l = [a, b, c, d] := by
  match l, h with
  | [a, b, c, d], _ => exact ⟨a, b, c, d, rfl⟩
theorem open_val : ∀ (n fuel : Nat), fuel < n → ∀ {cs : List Value} {x : DataW H × List MemPlace}, DataW.trod enc Try.prog w base spare held fuel 62 cs = some x → ∃ e : El, cs = e.cells ∧ ElOk w e
  | 0, _, h, _, _, _ => by omega
  | n + 1, fuel, hn, cs, x, h => by
    obtain ⟨f0, f1, f2, f3, hu, t0, o0, t1, o1, t2, o2, t3, o3⟩ := valStruct
    obtain ⟨xs, m, hfu, _, hl, hxl, hf⟩ := DataW.trod_struct hu h
    have c4 : Try.prog.cellsOf 62 = 4 := by kernel_rfl
    have ci : Try.prog.cellsOf 3 = 1 := by kernel_rfl
    have cN : Try.prog.cellsOf 2 = 1 := by kernel_rfl
    have cS : Try.prog.cellsOf 9 = 1 := by kernel_rfl
    have cL : Try.prog.cellsOf 23 = 1 := by kernel_rfl
    rw [c4] at hl
    obtain ⟨a, b, c, d, rfl⟩ := len4 hl
    have hxl : xs.length = 4 := hxl
    have h0 := hf 0 f0 rfl
    have h1 := hf 1 f1 rfl
    have h2 := hf 2 f2 rfl
    have h3 := hf 3 f3 rfl
    rw [List.getElem?_eq_getElem (by omega)] at h0 h1 h2 h3
    rw [t0, o0, ci] at h0
    rw [t1, o1, cN] at h1
    rw [t2, o2, cS] at h2
    rw [t3, o3, cL] at h3
    simp only [List.drop_zero, List.drop_succ_cons, List.take_succ_cons, List.take_zero] at h0 h1 h2 h3
    obtain ⟨k, e0, _, w0⟩ := DataW.trod_int Try.underlying3 h0
    obtain ⟨i, e1, _, w1⟩ := DataW.trod_int Try.underlying2 h1
    obtain ⟨s, e2, _, _⟩ := DataW.trod_string Try.underlying9 h2
    obtain ⟨q, c', es, e3, hR, hS⟩ := rows_of (cells := El.cells) (Ok := ElOk w) Try.underlying23 c4 (by omega) (fun _ => rfl) (fun {f} _ _ hlt hh => open_val n f (by omega) hh) h3
    simp only [List.cons.injEq, and_true] at e0 e1 e2 e3
    subst e0; subst e1; subst e2; subst e3
    have hlen : (Fo.of (es.map Prod.fst)).len = es.length := by rw [Fo.of_len, List.length_map]
    refine ⟨(⟨k, i, s.data.toList, Fo.of (es.map Prod.fst)⟩, q, c'), ?_, ⟨?_, ?_, hS.cap, rows_fo hR⟩, wf_i64 w0, wf_i64 w1, rows_ok hR⟩
    · show _ = [Value.int .i64 k, .int .i64 i, .string ⟨s.data.toList.toArray⟩, .slice q (Fo.of (es.map Prod.fst)).len c']
      rw [hlen, Array.toArray_toList]
    · intro hq
      have := hS.nil_ hq
      exact ⟨hlen.trans this.1, this.2⟩
    · show (Fo.of (es.map Prod.fst)).len ≤ c'
      rw [hlen]; exact hS.len
theorem imgStruct : ∃ f0 f1 f2 f3 : Field, Try.prog.underlying 26 = some (.struct #[f0, f1, f2, f3]) ∧ oneCellFields Try.prog #[f0, f1, f2, f3] = true ∧ f0.type = 22 ∧ f1.type = 23 ∧ f2.type = 24 ∧ f3.type = 3 :=
  ⟨_, _, _, _, Try.underlying26, by kernel_rfl, rfl, rfl, rfl, rfl⟩
theorem instrStruct : ∃ f0 f1 : Field, Try.prog.underlying 52 = some (.struct #[f0, f1]) ∧ f0.type = 3 ∧ f0.offset = 0 ∧ f1.type = 3 ∧ f1.offset = 1 :=
  ⟨_, _, Try.underlying52, rfl, rfl, rfl, rfl⟩
def icells (c : Int × Int) : List Value := [.int .i64 c.1, .int .i64 c.2]
theorem open_instr {fuel : Nat} {cs : List Value} {x : DataW H × List MemPlace} (h : DataW.trod enc Try.prog w base spare held fuel 52 cs = some x) : ∃ c : Int × Int, cs = icells c ∧ i64b c.1 ∧ i64b c.2 := by
  obtain ⟨f0, f1, hu, t0, o0, t1, o1⟩ := instrStruct
  obtain ⟨y0, y1, n, _, hl, h0, h1⟩ := trod_struct2 hu h
  have c2 : Try.prog.cellsOf 52 = 2 := by kernel_rfl
  have ci : Try.prog.cellsOf 3 = 1 := by kernel_rfl
  rw [c2] at hl
  rw [t0, o0, ci] at h0
  rw [t1, o1, ci] at h1
  match cs, hl with
  | [a, b], _ =>
    simp only [List.drop_zero, List.drop_succ_cons, List.take_succ_cons, List.take_zero] at h0 h1
    obtain ⟨k, e0, _, w0⟩ := DataW.trod_int Try.underlying3 h0
    obtain ⟨i, e1, _, w1⟩ := DataW.trod_int Try.underlying3 h1
    simp only [List.cons.injEq, and_true] at e0 e1
    subst e0; subst e1
    exact ⟨(k, i), rfl, wf_i64 w0, wf_i64 w1⟩
theorem open_name {fuel : Nat} {cs : List Value} {x : DataW H × List MemPlace} (h : DataW.trod enc Try.prog w base spare held fuel 9 cs = some x) : ∃ s : List UInt8, cs = [.string ⟨s.toArray⟩] ∧ True := by
  obtain ⟨s, e, _, _⟩ := DataW.trod_string Try.underlying9 h
  exact ⟨s.data.toList, by rw [e, Array.toArray_toList], trivial⟩
theorem open_image {b0 : Nat} {r : Reach} {v : Value} {d : DataW H} {pl : List MemPlace} (hval : Value.okWide Try.prog w r b0 26 v) (h : DataW.Trod enc Try.prog w base spare held 26 v d pl) :
    ∃ (a : Ip) (p : Im), v = .agg (p.cells a).toArray ∧ ImAt w a p ∧ p.ok := by
  obtain ⟨f0, f1, f2, f3, hu, hone, t0, t1, t2, t3⟩ := imgStruct
  obtain ⟨v0, v1, v2, v3, y0, y1, y2, y3, n, rfl, _, _, h0, h1, h2, h3⟩ := open_agg4 hu hone (by kernel_rfl) hval h
  rw [t0] at h0
  rw [t1] at h1
  rw [t2] at h2
  rw [t3] at h3
  obtain ⟨pc, cc, code, e0, hR0, hS0⟩ := rows_of (cells := icells) (Ok := fun c => i64b c.1 ∧ i64b c.2) Try.underlying22 (show Try.prog.cellsOf 52 = 2 by kernel_rfl) (by omega) (fun _ => rfl) (fun _ hh => open_instr hh) h0
  obtain ⟨pk, ck, es, e1, hR1, hS1⟩ := rows_of (cells := El.cells) (Ok := ElOk w) Try.underlying23 (show Try.prog.cellsOf 62 = 4 by kernel_rfl) (by omega) (fun _ => rfl) (fun {f} _ _ _ hh => open_val (f + 1) f (by omega) hh) h1
  obtain ⟨pn, cn, names, e2, hR2, hS2⟩ := rows_of (cells := fun s : List UInt8 => [Value.string ⟨s.toArray⟩]) (Ok := fun _ => True) Try.underlying24 (show Try.prog.cellsOf 9 = 1 by kernel_rfl) (by omega) (fun _ => rfl) (fun _ hh => open_name hh) h2
  obtain ⟨pl, e3, _, w3⟩ := DataW.trod_int Try.underlying3 h3
  simp only [List.cons.injEq, and_true] at e0 e1 e2 e3
  subst e0; subst e1; subst e2; subst e3
  have hlen : (Fo.of (es.map Prod.fst)).len = es.length := by rw [Fo.of_len, List.length_map]
  refine ⟨⟨pc, cc, pk, ck, pn, cn⟩, ⟨code, Fo.of (es.map Prod.fst), names, pl⟩, ?_, ⟨fun i hi => ?_, hS0, ⟨?_, ?_, hS1.cap, rows_fo hR1⟩, fun i hi => ?_, hS2⟩, ⟨fun c hc => ?_, rows_ok hR1, wf_i64 w3⟩⟩
  · show _ = Value.agg #[.slice pc code.length cc, .slice pk (Fo.of (es.map Prod.fst)).len ck, .slice pn names.length cn, .int .i64 pl]
    rw [hlen]
  · obtain ⟨b, o, h4, _, h5, _⟩ := hR0 i hi
    have h6 := h5 0 (by omega)
    have h7 := h5 1 (by omega)
    refine ⟨b, o, h4, trivial, ?_, ?_⟩
    · rw [show o + 2 * i = o + (i * 2 + 0) by omega, h6]; rfl
    · rw [show o + 2 * i + 1 = o + (i * 2 + 1) by omega, h7]; rfl
  · intro hq
    have := hS1.nil_ hq
    exact ⟨hlen.trans this.1, this.2⟩
  · show (Fo.of (es.map Prod.fst)).len ≤ ck
    rw [hlen]; exact hS1.len
  · obtain ⟨b, o, h4, _, h5, _⟩ := hR2 i hi
    have h6 := h5 0 (by omega)
    refine ⟨b, o, h4, trivial, ?_⟩
    rw [show o + i = o + (i * 1 + 0) by omega, h6]; rfl
  · obtain ⟨i, hi, rfl⟩ := List.getElem_of_mem hc
    obtain ⟨_, _, _, _, _, h7⟩ := hR0 i hi
    exact h7
end
end Go.Proofs.Ytkkhcpknldlpoaa

namespace Go.Proofs.Ytkkhcpknldlpoaa
set_option maxRecDepth 4000
set_option linter.unusedVariables false
set_option linter.unusedSimpArgs false
open Go Go.RowKit
/-- all texts are short -/
def Fo.txt : Fo → Prop
  | .nil => True
  | .node _ _ s sub r => s.length ≤ 1100 ∧ sub.txt ∧ r.txt
theorem Fo.len_size : ∀ f : Fo, f.len ≤ f.size
  | .nil => Nat.le_refl _
  | .node _ _ _ sub r => by rw [Fo.len, Fo.size]; have := r.len_size; omega
theorem Fo.bytes_small : ∀ (f : Fo), f.ok → f.txt → f.size ≤ 1000 → f.bytes.length ≤ 1111 * f.size
  | .nil, _, _, _ => by simp [Fo.bytes]
  | .node k n s sub r, ⟨⟨_, o2⟩, o3, o4⟩, ⟨h1, h2, h3⟩, hl => by
    rw [Fo.size] at hl ⊢
    have ir := Fo.bytes_small r o4 h3 (by omega)
    have is := Fo.bytes_small sub o3 h2 (by omega)
    have ls := sub.len_size
    rw [Fo.bytes, List.length_append, List.length_cons]
    have n2 : (numB s.length).length ≤ 10 := numB_len (by omega)
    have n3 : (numB sub.len).length ≤ 10 := numB_len (by omega)
    have n1 : (numB (zigN n)).length ≤ 10 := numB_len (zigN_lt o2.1 o2.2)
    by_cases k1 : k = 1
    · rw [if_pos k1]; omega
    rw [if_neg k1]
    by_cases k2 : k = 2
    · rw [if_pos k2, List.length_append]; omega
    rw [if_neg k2]
    by_cases k3 : k = 3
    · rw [if_pos k3, List.length_append]; omega
    · rw [if_neg k3]; simp only [List.length_nil]; omega
theorem Fo.of_snoc_size (l : List Vl) (x : Vl) : (Fo.of (l ++ [x])).size = (Fo.of l).size + x.l.size + 1 := by
  induction l with
  | nil => simp [Fo.of, Fo.size]
  | cons v r ih =>
    show (Fo.node v.k v.n v.s v.l (Fo.of (r ++ [x]))).size = (Fo.node v.k v.n v.s v.l (Fo.of r)).size + x.l.size + 1
    rw [Fo.size, Fo.size, ih]; omega
theorem Fo.of_snoc_txt (l : List Vl) (x : Vl) (h : (Fo.of l).txt) (hx : x.s.length ≤ 1100 ∧ x.l.txt) : (Fo.of (l ++ [x])).txt := by
  induction l with
  | nil => exact ⟨hx.1, hx.2, trivial⟩
  | cons v r ih => exact ⟨h.1, h.2.1, ih h.2.2⟩
def FtIs (w : World) (lx left : Nat) (ps : List Asr) (v : Vl) (e : Ending) (W' : World) : Prop :=
  ∃ (ok : Bool) (t : Int), e = .returned (.bool ok) ∧ Has w W' (blkA lx 3 #[.int .i64 t] :: ps) ∧ (ok = true → v.s.length ≤ 1100 ∧ v.l.txt ∧ t + v.l.size + 1 = left ∧ 0 ≤ t)
def FtRel (w : World) (lx bx left : Nat) (cs : Array Value) (ps : List Asr) (l : List Vl) (k : Value) (wr : World) : Prop :=
  ∃ (i t : Nat), k = .int .i64 i ∧ i ≤ l.length ∧ Has w wr (blkA lx 3 #[.int .i64 t] :: blkA bx 62 cs :: ps) ∧ (Fo.of (l.take i)).txt ∧ t + (Fo.of (l.take i)).size = left
set_option maxHeartbeats 4000000 in
theorem fits_n : ∀ (m : Nat) (v : Vl), v.l.size < m → ∀ (w W : World) (ps : List Asr) (lx d left : Nat) (pl : Option Addr) (c : Nat), Has w W (blkA lx 3 #[.int .i64 left] :: ps) → Locs ps → VlAt w pl c v → left ≤ 400 → d ≤ 13 →
    Calls Try.prog 35 #[.agg (v.cells pl c).toArray, .int .i64 d, .pointer (some ⟨lx, 0, none⟩)] W fun e W' => FtIs w lx left ps v e W'
  | 0, _, h => by omega
  | m + 1, v, hm => by
    intro w W ps lx d left pl c hH hl hV hp hd
    have ih := fits_n m
    have H1 := (hH.new (.cons (blkA_loc _ _ _) hl) 62 (v.cells pl c).toArray).swap
    have L1 : Locs (blkA W.heap.size 62 (v.cells pl c).toArray :: ps) := .cons (blkA_loc _ _ _) hl
    have hne : lx ≠ W.heap.size := H1.ne2
    have H3 := H1.setB L1 0 (.int .i64 ((left : Int) - 1))
    have a0 : (W.alloc (.cells (v.cells pl c).toArray 62)).cell? ⟨lx, 0, none⟩ = some (.int .i64 left) := cell_of_row _ _ 0 _ _ _ H1.blk0
    have f0 := H1.blk0.frozen 0
    simp only [Vl.cells, List.setIfInBounds_toArray, List.set_cons_succ, List.set_cons_zero] at H3 a0 f0
    have hvl := v.l.vals_len
    have hcm := hV.cap
    have hcl := hV.len
    unfold Go.maxLen at hcm
    clear H1 L1 hH
    go_enter Try.func35, Try.ntmps35
    simp only [Vl.cells]
    go_upto_region 2 with fail
    generalize W.heap.size = bx at *
    generalize World.setCell _ _ _ = w3 at *
    clear a0 f0
    have hbl := H3.blk0
    have hbv := H3.swap.blk0
    have b2 : w3.cell? ⟨bx, 2, none⟩ = some (.string ⟨v.s.toArray⟩) := cell_of_row _ _ 2 _ _ _ hbv
    have b3 : w3.cell? ⟨bx, 3, none⟩ = some (.slice pl v.l.len c) := cell_of_row _ _ 3 _ _ _ hbv
    clear hbv
    have a0 : w3.cell? ⟨lx, 0, none⟩ = some (.int .i64 ((left : Int) - 1)) := cell_of_row _ _ 0 _ _ _ hbl
    have hsz : ((⟨v.s.toArray⟩ : ByteArray).size : Int) = v.s.length := rfl
    clear hbl
    by_cases hl0 : left = 0
    · have g0 : (left : Int) - 1 < 0 := by omega
      go_wp2_with fail
      go_returns
      exact ⟨false, _, rfl, H3.swap.drop, fun h => by cases h⟩
    have g0 : ¬ (left : Int) - 1 < 0 := by omega
    by_cases hd2 : 12 < d
    · have g1 : (12 : Int) < d := by omega
      go_wp2_with fail
      go_returns
      exact ⟨false, _, rfl, H3.swap.drop, fun h => by cases h⟩
    have g1 : ¬ (12 : Int) < d := by omega
    by_cases hs2 : 1100 < v.s.length
    · have g2 : (1100 : Int) < ((⟨v.s.toArray⟩ : ByteArray).size : Int) := by omega
      clear hsz
      go_wp2_with fail
      go_returns
      exact ⟨false, _, rfl, H3.swap.drop, fun h => by cases h⟩
    have g2 : ¬ (1100 : Int) < ((⟨v.s.toArray⟩ : ByteArray).size : Int) := by omega
    clear hsz
    have hl1 : (left : Int) - 1 = ((left - 1 : Nat) : Int) := by omega
    rw [hl1] at H3 a0 g0
    try rw [hl1]
    go_wp2_with fail
    go_loopw [31] (fun k wr => FtRel w lx bx (left - 1) #[.int .i64 v.k, .int .i64 v.n, .string ⟨v.s.toArray⟩, .slice pl v.l.len c] ps v.l.vals k wr) (fun k _ => ((v.l.len : Int) + 1 - intOf k).toNat)
    case atStart => exact ⟨0, left - 1, rfl, Nat.zero_le _, H3, trivial, by simp [Fo.of, Fo.size]⟩
    case round =>
      obtain ⟨i, t, rfl, hi, hX, hT, hS⟩ := hrel
      have LX : Locs (blkA bx 62 #[.int .i64 v.k, .int .i64 v.n, .string ⟨v.s.toArray⟩, .slice pl v.l.len c] :: ps) := .cons (blkA_loc _ _ _) hl
      clear H3 a0 b2 b3
      by_cases hlt : i < v.l.vals.length
      · obtain ⟨b, o, q2, c2, rfl, hV2, d0, d1, d2, d3⟩ := hV.fo.get i hlt
        have hmem := List.getElem_mem hlt
        have hsz := Fo.size_mem hmem
        have htk : v.l.vals.take (i + 1) = v.l.vals.take i ++ [v.l.vals[i]] := by rw [List.take_succ_eq_append_getElem hlt]
        have HT := Lib.hid htk
        clear htk
        generalize v.l.vals[i] = x at *
        replace d0 := cell_ext hX.base d0
        replace d1 := cell_ext hX.base d1
        replace d2 := cell_ext hX.base d2
        replace d3 := cell_ext hX.base d3
        rw [Nat.zero_add, Nat.mul_comm 4 i] at d0 d1 d2 d3
        have i7 : (i : Int) < v.l.len := by omega
        have X2 := hX.ext (.cons (blkA_loc _ _ _) LX) (ext_alloc wr (.cells (x.cells q2 c2).toArray 62))
        have hc := Lib.hid (ih x (by omega) _ _ _ lx (d + 1) t _ _ X2 LX hV2 (by omega) (by omega))
        have e3 : ((d + 1 : Nat) : Int) = (d : Int) + 1 := by omega
        rw [e3] at hc
        simp only [Vl.cells] at hc
        clear X2 e3 hX
        go_wp2_with fail
        refine hc.out.mono ?_
        rintro e w4 ⟨ok, t2, rfl, H5, hok⟩
        clear hc d0 d1 d2 d3
        cases ok with
        | false =>
          go_wp2_with fail
          go_returns
          exact ⟨false, _, rfl, H5.swap.drop, fun h => by cases h⟩
        | true =>
          obtain ⟨h1, h2, h3, h4⟩ := hok rfl
          obtain ⟨t3, rfl⟩ := Int.eq_ofNat_of_zero_le h4
          clear hok
          go_wp2_with fail
          refine ⟨⟨i + 1, t3, by go_num, by omega, H5, ?_, ?_⟩, by simp [intOf]; omega⟩
          · rw [HT.out]; exact Fo.of_snoc_txt _ _ hT ⟨h1, h2⟩
          · rw [HT.out, Fo.of_snoc_size]; omega
      · have hi' : i = v.l.vals.length := by omega
        have i7 : ¬ (i : Int) < v.l.len := by omega
        rw [hi', List.take_of_length_le (Nat.le_refl _), Fo.vals_of] at hT hS
        go_wp2_with fail
        go_returns
        exact ⟨true, t, rfl, hX.swap.drop, fun _ => ⟨by omega, hT, by omega, by omega⟩⟩
def Im.Small (p : Im) : Prop := p.code.length ≤ 600 ∧ p.consts.len ≤ 70 ∧ p.names.length ≤ 40 ∧ p.consts.txt ∧ p.consts.size ≤ 400
def SmIs (p : Im) (e : Ending) : Prop := ∃ ok : Bool, e = .returned (.bool ok) ∧ (ok = true → p.Small)
def SmRel (w : World) (lx : Nat) (ps : List Asr) (l : List Vl) (k : Value) (wr : World) : Prop :=
  ∃ (i t : Nat), k = .int .i64 i ∧ i ≤ l.length ∧ Has w wr (blkA lx 3 #[.int .i64 t] :: ps) ∧ (Fo.of (l.take i)).txt ∧ t + (Fo.of (l.take i)).size = 400
def SnRel (w : World) (n : Nat) (k : Value) (wr : World) : Prop := ∃ (i : Nat), k = .int .i64 i ∧ i ≤ n ∧ Ext w wr
set_option maxHeartbeats 4000000 in
theorem small_any (p : Im) (a : Ip) (W : World) (hI : ImAt W a p) :
    Calls Try.prog 11 #[.agg (p.cells a).toArray] W fun e W' => SmIs p e ∧ Ext W W' := by
  obtain ⟨pc, cc, pk, ck, pn, cn⟩ := a
  have H1 := (Has.nil (Ext.refl W)).new .nil 26 (p.cells ⟨pc, cc, pk, ck, pn, cn⟩).toArray
  simp only [Im.cells] at H1
  have hIk := hI.consts
  have hIn := hI.names
  simp only at hIk hIn
  have hkl := hIk.len
  have hkc := hIk.cap
  have hnl := hI.namesOk.len
  have hnc := hI.namesOk.cap
  unfold Go.maxLen at hkc hnc
  simp only at hkl hkc hnl hnc
  have hvl := p.consts.vals_len
  go_enter Try.func11, Try.ntmps11
  simp only [Im.cells]
  go_upto_region 1 with fail
  generalize World.alloc _ _ = W1 at *
  generalize W.heap.size = bx at *
  have hbl := H1.blk0
  have b0 : W1.cell? ⟨bx, 0, none⟩ = some (.slice pc p.code.length cc) := hbl.cell 0
  have b1 : W1.cell? ⟨bx, 1, none⟩ = some (.slice pk p.consts.len ck) := hbl.cell 1
  have b2 : W1.cell? ⟨bx, 2, none⟩ = some (.slice pn p.names.length cn) := hbl.cell 2
  have H2 := H1.new (.cons (blkA_loc _ _ _) .nil) 3 #[.int .i64 400]
  clear hbl
  by_cases hr1 : (600 : Int) < p.code.length
  · clear H2
    go_wp2_with fail
    go_returns
    exact ⟨⟨false, rfl, fun h => by cases h⟩, H1.base⟩
  by_cases hr2 : (70 : Int) < p.consts.len
  · clear H2
    go_wp2_with fail
    go_returns
    exact ⟨⟨false, rfl, fun h => by cases h⟩, H1.base⟩
  by_cases hr3 : (40 : Int) < p.names.length
  · clear H2
    go_wp2_with fail
    go_returns
    exact ⟨⟨false, rfl, fun h => by cases h⟩, H1.base⟩
  go_upto_region 4 with fail
  generalize World.alloc W1 _ = W2 at *
  generalize hlx : Array.size (World.heap W1) = lx at *
  have L2 : Locs [blkA bx 26 #[.slice pc p.code.length cc, .slice pk p.consts.len ck, .slice pn p.names.length cn, .int .i64 p.places]] := .cons (blkA_loc _ _ _) .nil
  have hbl := H2.swap.blk0
  clear b0 b1 b2
  have b1 : W2.cell? ⟨bx, 1, none⟩ = some (.slice pk p.consts.len ck) := hbl.cell 1
  clear hbl
  go_wp2_with fail
  go_loopw [27] (fun k wr => SmRel W lx [blkA bx 26 #[.slice pc p.code.length cc, .slice pk p.consts.len ck, .slice pn p.names.length cn, .int .i64 p.places]] p.consts.vals k wr) (fun k _ => ((p.consts.len : Int) + 1 - intOf k).toNat)
  case atStart => exact ⟨0, 400, rfl, Nat.zero_le _, H2, trivial, by simp [Fo.of, Fo.size]⟩
  case round =>
    obtain ⟨i, t, rfl, hi, hX, hT, hS⟩ := hrel
    clear H1 H2 b1 hlx
    by_cases hlt : i < p.consts.vals.length
    · obtain ⟨b, o, q2, c2, hq, hV2, d0, d1, d2, d3⟩ := hIk.at.fo.get i hlt
      have hmem := List.getElem_mem hlt
      have hsz := Fo.size_mem hmem
      have htk : p.consts.vals.take (i + 1) = p.consts.vals.take i ++ [p.consts.vals[i]] := by rw [List.take_succ_eq_append_getElem hlt]
      have HT := Lib.hid htk
      clear htk
      simp only at hq hV2 d0 d1 d2 d3
      subst hq
      generalize p.consts.vals[i] = x at *
      replace d0 := cell_ext hX.base d0
      replace d1 := cell_ext hX.base d1
      replace d2 := cell_ext hX.base d2
      replace d3 := cell_ext hX.base d3
      rw [Nat.zero_add, Nat.mul_comm 4 i] at d0 d1 d2 d3
      have i7 : (i : Int) < p.consts.len := by omega
      have X2 := hX.ext (.cons (blkA_loc _ _ _) L2) (ext_alloc wr (.cells (x.cells q2 c2).toArray 62))
      have hc := Lib.hid (fits_n _ x (Nat.lt_succ_self _) _ _ _ lx 0 t _ _ X2 L2 hV2 (by omega) (by omega))
      have e3 : ((0 : Nat) : Int) = 0 := rfl
      rw [e3] at hc
      simp only [Vl.cells] at hc
      clear X2 e3 hX
      go_wp2_with fail
      refine hc.out.mono ?_
      rintro e w4 ⟨ok, t2, rfl, H5, hok⟩
      clear hc d0 d1 d2 d3
      cases ok with
      | false =>
        go_wp2_with fail
        go_returns
        exact ⟨⟨false, rfl, fun h => by cases h⟩, H5.base⟩
      | true =>
        obtain ⟨h1, h2, h3, h4⟩ := hok rfl
        obtain ⟨t3, rfl⟩ := Int.eq_ofNat_of_zero_le h4
        clear hok
        go_wp2_with fail
        refine ⟨⟨i + 1, t3, by go_num, by omega, H5, ?_, ?_⟩, by simp [intOf]; omega⟩
        · rw [HT.out]; exact Fo.of_snoc_txt _ _ hT ⟨h1, h2⟩
        · rw [HT.out, Fo.of_snoc_size]; omega
    · have hi' : i = p.consts.vals.length := by omega
      have i7 : ¬ (i : Int) < p.consts.len := by omega
      rw [hi', List.take_of_length_le (Nat.le_refl _), Fo.vals_of] at hT hS
      have b2 : wr.cell? ⟨bx, 2, none⟩ = some (.slice pn p.names.length cn) := hX.swap.blk0.cell 2
      have hEr := hX.base
      have HS := Lib.hid hS
      have HT2 := Lib.hid hT
      clear hX hS hT
      go_wp2_with fail
      go_loopw [38] (fun k wn => SnRel wr p.names.length k wn) (fun k _ => ((p.names.length : Int) + 1 - intOf k).toNat)
      case atStart => exact ⟨0, rfl, Nat.zero_le _, Ext.refl _⟩
      case round =>
        obtain ⟨j, rfl, hj, hE2⟩ := hrel
        clear b2
        by_cases hjt : j < p.names.length
        · obtain ⟨b, o, hq, _, d0⟩ := hIn j hjt
          subst hq
          generalize p.names[j] = s at *
          replace d0 := cell_ext (hEr.trans hE2) d0
          have j7 : (j : Int) < p.names.length := by omega
          have hsz : ((⟨s.toArray⟩ : ByteArray).size : Int) = s.length := rfl
          by_cases h2 : (200 : Int) < ((⟨s.toArray⟩ : ByteArray).size : Int)
          · have h3 : (200 : Int) < s.length := by omega
            clear hsz
            go_wp2_with fail
            go_returns
            exact ⟨⟨false, rfl, fun h => by cases h⟩, hEr.trans hE2⟩
          · have h3 : ¬ (200 : Int) < s.length := by omega
            clear hsz
            go_wp2_with fail
            exact ⟨⟨j + 1, by go_num, by omega, hE2⟩, by simp [intOf]; omega⟩
        · have j7 : ¬ (j : Int) < p.names.length := by omega
          go_wp2_with fail
          go_returns
          exact ⟨⟨true, rfl, fun _ => ⟨by omega, by omega, by omega, HT2.out, by have := HS.out; omega⟩⟩, hEr.trans hE2⟩
theorem Fo.txt_mem : ∀ {f : Fo} {v : Vl}, f.txt → v ∈ f.vals → v.s.length ≤ 1100 ∧ v.l.txt
  | .nil, v, _, h => by simp [Fo.vals] at h
  | .node k n s sub r, v, ho, h => by
    rw [Fo.vals] at h
    rcases List.mem_cons.1 h with rfl | h
    · exact ⟨ho.1, ho.2.1⟩
    · exact Fo.txt_mem ho.2.2 h
theorem Im.Small.bytes {p : Im} (h : p.Small) (hok : p.ok) : ∀ v ∈ p.consts.vals, v.bytes.length ≤ 70368744170000 := fun v hv => by
  obtain ⟨_, _, _, h4, h5⟩ := h
  have h6 := Fo.bytes_small p.consts hok.consts h4 (by omega)
  rw [Fo.bytes_vals] at h6
  obtain ⟨l1, l2, hl⟩ := List.append_of_mem hv
  rw [hl, List.flatMap_append, List.flatMap_cons] at h6
  simp only [List.length_append] at h6
  omega
end Go.Proofs.Ytkkhcpknldlpoaa

namespace Go.Proofs.Ytkkhcpknldlpoaa
set_option maxRecDepth 4000
set_option linter.unusedVariables false
set_option linter.unusedSimpArgs false
open Go Go.RowKit
theorem Im.bytes_le {p : Im} (h : p.check = 0) : p.bytes.length ≤ 41000 := by
  have hf := Im.fine h
  have h1 := flat_len (l := p.consts.vals) (f := Vl.bytes) (c := 512) fun v hv => check_bytes (hf.consts v hv)
  have h2 := flat_len (l := p.names) (f := nameB) (c := 74) fun v hv => nameB_len (hf.names v hv)
  have h3 := flat_len (l := p.code) (f := instrB) (c := 11) fun v hv => instrB_len (hf.code v hv).2.2
  rw [Fo.vals_len] at h1
  have f1 := hf.ncode
  have f2 := hf.nconsts
  have f3 := hf.nnames
  have f4 := hf.nplaces
  have n1 : (numB p.places.toNat).length ≤ 10 := numB_len (by omega)
  have n2 : (numB p.consts.len).length ≤ 10 := numB_len (by omega)
  have n3 : (numB p.names.length).length ≤ 10 := numB_len (by omega)
  have n4 : (numB p.code.length).length ≤ 10 := numB_len (by omega)
  unfold Im.bytes
  simp only [List.length_append]
  omega
theorem Im.vals_le {p : Im} (h : p.check = 0) : ∀ v ∈ p.consts.vals, v.bytes.length ≤ 70368744170000 := fun v hv => by
  have := check_bytes ((Im.fine h).consts v hv)
  omega
set_option maxHeartbeats 4000000 in
theorem same_any (p q : Im) (a b : Ip) (W : World) (hI : ImAt W a p) (hJ : ImAt W b q) (hok : p.ok) (hoq : q.ok) (hp : p.check = 0) (hq : q.check = 0) (he : p.bytes = q.bytes) :
    Calls Try.prog 17 #[.agg (p.cells a).toArray, .agg (q.cells b).toArray] W fun e W' => e = .returned (.bool true) ∧ Ext W W' := by
  have hcz : (p.cells a).toArray = #[.slice a.pc p.code.length a.cc, .slice a.pk p.consts.len a.ck, .slice a.pn p.names.length a.cn, .int .i64 p.places] := rfl
  have hcy : (q.cells b).toArray = #[.slice b.pc q.code.length b.cc, .slice b.pk q.consts.len b.ck, .slice b.pn q.names.length b.cn, .int .i64 q.places] := rfl
  have H1 := ((Has.nil (Ext.refl W)).new .nil 26 (p.cells a).toArray).new (.cons (blkA_loc _ _ _) .nil) 26 (q.cells b).toArray
  have hE0 := H1.base
  have hba := H1.swap.blk0
  have hbb := H1.blk0
  clear H1
  rw [hcz] at hba hbb hE0 ⊢
  rw [hcy] at hba hbb hE0 ⊢
  go_enter Try.func17, Try.ntmps17
  go_upto_region 1 with fail
  generalize World.alloc (World.alloc _ _) _ = w0 at *
  have hsz : (W.alloc (.cells #[.slice a.pc p.code.length a.cc, .slice a.pk p.consts.len a.ck, .slice a.pn p.names.length a.cn, .int .i64 p.places] 26)).heap.size = W.heap.size + 1 := by simp
  rw [hsz] at hbb
  generalize W.heap.size = bx at *
  generalize bx + 1 = cx at *
  have x0 : ∀ z : ExtOf w0, z.val.cell? ⟨bx, 0, none⟩ = some (.slice a.pc p.code.length a.cc) := fun z => (z.property.cell _ _ hba.lt).trans (hba.cell 0)
  have x1 : ∀ z : ExtOf w0, z.val.cell? ⟨bx, 1, none⟩ = some (.slice a.pk p.consts.len a.ck) := fun z => (z.property.cell _ _ hba.lt).trans (hba.cell 1)
  have x2 : ∀ z : ExtOf w0, z.val.cell? ⟨bx, 2, none⟩ = some (.slice a.pn p.names.length a.cn) := fun z => (z.property.cell _ _ hba.lt).trans (hba.cell 2)
  have x3 : ∀ z : ExtOf w0, z.val.cell? ⟨bx, 3, none⟩ = some (.int .i64 p.places) := fun z => (z.property.cell _ _ hba.lt).trans (hba.cell 3)
  have y0 : ∀ z : ExtOf w0, z.val.cell? ⟨cx, 0, none⟩ = some (.slice b.pc q.code.length b.cc) := fun z => (z.property.cell _ _ hbb.lt).trans (hbb.cell 0)
  have y1 : ∀ z : ExtOf w0, z.val.cell? ⟨cx, 1, none⟩ = some (.slice b.pk q.consts.len b.ck) := fun z => (z.property.cell _ _ hbb.lt).trans (hbb.cell 1)
  have y2 : ∀ z : ExtOf w0, z.val.cell? ⟨cx, 2, none⟩ = some (.slice b.pn q.names.length b.cn) := fun z => (z.property.cell _ _ hbb.lt).trans (hbb.cell 2)
  have y3 : ∀ z : ExtOf w0, z.val.cell? ⟨cx, 3, none⟩ = some (.int .i64 q.places) := fun z => (z.property.cell _ _ hbb.lt).trans (hbb.cell 3)
  have C1 : ∀ z : ExtOf w0, Calls Try.prog 12 #[.agg #[.slice a.pc p.code.length a.cc, .slice a.pk p.consts.len a.ck, .slice a.pn p.names.length a.cn, .int .i64 p.places]] z.val fun e W' => e = .returned (.int .i64 0) ∧ ∃ y : ExtOf w0, W' = y.val := fun z => by
    have h := rimcheck_any p a z.val ((hI.ext hE0).ext z.property) hok (Im.vals_le hp)
    rw [hcz, hp] at h
    exact quiet_ext h
  have C2 : ∀ z : ExtOf w0, Calls Try.prog 12 #[.agg #[.slice b.pc q.code.length b.cc, .slice b.pk q.consts.len b.ck, .slice b.pn q.names.length b.cn, .int .i64 q.places]] z.val fun e W' => e = .returned (.int .i64 0) ∧ ∃ y : ExtOf w0, W' = y.val := fun z => by
    have h := rimcheck_any q b z.val ((hJ.ext hE0).ext z.property) hoq (Im.vals_le hq)
    rw [hcy, hq] at h
    exact quiet_ext h
  have B1 : ∀ z : ExtOf w0, Calls Try.prog 16 #[.agg #[.slice a.pc p.code.length a.cc, .slice a.pk p.consts.len a.ck, .slice a.pn p.names.length a.cn, .int .i64 p.places]] z.val fun e W' => e = .returned (.string (strOf p.bytes)) ∧ ∃ y : ExtOf w0, W' = y.val := fun z => by
    have h := rimbytes_any p a z.val ((hI.ext hE0).ext z.property) hok hp
    rw [hcz] at h
    exact quiet_ext h
  have B2 : ∀ z : ExtOf w0, Calls Try.prog 16 #[.agg #[.slice b.pc q.code.length b.cc, .slice b.pk q.consts.len b.ck, .slice b.pn q.names.length b.cn, .int .i64 q.places]] z.val fun e W' => e = .returned (.string (strOf p.bytes)) ∧ ∃ y : ExtOf w0, W' = y.val := fun z => by
    have h := rimbytes_any q b z.val ((hJ.ext hE0).ext z.property) hoq hq
    rw [hcy, ← he] at h
    exact quiet_ext h
  generalize strOf p.bytes = s at *
  refine region_ext (by kernel_rfl) (by kernel_rfl) ?_
  repeat (go_big_quiet_step (first | (with_reducible exact C1 _) | (with_reducible exact C2 _) | (with_reducible exact B1 _) | (with_reducible exact B2 _)))
  refine wpQuiet_nil ?_
  intro wq hq
  obtain ⟨xq, rfl⟩ := hq
  have hEq := xq.property
  generalize xq.val = wq at *
  clear xq
  clear x0 x1 x2 x3 y0 y1 y2 y3 C1 C2 B1 B2
  go_wp2_with fail
  go_returns
  exact ⟨rfl, hE0.trans hEq⟩
end Go.Proofs.Ytkkhcpknldlpoaa

namespace Go.Proofs.Ytkkhcpknldlpoaa
set_option maxRecDepth 4000
set_option linter.unusedVariables false
set_option linter.unusedSimpArgs false
open Go Go.RowKit
def IcOwn (W : World) (p : Im) (e : Ending) (W' : World) : Prop := ∃ (a : Ip) (es : List El), e = .returned (.agg (p.clone.cells a).toArray) ∧ Fo.of (es.map Prod.fst) = p.clone.consts ∧
  Has W W' [rvA 62 (.slice a.pk p.clone.consts.len a.ck) es, rowA 9 1 (.slice a.pn p.names.length a.cn) p.names.length (p.names.map nmV), rowA 52 2 (.slice a.pc p.code.length a.cc) p.code.length (cdVs p.code)]
set_option maxHeartbeats 4000000 in
theorem imclone_own (p : Im) (a : Ip) (W : World) (hI : ImAt W a p) (hf : p.Fine) :
    Calls Try.prog 18 #[.agg (p.cells a).toArray] W fun e W' => IcOwn W p e W' := by
  obtain ⟨i0, hi0, hz0, hz1, hz2⟩ := info_parts valueInfo
  obtain ⟨j0, hj0, hj1, hj2, hj3⟩ := info_parts strInfoI
  obtain ⟨k0, hk0, hk1, hk2, hk3⟩ := info_parts instrInfo
  obtain ⟨pc, cc, pk, ck, pn, cn⟩ := a
  obtain ⟨hIc, hIo, hIk, hIn, hIq⟩ := hI
  simp only at hIc hIo hIk hIn hIq
  have H1 := (Has.nil (Ext.refl W)).new .nil 26 (p.cells ⟨pc, cc, pk, ck, pn, cn⟩).toArray
  have L1 : Locs [blkA W.heap.size 26 (p.cells ⟨pc, cc, pk, ck, pn, cn⟩).toArray] := .cons (blkA_loc _ _ _) .nil
  have H2 := H1.new L1 26 imzV.toArray
  have L2 := Locs.cons (blkA_loc (W.alloc (.cells (p.cells ⟨pc, cc, pk, ck, pn, cn⟩).toArray 26)).heap.size 26 imzV.toArray) L1
  have H3 := H2.new L2 26 #[.slice none 0 0, .slice none 0 0, .slice none 0 0, .int .i64 p.places]
  have e1 : (W.alloc (.cells (p.cells ⟨pc, cc, pk, ck, pn, cn⟩).toArray 26)).heap.size = W.heap.size + 1 := by simp
  have e2 : ((W.alloc (.cells (p.cells ⟨pc, cc, pk, ck, pn, cn⟩).toArray 26)).alloc (.cells imzV.toArray 26)).heap.size = W.heap.size + 1 + 1 := by simp
  rw [e1, e2] at H3
  simp only [Im.cells, imzV] at H3
  clear H1 H2 L1 L2 e1 e2
  have f1 := hf.ncode
  have f2 := hf.nconsts
  have f3 := hf.nnames
  go_enter Try.func18, Try.ntmps18
  simp only [Im.cells]
  go_upto_region 2 with fail
  generalize World.alloc _ _ = W3 at *
  generalize hbx : W.heap.size = bx at *
  generalize hrx : bx + 1 = rx at *
  generalize hox : rx + 1 = ox at *
  clear hbx hrx hox
  have L1 : Locs [blkA bx 26 #[.slice pc p.code.length cc, .slice pk p.consts.len ck, .slice pn p.names.length cn, .int .i64 p.places]] := .cons (blkA_loc _ _ _) .nil
  have L2 : Locs [zrB rx, blkA bx 26 #[.slice pc p.code.length cc, .slice pk p.consts.len ck, .slice pn p.names.length cn, .int .i64 p.places]] := .cons (blkA_loc _ _ _) L1
  have b0 : W3.cell? ⟨bx, 0, none⟩ = some (.slice pc p.code.length cc) := H3.third.blk0.cell 0
  have o0 : W3.cell? ⟨ox, 0, none⟩ = some (.slice none 0 0) := H3.blk0.cell 0
  have H4 := H3.rowNil (.cons (blkA_loc _ _ _) L2) 52 2
  have hnews := (hIc.keep fun k _ hl => H3.base.block k hl).news
  go_wp2_with (at_builtin; refine wpList_append_new rfl _ _ 22 rfl 52 k0 (.agg #[.int .i64 0, .int .i64 0]) 2 16 Try.underlying22 hk0 hk1 hk2 hk3 rfl (by decide) _ 0 [] rfl H4.row0 pc p.code.length cc (cdVs p.code) rfl (cdVs_length _) hIo.nil_ hnews (cdVs_one _) (by unfold maxLen; omega) (by omega) ?_)
  intro vc w4 hown hg hfr
  have H5 := H4.grow (.cons (blkA_loc _ _ _) L2) hown hg hfr
  (try rw [Nat.zero_add, List.nil_append] at H5)
  obtain ⟨qc, gc, rfl⟩ : ∃ q c, vc = .slice q p.code.length c := by
    first
      | exact ownsRow_slice hown
      | (rw [Nat.zero_add] at hown; exact ownsRow_slice hown)
  clear H3 H4 b0 o0 hnews hown hg hfr
  have o0 : w4.cell? ⟨ox, 0, none⟩ = some (.slice none 0 0) := H5.swap.blk0.cell 0
  have g0 := H5.swap.blk0.frozen 0
  have H6 := H5.swap.setB (.cons (rowA_loc _ _ _ _ _) L2) 0 (.slice qc p.code.length gc)
  simp only [List.setIfInBounds_toArray, List.set_cons_succ, List.set_cons_zero] at H6
  clear H5
  go_upto_region 3 with fail
  generalize World.setCell _ _ _ = w5 at *
  clear o0 g0
  have H7 := H6.rvnil (.cons (blkA_loc _ _ _) (.cons (rowA_loc _ _ _ _ _) L2)) 62
  have H8 := Has.pick (l := [_, _, _, _, _]) H7 [0, 1, 3, 4, 2] rfl
  simp only [pickA, List.map_cons, List.map_nil, List.getD_cons_zero, List.getD_cons_succ, List.cons_append, List.nil_append] at H8
  clear H6 H7
  have b1 : w5.cell? ⟨bx, 1, none⟩ = some (.slice pk p.consts.len ck) := by
    have Hq := Has.pick (l := [_, _, _, _, _]) H8 [3, 0, 1, 2, 4] rfl
    simp only [pickA, List.map_cons, List.map_nil, List.getD_cons_zero, List.getD_cons_succ, List.cons_append, List.nil_append] at Hq
    exact Hq.blk0.cell 1
  have hvl := p.consts.vals_len
  go_wp2_with fail
  clear b1
  go_loopw [18] (fun k wr => IcRel W p (.slice qc p.code.length gc) bx rx ox #[.slice pc p.code.length cc, .slice pk p.consts.len ck, .slice pn p.names.length cn, .int .i64 p.places] k wr) (fun k _ => ((p.consts.len : Int) + 1 - intOf k).toNat)
  case atStart => exact ⟨0, .slice none 0 0, [], rfl, Nat.zero_le _, rfl, H8⟩
  case round =>
    clear H8
    obtain ⟨i, sl, es, rfl, hi, hes, hX⟩ := hrel
    have hel : es.length = i := by
      have := congrArg List.length hes
      simp only [List.length_map, List.length_take] at this
      omega
    obtain ⟨ps, cs, hsl⟩ : ∃ p c, sl = .slice p i c := by
      obtain ⟨F, hF⟩ := hX.head
      exact hel ▸ RowV.slice hF
    subst hsl
    by_cases hlt : i < p.consts.vals.length
    · obtain ⟨b, o, q2, c2, hq, hV2, d0, d1, d2, d3⟩ := hIk.at.fo.get i hlt
      have hmem := List.getElem_mem hlt
      have hthx := check_thin (hf.consts _ hmem)
      have hes2 : (p.consts.vals.take (i + 1)).map Vl.clone = (p.consts.vals.take i).map Vl.clone ++ [p.consts.vals[i].clone] := by
        rw [List.take_succ_eq_append_getElem hlt, List.map_append]; rfl
      have HES := Lib.hid hes2
      have HE0 := Lib.hid hes
      simp only at hq hV2 d0 d1 d2 d3
      subst hq
      clear hes2 hes
      have LX : Locs [rvA 62 (.slice ps i cs) es, blkA ox 26 #[.slice qc p.code.length gc, .slice ps i cs, .slice none 0 0, .int .i64 p.places], zrB rx, blkA bx 26 #[.slice pc p.code.length cc, .slice (some ⟨b, o, none⟩) p.consts.len ck, .slice pn p.names.length cn, .int .i64 p.places], rowA 52 2 (.slice qc p.code.length gc) p.code.length (cdVs p.code)] := .cons (rvA_loc _ _ _) (.cons (blkA_loc _ _ _) (.cons (blkA_loc _ _ _) (.cons (blkA_loc _ _ _) (.cons (rowA_loc _ _ _ _ _) .nil))))
      generalize p.consts.vals[i] = x at *
      replace d0 := cell_ext hX.base d0
      replace d1 := cell_ext hX.base d1
      replace d2 := cell_ext hX.base d2
      replace d3 := cell_ext hX.base d3
      rw [Nat.zero_add, Nat.mul_comm 4 i] at d0 d1 d2 d3
      have i7 : (i : Int) < p.consts.len := by omega
      have X2 := hX.new LX 62 (x.cells q2 c2).toArray
      have hbx2 := X2.blk0
      have hbo2 := X2.third.blk0
      simp only [Vl.cells] at X2 hbx2 hbo2
      go_upto_region 6 with fail
      generalize World.alloc _ _ = wr2 at *
      generalize wr.heap.size = xb at *
      clear d0 d1 d2 d3 hX
      have o3 : ∀ y : Of (fun X => Blk X ox 26 #[.slice qc p.code.length gc, .slice ps i cs, .slice none 0 0, .int .i64 p.places] ∧ Blk X xb 62 #[.int .i64 x.k, .int .i64 x.n, .string ⟨x.s.toArray⟩, .slice q2 x.l.len c2]), y.val.cell? ⟨ox, 1, none⟩ = some (.slice ps i cs) := fun y => y.property.1.cell 1
      have x0 : ∀ y : Of (fun X => Blk X ox 26 #[.slice qc p.code.length gc, .slice ps i cs, .slice none 0 0, .int .i64 p.places] ∧ Blk X xb 62 #[.int .i64 x.k, .int .i64 x.n, .string ⟨x.s.toArray⟩, .slice q2 x.l.len c2]), y.val.cell? ⟨xb, 0, none⟩ = some (.int .i64 x.k) := fun y => y.property.2.cell 0
      have x1 : ∀ y : Of (fun X => Blk X ox 26 #[.slice qc p.code.length gc, .slice ps i cs, .slice none 0 0, .int .i64 p.places] ∧ Blk X xb 62 #[.int .i64 x.k, .int .i64 x.n, .string ⟨x.s.toArray⟩, .slice q2 x.l.len c2]), y.val.cell? ⟨xb, 1, none⟩ = some (.int .i64 x.n) := fun y => y.property.2.cell 1
      have x2 : ∀ y : Of (fun X => Blk X ox 26 #[.slice qc p.code.length gc, .slice ps i cs, .slice none 0 0, .int .i64 p.places] ∧ Blk X xb 62 #[.int .i64 x.k, .int .i64 x.n, .string ⟨x.s.toArray⟩, .slice q2 x.l.len c2]), y.val.cell? ⟨xb, 2, none⟩ = some (.string ⟨x.s.toArray⟩) := fun y => y.property.2.cell 2
      have x3 : ∀ y : Of (fun X => Blk X ox 26 #[.slice qc p.code.length gc, .slice ps i cs, .slice none 0 0, .int .i64 p.places] ∧ Blk X xb 62 #[.int .i64 x.k, .int .i64 x.n, .string ⟨x.s.toArray⟩, .slice q2 x.l.len c2]), y.val.cell? ⟨xb, 3, none⟩ = some (.slice q2 x.l.len c2) := fun y => y.property.2.cell 3
      have hV3 : VlAt wr2.drew q2 c2 x := (hV2.ext X2.base).ext (Ext.refl _).drew
      have hc := clone_n _ x (Nat.lt_succ_self _) wr2.drew q2 c2 hV3 hthx
      simp only [Vl.cells] at hc
      have HCL := Lib.hid hc
      clear hc hV2 hV3 hmem hthx
      have hFd := (And.intro hbo2.drew hbx2.drew)
      have hne_ : Nonempty (Of ((fun X => Blk X ox 26 #[.slice qc p.code.length gc, .slice ps i cs, .slice none 0 0, .int .i64 p.places] ∧ Blk X xb 62 #[.int .i64 x.k, .int .i64 x.n, .string ⟨x.s.toArray⟩, .slice q2 x.l.len c2]))) := ⟨⟨_, hFd⟩⟩
      refine region_planZ 7 (.seg [0,2,1,3,4,5,6] [true,true,true,false,false,false,true] .done) ((fun X => Blk X ox 26 #[.slice qc p.code.length gc, .slice ps i cs, .slice none 0 0, .int .i64 p.places] ∧ Blk X xb 62 #[.int .i64 x.k, .int .i64 x.n, .string ⟨x.s.toArray⟩, .slice q2 x.l.len c2])) (by kernel_rfl) (by kernel_rfl) hFd ?_
      refine walkZ_seg ?_
      simp only [List.filterMap_cons, List.filterMap_nil, List.getElem?_cons_zero, List.getElem?_cons_succ]
      refine steps_quiet 3 (by kernel_rfl) ?_
      simp only [List.take_succ_cons, List.take_zero, List.drop_succ_cons, List.drop_zero]
      repeat (go_big_quiet_step (fail))
      refine wpQuiet_nil ?_
      clear o3 x0 x1 x2 x3
      have LX2 : Locs [blkA xb 62 #[.int .i64 x.k, .int .i64 x.n, .string ⟨x.s.toArray⟩, .slice q2 x.l.len c2], rvA 62 (.slice ps i cs) es, blkA ox 26 #[.slice qc p.code.length gc, .slice ps i cs, .slice none 0 0, .int .i64 p.places], zrB rx, blkA bx 26 #[.slice pc p.code.length cc, .slice (some ⟨b, o, none⟩) p.consts.len ck, .slice pn p.names.length cn, .int .i64 p.places], rowA 52 2 (.slice qc p.code.length gc) p.code.length (cdVs p.code)] := .cons (blkA_loc _ _ _) LX
      have X3 := X2.ext LX2 (Ext.refl _).drew
      refine steps_want rfl (fun K hK => ?_)
      go_simp
      refine HCL.out.mono ?_
      rintro e w6 ⟨⟨q3, c3, rfl, hvx⟩, hE4⟩
      clear HCL
      generalize x.clone = xc at *
      have Y4 := X3.vl LX2 hE4 hvx
      have LY4 := Locs.cons (vlA_loc q3 c3 xc) LX2
      clear X3 X2 hvx hE4 hbo2 hbx2
      have Y4b := Has.pick (l := [_, _, _, _]) Y4 [3, 1, 0, 2] rfl
      simp only [pickA, List.map_cons, List.map_nil, List.getD_cons_zero, List.getD_cons_succ, List.cons_append, List.nil_append] at Y4b
      refine hK _ _ (fun X => Blk X ox 26 #[.slice qc p.code.length gc, .slice ps i cs, .slice none 0 0, .int .i64 p.places] ∧ Blk X xb 62 #[.int .i64 x.k, .int .i64 x.n, .string ⟨x.s.toArray⟩, .slice q2 x.l.len c2]) ⟨Y4b.blk0, Y4b.swap.blk0⟩ (fun _ h => h) ?_
      clear hK K Y4b
      (try simp only [Act.put, List.setIfInBounds_toArray, List.set_cons_succ, List.set_cons_zero])
      have Y5 := Y4.ext LY4 (ext_alloc w6 (.cells (xc.cells q3 c3).toArray 62))
      have hnews := news_new w6 (xc.cells q3 c3) 62
      simp only [Vl.cells] at Y5 hnews
      simp only [Vl.cells]
      refine steps_want rfl (fun K hK => ?_)
      go_simp
      generalize World.alloc _ _ = w7 at *
      clear Y4
      have Y5b := Has.pick (l := [_, _, _, _]) Y5 [3, 1, 0, 2] rfl
      simp only [pickA, List.map_cons, List.map_nil, List.getD_cons_zero, List.getD_cons_succ, List.cons_append, List.nil_append] at Y5b
      refine hK _ _ (fun X => Blk X ox 26 #[.slice qc p.code.length gc, .slice ps i cs, .slice none 0 0, .int .i64 p.places] ∧ Blk X xb 62 #[.int .i64 x.k, .int .i64 x.n, .string ⟨x.s.toArray⟩, .slice q2 x.l.len c2]) ⟨Y5b.blk0, Y5b.swap.blk0⟩ (fun _ h => h) ?_
      clear hK K Y5b
      (try simp only [Act.put, List.setIfInBounds_toArray, List.set_cons_succ, List.set_cons_zero])
      have Y6 := (Y5.third).rvx (e := (xc, q3, c3))
      have LY6 : Locs [blkA xb 62 #[.int .i64 x.k, .int .i64 x.n, .string ⟨x.s.toArray⟩, .slice q2 x.l.len c2], blkA ox 26 #[.slice qc p.code.length gc, .slice ps i cs, .slice none 0 0, .int .i64 p.places], zrB rx, blkA bx 26 #[.slice pc p.code.length cc, .slice (some ⟨b, o, none⟩) p.consts.len ck, .slice pn p.names.length cn, .int .i64 p.places], rowA 52 2 (.slice qc p.code.length gc) p.code.length (cdVs p.code)] := .cons (blkA_loc _ _ _) (.cons (blkA_loc _ _ _) (.cons (blkA_loc _ _ _) (.cons (blkA_loc _ _ _) (.cons (rowA_loc _ _ _ _ _) .nil))))
      obtain ⟨FR, hFR⟩ := Y6.head
      clear Y5
      refine steps_want rfl (fun K hK => ?_)
      refine wp_append_new _ _ 23 rfl 62 i0 (.agg zeroV.toArray) 4 56 Try.underlying23 hi0 hz0 hz1 hz2 rfl (by decide) _ i (els es) rfl (hel ▸ hFR.1.own) (some ⟨w6.heap.size, 0, none⟩) 1 1 (xc.cells q3 c3) rfl rfl (fun h => nomatch h) hnews (cells_one _ _ _) (by unfold maxLen; omega) (by omega) ?_
      intro v6 w8 hown6 hg6 hf6
      have Z6 := Y6.next LY6 (fun F hF => RowV.grow hF.1 hF.2 (hel.symm ▸ hown6) hg6 hf6)
      clear Y6 hFR hnews hown6 hg6 hf6
      obtain ⟨p6, c6, rfl⟩ : ∃ p c, v6 = .slice p (i + 1) c := by
        obtain ⟨F, hF⟩ := Z6.head
        obtain ⟨p, c, h⟩ := RowV.slice hF
        exact ⟨p, c, by rw [h, List.length_append, hel]; rfl⟩
      refine hK _ _ (fun X => Blk X ox 26 #[.slice qc p.code.length gc, .slice ps i cs, .slice none 0 0, .int .i64 p.places] ∧ Blk X xb 62 #[.int .i64 x.k, .int .i64 x.n, .string ⟨x.s.toArray⟩, .slice q2 x.l.len c2]) ⟨Z6.third.blk0, Z6.swap.blk0⟩ (fun _ h => h) ?_
      clear hK K
      (try simp only [Act.put, List.setIfInBounds_toArray, List.set_cons_succ, List.set_cons_zero])
      have o6 : w8.cell? ⟨ox, 1, none⟩ = some (.slice ps i cs) := Z6.third.blk0.cell 1
      have f6 := Z6.third.blk0.frozen 1
      refine steps_quiet 1 (by kernel_rfl) ?_
      simp only [List.take_succ_cons, List.take_zero, List.drop_succ_cons, List.drop_zero]
      repeat (go_big_quiet_step (fail))
      refine wpQuiet_nil ?_
      refine steps_end ?_
      refine walkZ_done rfl rfl (fun K hK => ?_)
      go_simp
      refine hK _ _ ?_
      clear hK K
      try simp only [Act.put, List.setIfInBounds_toArray, List.set_cons_succ, List.set_cons_zero]
      have Z7 := Z6.third.setB (.cons (rvA_loc _ _ _) (.cons (blkA_loc _ _ _) (.cons (blkA_loc _ _ _) (.cons (blkA_loc _ _ _) (.cons (rowA_loc _ _ _ _ _) .nil))))) 1 (.slice p6 (i + 1) c6)
      simp only [List.setIfInBounds_toArray, List.set_cons_succ, List.set_cons_zero] at Z7
      generalize World.setCell _ _ _ = w9 at *
      have Z8 := Z7.third.drop.swap
      clear Z6 Z7 o6 f6
      go_wp2_with fail
      refine ⟨⟨i + 1, .slice p6 (i + 1) c6, es ++ [(xc, q3, c3)], by go_num, by omega, ?_, Z8⟩, by simp [intOf]; omega⟩
      rw [HES.out, List.map_append, HE0.out]; rfl
    · have hi' : i = p.consts.len := by omega
      have i7 : ¬ (i : Int) < p.consts.len := by omega
      rw [List.take_of_length_le (by omega)] at hes
      have HE0 := Lib.hid hes
      have HI := Lib.hid hi'
      clear hes hi' hlt
      have LX : Locs [rvA 62 (.slice ps i cs) es, blkA ox 26 #[.slice qc p.code.length gc, .slice ps i cs, .slice none 0 0, .int .i64 p.places], zrB rx, blkA bx 26 #[.slice pc p.code.length cc, .slice pk p.consts.len ck, .slice pn p.names.length cn, .int .i64 p.places], rowA 52 2 (.slice qc p.code.length gc) p.code.length (cdVs p.code)] := .cons (rvA_loc _ _ _) (.cons (blkA_loc _ _ _) (.cons (blkA_loc _ _ _) (.cons (blkA_loc _ _ _) (.cons (rowA_loc _ _ _ _ _) .nil))))
      have b2 : wr.cell? ⟨bx, 2, none⟩ = some (.slice pn p.names.length cn) := by
        have Hq := Has.pick (l := [_, _, _, _, _]) hX [3, 0, 1, 2, 4] rfl
        simp only [pickA, List.map_cons, List.map_nil, List.getD_cons_zero, List.getD_cons_succ, List.cons_append, List.nil_append] at Hq
        exact Hq.blk0.cell 2
      have o2 : wr.cell? ⟨ox, 2, none⟩ = some (.slice none 0 0) := hX.swap.blk0.cell 2
      have H4 := hX.rowNil LX 9 1
      have hnews := (hIn.keep fun k _ hl => hX.base.block k hl).news
      clear hX
      go_wp2_with (at_builtin; refine wpList_append_new rfl _ _ 24 rfl 9 j0 (.string ⟨#[]⟩) 1 16 Try.underlying24 hj0 hj1 hj2 hj3 rfl (by decide) _ 0 [] rfl H4.row0 pn p.names.length cn (p.names.map nmV) rfl (by rw [List.length_map, Nat.mul_one]) hIq.nil_ hnews (nmV_one _) (by unfold maxLen; omega) (by omega) ?_)
      intro vn w6 hown hg hfr
      have H5 := H4.grow LX hown hg hfr
      (try rw [Nat.zero_add, List.nil_append] at H5)
      obtain ⟨qn, gn, rfl⟩ : ∃ q c, vn = .slice q p.names.length c := by
        first
          | exact ownsRow_slice hown
          | (rw [Nat.zero_add] at hown; exact ownsRow_slice hown)
      clear H4 b2 o2 hnews hown hg hfr
      have o2 : w6.cell? ⟨ox, 2, none⟩ = some (.slice none 0 0) := H5.third.blk0.cell 2
      have g2 := H5.third.blk0.frozen 2
      have H6 := H5.third.setB (.cons (rowA_loc _ _ _ _ _) (.cons (rvA_loc _ _ _) (.cons (blkA_loc _ _ _) (.cons (blkA_loc _ _ _) (.cons (rowA_loc _ _ _ _ _) .nil))))) 2 (.slice qn p.names.length gn)
      simp only [List.setIfInBounds_toArray, List.set_cons_succ, List.set_cons_zero] at H6
      clear H5
      go_upto_region 9 with fail
      generalize World.setCell _ _ _ = w7 at *
      clear o2 g2
      have H7 := Has.pick (l := [_, _, _, _, _, _]) H6 [2, 1, 5, 0, 3, 4] rfl
      simp only [pickA, List.map_cons, List.map_nil, List.getD_cons_zero, List.getD_cons_succ, List.cons_append, List.nil_append] at H7
      have hcells : p.clone.cells ⟨qc, gc, ps, cs, qn, gn⟩ = [.slice qc p.code.length gc, .slice ps i cs, .slice qn p.names.length gn, .int .i64 p.places] := by
        unfold Im.cells Im.clone
        simp only [Fo.clone_len]
        rw [HI.out]
      have hcl : Fo.of (es.map Prod.fst) = p.clone.consts := by
        rw [HE0.out, Fo.of_map_clone]; rfl
      have hcn : p.clone.consts.len = i := by
        show p.consts.clone.len = i
        rw [Fo.clone_len, HI.out]
      have HCE := Lib.hid hcells
      have HCL := Lib.hid hcl
      have HCN := Lib.hid hcn
      clear hcells hcl hcn H6
      have Hy := Has.pick (l := [_, _, _, _, _, _]) H7 [3, 0, 1, 2, 4, 5] rfl
      simp only [pickA, List.map_cons, List.map_nil, List.getD_cons_zero, List.getD_cons_succ, List.cons_append, List.nil_append] at Hy
      have hbo := Hy.blk0
      have o0 := hbo.cell 0
      have o1 := hbo.cell 1
      have o2 := hbo.cell 2
      have o3 := hbo.cell 3
      have Hz := Has.pick (l := [_, _, _, _, _, _]) H7 [4, 0, 1, 2, 3, 5] rfl
      simp only [pickA, List.map_cons, List.map_nil, List.getD_cons_zero, List.getD_cons_succ, List.cons_append, List.nil_append] at Hz
      clear Hy H7
      have hbr := Hz.blk0
      have r0 := hbr.cell 0
      have r1 := hbr.cell 1
      have r2 := hbr.cell 2
      have r3 := hbr.cell 3
      have g0 := hbr.frozen 0
      have g1 := hbr.frozen 1
      have g2 := hbr.frozen 2
      have g3 := hbr.frozen 3
      simp only [List.getElem?_toArray, List.getElem?_cons_zero, List.getElem?_cons_succ] at o0 o1 o2 o3 r0 r1 r2 r3
      have Z9 := (((Hz.setB (.cons (rvA_loc _ _ _) (.cons (rowA_loc _ _ _ _ _) (.cons (rowA_loc _ _ _ _ _) (.cons (blkA_loc _ _ _) (.cons (blkA_loc _ _ _) .nil))))) 0 (.slice qc p.code.length gc)).setB (.cons (rvA_loc _ _ _) (.cons (rowA_loc _ _ _ _ _) (.cons (rowA_loc _ _ _ _ _) (.cons (blkA_loc _ _ _) (.cons (blkA_loc _ _ _) .nil))))) 1 (.slice ps i cs)).setB (.cons (rvA_loc _ _ _) (.cons (rowA_loc _ _ _ _ _) (.cons (rowA_loc _ _ _ _ _) (.cons (blkA_loc _ _ _) (.cons (blkA_loc _ _ _) .nil))))) 2 (.slice qn p.names.length gn)).setB (.cons (rvA_loc _ _ _) (.cons (rowA_loc _ _ _ _ _) (.cons (rowA_loc _ _ _ _ _) (.cons (blkA_loc _ _ _) (.cons (blkA_loc _ _ _) .nil))))) 3 (.int .i64 p.places)
      simp only [List.setIfInBounds_toArray, List.set_cons_succ, List.set_cons_zero] at Z9
      clear Hz
      go_wp2_with fail
      generalize World.setCell _ _ _ = w99 at *
      clear o0 o1 o2 o3 r0 r1 r2 r3 g0 g1 g2 g3 hbr hbo
      have hbr := Z9.blk0
      have r0 := hbr.cell 0
      have r1 := hbr.cell 1
      have r2 := hbr.cell 2
      have r3 := hbr.cell 3
      simp only [List.getElem?_toArray, List.getElem?_cons_zero, List.getElem?_cons_succ] at r0 r1 r2 r3
      (try simp only [Exit.inBlock, Exit.then])
      refine bodyPost_ret (by simp [results, Try.results18, go_sem, r0, r1, r2, r3]; try rfl) rfl ?_
      have Zf := Has.pick (l := [_, _, _, _, _, _]) Z9 [0, 4, 5, 1, 2, 3] rfl
      simp only [pickA, List.map_cons, List.map_nil, List.getD_cons_zero, List.getD_cons_succ, List.cons_append, List.nil_append] at Zf
      refine ⟨⟨qc, gc, ps, cs, qn, gn⟩, es, by rw [HCE.out], HCL.out, ?_⟩
      rw [HCN.out]
      exact Zf.drop.drop.drop
end Go.Proofs.Ytkkhcpknldlpoaa

namespace Go.Proofs.Ytkkhcpknldlpoaa
set_option maxRecDepth 4000
set_option linter.unusedVariables false
set_option linter.unusedSimpArgs false
open Go Go.RowKit
theorem Has.small {w W : World} {p p' : Asr} {ps : List Asr} (h : Has w W (p :: ps)) (hp : ∀ F, p W F → ∃ F', p' W F' ∧ ∀ k, F' k → F k) : Has w W (p' :: ps) := by
  obtain ⟨F, h1, h2, h3⟩ := h
  obtain ⟨F', h4, h5⟩ := hp F h1
  exact ⟨F', h4, fun k hk => h2 k (h5 k hk), Side.weaken h3 fun k hk => hk.imp id (h5 k)⟩
/-- things made since X, beside things of w's own at X -/
theorem Side.join {w X Y : World} {ps : List Asr} (hps : Has w X ps) (hl : Locs ps) : ∀ {qs : List Asr} {Z : Nat → Prop}, Side X Y qs Z → (∀ k, Z k → X.heap.size ≤ k) → Side w Y (qs ++ ps) Z
  | [], _, hE, hZ => Side.step hl hps (Tch.of_ext hE) (hps.base.trans hE) (fun k hk => Or.inr (hZ k hk))
  | _ :: _, _, ⟨F, h1, h2, h3⟩, hZ => ⟨F, h1, fun k hk => ⟨Nat.le_trans hps.base.le (h2 k hk).1, (h2 k hk).2⟩, Side.join hps hl h3 (fun k hk => hk.elim (hZ k) (fun h => (h2 k h).1))⟩
theorem Has.join {qs : List Asr} {w X Y : World} {ps : List Asr} (h : Has w X ps) (hl : Locs ps) (h2 : Has X Y qs) : Has w Y (ps ++ qs) :=
  Side.perm List.perm_append_comm (Side.join h hl h2 fun _ hk => hk.elim)
theorem own_blk {W : World} {T sz n c : Nat} {q : Option Addr} {xs : List Value} (h : W.ownsRow 0 T sz (.slice q n c) n xs) (hn : 0 < n) : ∃ g cur, q = some ⟨g, 0, none⟩ ∧ Blk W g T cur ∧ n * sz ≤ cur.size := by
  rcases h.2 with ⟨h', h''⟩ | ⟨g', cap', cur, h', hb, hg, hnc, hcm, hcs, htake⟩
  · omega
  · injection h' with e1 e2 e3
    subst e1
    refine ⟨g', cur, rfl, hg, ?_⟩
    rw [hcs]; exact Nat.mul_le_mul_right _ hnc
section
variable {nm : List UInt8} {p : Im} {a : Ip} {w W : World} {ps : List Asr} {b : Nat}
theorem pimage_own (done : Bool) (hH : Has w W (blkA b 113 (pgS nm p a done).toArray :: imA a p :: ps)) (hf : p.Fine) :
    Calls Try.prog 29 #[.pointer (some ⟨b, 0, none⟩)] W fun e W' => IcOwn W p e W' := by
  obtain ⟨pc, cc, pk, ck, pn, cn⟩ := a
  have hI := hH.swap.im
  have c1 : W.cell? ⟨b, 1, none⟩ = some (.slice pc p.code.length cc) := by cases done <;> exact hH.blk0.cell 1
  have c2 : W.cell? ⟨b, 2, none⟩ = some (.slice pk p.consts.len ck) := by cases done <;> exact hH.blk0.cell 2
  have c3 : W.cell? ⟨b, 3, none⟩ = some (.slice pn p.names.length cn) := by cases done <;> exact hH.blk0.cell 3
  have c4 : W.cell? ⟨b, 4, none⟩ = some (.int .i64 p.places) := by cases done <;> exact hH.blk0.cell 4
  have hblt := hH.blk0.lt
  have hE1 := ext_alloc W (.cells imzV.toArray 26)
  have hcl := Lib.hid (imclone_own p _ _ (hI.ext hE1) hf)
  have H1 := (Has.nil (Ext.refl W)).new .nil 26 imzV.toArray
  have k1 := (hE1.cell _ _ hblt).trans c1
  have k2 := (hE1.cell _ _ hblt).trans c2
  have k3 := (hE1.cell _ _ hblt).trans c3
  have k4 := (hE1.cell _ _ hblt).trans c4
  simp only [Im.cells, imzV] at hcl H1 k1 k2 k3 k4
  clear c1 c2 c3 c4 hE1 hH
  go_enter Try.func29, Try.ntmps29
  go_upto_region 1 with fail
  generalize hW1 : World.alloc _ _ = W1 at *
  have hsz : W1.heap.size = W.heap.size + 1 := by rw [← hW1]; simp
  generalize hrx : W.heap.size = rx at *
  clear hW1
  go_wp2_with fail
  refine hcl.out.mono ?_
  rintro e w2 ⟨⟨qc, gc, qk, gk, qn, gn⟩, es, rfl, hes, HB⟩
  clear hcl k1 k2 k3 k4
  have LB : Locs [rvA 62 (.slice qk p.clone.consts.len gk) es, rowA 9 1 (.slice qn p.names.length gn) p.names.length (p.names.map nmV), rowA 52 2 (.slice qc p.code.length gc) p.code.length (cdVs p.code)] := .cons (rvA_loc _ _ _) (.cons (rowA_loc _ _ _ _ _) (.cons (rowA_loc _ _ _ _ _) .nil))
  have H4 := Has.join H1 (.cons (blkA_loc _ _ _) .nil) HB
  simp only [List.cons_append, List.nil_append] at H4
  have hbr := H4.blk0
  have r0 := hbr.cell 0
  have r1 := hbr.cell 1
  have r2 := hbr.cell 2
  have r3 := hbr.cell 3
  have g0 := hbr.frozen 0
  have g1 := hbr.frozen 1
  have g2 := hbr.frozen 2
  have g3 := hbr.frozen 3
  simp only [List.getElem?_toArray, List.getElem?_cons_zero, List.getElem?_cons_succ] at r0 r1 r2 r3
  have Z9 := (((H4.setB LB 0 (.slice qc p.clone.code.length gc)).setB LB 1 (.slice qk p.clone.consts.len gk)).setB LB 2 (.slice qn p.clone.names.length gn)).setB LB 3 (.int .i64 p.clone.places)
  simp only [List.setIfInBounds_toArray, List.set_cons_succ, List.set_cons_zero] at Z9
  simp only [Im.cells]
  clear H1 H4
  go_wp2_with fail
  generalize World.setCell _ _ _ = w99 at *
  clear r0 r1 r2 r3 g0 g1 g2 g3 hbr
  have hbr := Z9.blk0
  have r0 := hbr.cell 0
  have r1 := hbr.cell 1
  have r2 := hbr.cell 2
  have r3 := hbr.cell 3
  simp only [List.getElem?_toArray, List.getElem?_cons_zero, List.getElem?_cons_succ] at r0 r1 r2 r3
  (try simp only [Exit.inBlock, Exit.then])
  refine bodyPost_ret (by simp [results, Try.results29, go_sem, r0, r1, r2, r3]; try rfl) rfl ?_
  exact ⟨⟨qc, gc, qk, gk, qn, gn⟩, es, rfl, hes, Z9.drop⟩
end
end Go.Proofs.Ytkkhcpknldlpoaa

namespace Go.Proofs.Ytkkhcpknldlpoaa
set_option maxRecDepth 4000
set_option linter.unusedVariables false
set_option linter.unusedSimpArgs false
open Go Go.RowKit
/-- a row of n elements of one's own, whatever it holds -/
def xrA (q : Option Addr) (n sz : Nat) (T : TypeId) : Asr := fun W F => (n = 0 ∧ ∀ k, ¬ F k) ∨ (∃ g cur, q = some ⟨g, 0, none⟩ ∧ n * sz ≤ cur.size ∧ Blk W g T cur ∧ F = fun k => k = g)
theorem xrA_loc (q : Option Addr) (n sz : Nat) (T : TypeId) : Loc (xrA q n sz T) :=
  ⟨fun {W W' F} h hk => by
    rcases h with h | ⟨g, cur, h1, h2, h3, h4⟩
    · exact Or.inl h
    · exact Or.inr ⟨g, cur, h1, h2, (hk g (by rw [h4])).trans h3, h4⟩, fun {W F k} h hF => by
    rcases h with h | ⟨g, cur, h1, h2, h3, h4⟩
    · exact absurd hF (h.2 _)
    · rw [h4] at hF; rw [hF]; exact h3.lt⟩
section
variable {w W : World} {ps : List Asr} {q : Option Addr} {n c sz : Nat} {T : TypeId}
theorem xr_row {xs : List Value} (h : Has w W (rowA T sz (.slice q n c) n xs :: ps)) : Has w W (xrA q n sz T :: ps) :=
  Has.small h fun F hF => by
    by_cases hn : n = 0
    · exact ⟨fun _ => False, Or.inl ⟨hn, fun _ h => h⟩, fun _ h => h.elim⟩
    · obtain ⟨g, cur, h1, h2, h3⟩ := own_blk hF.1 (by omega)
      refine ⟨fun k => k = g, Or.inr ⟨g, cur, h1, h3, h2, rfl⟩, fun k hk => ?_⟩
      rw [hF.2, h1, hk]; rfl
theorem xr_rv {es : List El} (h : Has w W (rvA T (.slice q n c) es :: ps)) : Has w W (xrA q n 4 T :: ps) :=
  Has.small h fun F hF => by
    have ho := hF.own
    have hl : n = es.length := by
      obtain ⟨q', c', e⟩ := ownsRow_slice ho
      injection e with _ e2 _
    by_cases hn : n = 0
    · exact ⟨fun _ => False, Or.inl ⟨hn, fun _ h => h⟩, fun _ h => h.elim⟩
    · rw [← hl] at ho
      obtain ⟨g, cur, h1, h2, h3⟩ := own_blk ho (by omega)
      refine ⟨fun k => k = g, Or.inr ⟨g, cur, h1, h3, h2, rfl⟩, fun k hk => ?_⟩
      rw [hk]
      exact hF.in_ g (by rw [h1]; rfl)
theorem xr_open (h : Has w W (xrA q n sz T :: ps)) (hn : 0 < n) : ∃ g cur, q = some ⟨g, 0, none⟩ ∧ n * sz ≤ cur.size ∧ Has w W (blkA g T cur :: ps) := by
  obtain ⟨F, h1, h2, h3⟩ := h
  rcases h1 with ⟨h, _⟩ | ⟨g, cur, h4, h5, h6, h7⟩
  · omega
  · exact ⟨g, cur, h4, h5, F, ⟨h6, h7⟩, h2, h3⟩
theorem xr_close {g : Nat} {cur : Array Value} (h : Has w W (blkA g T cur :: ps)) (hs : n * sz ≤ cur.size) : Has w W (xrA (some ⟨g, 0, none⟩) n sz T :: ps) :=
  Has.imp h fun F hF => Or.inr ⟨g, cur, rfl, hs, hF.1, hF.2⟩
end
def OwRel (w : World) (q : Option Addr) (n sz : Nat) (T : TypeId) (ps : List Asr) (k : Value) (wr : World) : Prop := ∃ i : Nat, k = .int .i64 i ∧ i ≤ n ∧ Has w wr (xrA q n sz T :: ps)
theorem names_map (l : List (List UInt8)) : l.map nmV = l.map nmV := rfl
set_option maxHeartbeats 4000000 in
theorem own_any (w : World) (p : Im) (a : Ip) (hI : ImAt w a p) (hok : p.ok) :
    Calls Try.prog 8 #[.agg (p.cells a).toArray] w fun e w' => e = .returned (.bool true) ∧ Ext w w' := by
  have hcz : (p.cells a).toArray = #[.slice a.pc p.code.length a.cc, .slice a.pk p.consts.len a.ck, .slice a.pn p.names.length a.cn, .int .i64 p.places] := rfl
  have hbo := Blk.new w 26 (p.cells a).toArray
  have hE0 := ext_alloc w (.cells (p.cells a).toArray 26)
  rw [hcz] at hbo hE0 ⊢
  go_enter Try.func8, Try.ntmps8
  go_upto_region 1 with fail
  generalize World.alloc _ _ = w0 at *
  generalize w.heap.size = bx at *
  go_wp2_with fail
  refine (loads_any w0).mono ?_
  rintro e w1 ⟨rfl, hE1⟩
  go_upto_region 3 with fail
  replace hbo : Blk _ _ _ _ := (hE1.block _ hbo.lt).trans hbo
  have k0 : w1.cell? ⟨bx, 0, none⟩ = some (.slice a.pc p.code.length a.cc) := hbo.cell 0
  have k1 : w1.cell? ⟨bx, 1, none⟩ = some (.slice a.pk p.consts.len a.ck) := hbo.cell 1
  have k2 : w1.cell? ⟨bx, 2, none⟩ = some (.slice a.pn p.names.length a.cn) := hbo.cell 2
  have k3 : w1.cell? ⟨bx, 3, none⟩ = some (.int .i64 p.places) := hbo.cell 3
  have hEa := hE0.trans hE1
  have hsm := small_any p a w1 (hI.ext hEa)
  rw [hcz] at hsm
  go_wp2_with fail
  refine hsm.mono ?_
  rintro e w2 ⟨⟨ok, rfl, hok2⟩, hE2⟩
  clear hsm k0 k1 k2 k3
  have hEb := hEa.trans hE2
  cases ok with
  | false =>
    go_wp2_with fail
    go_returns
    exact ⟨rfl, hEb⟩
  | true =>
    have hsb := (hok2 rfl).bytes hok
    replace hbo : Blk _ _ _ _ := (hE2.block _ hbo.lt).trans hbo
    have k0 : w2.cell? ⟨bx, 0, none⟩ = some (.slice a.pc p.code.length a.cc) := hbo.cell 0
    have k1 : w2.cell? ⟨bx, 1, none⟩ = some (.slice a.pk p.consts.len a.ck) := hbo.cell 1
    have k2 : w2.cell? ⟨bx, 2, none⟩ = some (.slice a.pn p.names.length a.cn) := hbo.cell 2
    have k3 : w2.cell? ⟨bx, 3, none⟩ = some (.int .i64 p.places) := hbo.cell 3
    have hck := rimcheck_any p a w2 (hI.ext hEb) hok hsb
    rw [hcz] at hck
    clear hok2
    go_wp2_with fail
    refine hck.mono ?_
    rintro e w3 ⟨rfl, hE3⟩
    clear hck k0 k1 k2 k3
    have hEc := hEb.trans hE3
    by_cases hp0 : p.check = 0
    case neg =>
      have g1 : (p.check != 0) = true := by simp [hp0]
      have g2 : (p.check == 0) = false := by simp [hp0]
      go_wp2_with fail
      go_returns
      exact ⟨rfl, hEc⟩
    have g1 : (p.check != 0) = false := by simp [hp0]
    replace hbo : Blk _ _ _ _ := (hE3.block _ hbo.lt).trans hbo
    have hbo3 := hbo
    have hI3 := hI.ext hEc
    have hf := Im.fine hp0
    have k0 : w3.cell? ⟨bx, 0, none⟩ = some (.slice a.pc p.code.length a.cc) := hbo.cell 0
    have k1 : w3.cell? ⟨bx, 1, none⟩ = some (.slice a.pk p.consts.len a.ck) := hbo.cell 1
    have k2 : w3.cell? ⟨bx, 2, none⟩ = some (.slice a.pn p.names.length a.cn) := hbo.cell 2
    have k3 : w3.cell? ⟨bx, 3, none⟩ = some (.int .i64 p.places) := hbo.cell 3
    have hcl := Lib.hid (imclone_own p a w3 hI3 hf)
    rw [hcz] at hcl
    go_wp2_with fail
    refine hcl.out.mono ?_
    rintro e w4 ⟨am, es, rfl, hes, HM⟩
    clear hcl k0 k1 k2 k3
    have LM : Locs [rvA 62 (.slice am.pk p.clone.consts.len am.ck) es, rowA 9 1 (.slice am.pn p.names.length am.cn) p.names.length (p.names.map nmV), rowA 52 2 (.slice am.pc p.code.length am.cc) p.code.length (cdVs p.code)] := .cons (rvA_loc _ _ _) (.cons (rowA_loc _ _ _ _ _) (.cons (rowA_loc _ _ _ _ _) .nil))
    have hmz : (p.clone.cells am).toArray = #[.slice am.pc p.code.length am.cc, .slice am.pk p.clone.consts.len am.ck, .slice am.pn p.names.length am.cn, .int .i64 p.places] := rfl
    have hIm : ImAt w4 am p.clone := by
      have h := (Has.mkIm (T := 62) (S := 9) (C := 52) HM p.places).im
      rw [hes] at h
      exact h
    have H5 := HM.new LM 26 #[.slice am.pc p.code.length am.cc, .slice am.pk p.clone.consts.len am.ck, .slice am.pn p.names.length am.cn, .int .i64 p.places]
    have hIm5 := hIm.ext (ext_alloc w4 (.cells #[.slice am.pc p.code.length am.cc, .slice am.pk p.clone.consts.len am.ck, .slice am.pn p.names.length am.cn, .int .i64 p.places] 26))
    rw [hmz]
    go_upto_region 6 with fail
    generalize World.alloc w4 _ = w5 at *
    generalize Array.size (World.heap w4) = mx at *
    have hbm := H5.blk0
    have m0 : w5.cell? ⟨mx, 0, none⟩ = some (.slice am.pc p.code.length am.cc) := hbm.cell 0
    have m1 : w5.cell? ⟨mx, 1, none⟩ = some (.slice am.pk p.clone.consts.len am.ck) := hbm.cell 1
    have m2 : w5.cell? ⟨mx, 2, none⟩ = some (.slice am.pn p.names.length am.cn) := hbm.cell 2
    have m3 : w5.cell? ⟨mx, 3, none⟩ = some (.int .i64 p.places) := hbm.cell 3
    have hc0 : p.clone.check = 0 := by rw [Im.clone_check]; exact hp0
    have hoc := Im.clone_ok hok
    have hnw := Lib.hid (new_any [120] p.clone am w5 hIm5 hoc (Im.vals_le hc0))
    rw [hmz] at hnw
    go_wp2_with fail
    refine hnw.out.mono ?_
    rintro e w6 hN
    clear hnw m0 m1 m2 m3
    have hne : newE [120] p.clone = 0 := hc0
    unfold NewIs at hN
    rw [hne] at hN
    rcases hN with ⟨hbad, _⟩ | ⟨_, b, aq, rfl, HQ⟩
    · exact absurd rfl hbad
    have LM5 : Locs (blkA mx 26 #[.slice am.pc p.code.length am.cc, .slice am.pk p.clone.consts.len am.ck, .slice am.pn p.names.length am.cn, .int .i64 p.places] :: [rvA 62 (.slice am.pk p.clone.consts.len am.ck) es, rowA 9 1 (.slice am.pn p.names.length am.cn) p.names.length (p.names.map nmV), rowA 52 2 (.slice am.pc p.code.length am.cc) p.code.length (cdVs p.code)]) := .cons (blkA_loc _ _ _) LM
    have H6 := Has.join H5 LM5 HQ
    simp only [List.cons_append, List.nil_append] at H6
    clear H5 HM HQ LM LM5 hIm hIm5
    obtain ⟨mpc, mcc, mpk, mck, mpn, mcn⟩ := am
    simp only at H6 ⊢
    have Ka := Has.pick (l := [_, _, _, _, _, _]) H6 [1, 2, 3, 0, 4, 5] rfl
    simp only [pickA, List.map_cons, List.map_nil, List.getD_cons_zero, List.getD_cons_succ, List.cons_append, List.nil_append] at Ka
    have Kb := xr_rv Ka
    have Kc := Has.pick (l := [_, _, _, _, _, _]) Kb [1, 0, 2, 3, 4, 5] rfl
    simp only [pickA, List.map_cons, List.map_nil, List.getD_cons_zero, List.getD_cons_succ, List.cons_append, List.nil_append] at Kc
    have Kd := xr_row Kc
    have Ke := Has.pick (l := [_, _, _, _, _, _]) Kd [2, 0, 1, 3, 4, 5] rfl
    simp only [pickA, List.map_cons, List.map_nil, List.getD_cons_zero, List.getD_cons_succ, List.cons_append, List.nil_append] at Ke
    have Kf := xr_row Ke
    clear H6 Ka Kb Kc Kd Ke
    have hkl : p.clone.consts.len ≤ 64 := (Im.fine hc0).nconsts
    have hcl := hf.ncode
    have hnl := hf.nnames
    have Km := Has.pick (l := [_, _, _, _]) Kf [3, 0, 1, 2] rfl
    simp only [pickA, List.map_cons, List.map_nil, List.getD_cons_zero, List.getD_cons_succ, List.cons_append, List.nil_append] at Km
    have m0 : w6.cell? ⟨mx, 0, none⟩ = some (.slice mpc p.code.length mcc) := Km.blk0.cell 0
    clear Km
    go_wp2_with fail
    go_loopw [37] (fun k wr => OwRel w3 mpc p.code.length 2 52 [xrA mpn p.names.length 1 9, xrA mpk p.clone.consts.len 4 62, blkA mx 26 #[.slice mpc p.code.length mcc, .slice mpk p.clone.consts.len mck, .slice mpn p.names.length mcn, .int .i64 p.places], blkA b 113 (pgS [120] p.clone.clone aq false).toArray, imA aq p.clone.clone] k wr) (fun k _ => ((p.code.length : Int) + 1 - intOf k).toNat)
    case atStart => exact ⟨0, rfl, Nat.zero_le _, Kf⟩
    case round =>
      obtain ⟨i, rfl, hi, hX⟩ := hrel
      clear Kf m0
      have LX : Locs [xrA mpn p.names.length 1 9, xrA mpk p.clone.consts.len 4 62, blkA mx 26 #[.slice mpc p.code.length mcc, .slice mpk p.clone.consts.len mck, .slice mpn p.names.length mcn, .int .i64 p.places], blkA b 113 (pgS [120] p.clone.clone aq false).toArray, imA aq p.clone.clone] := .cons (xrA_loc _ _ _ _) (.cons (xrA_loc _ _ _ _) (.cons (blkA_loc _ _ _) (.cons (blkA_loc _ _ _) (.cons (imA_loc _ _) .nil))))
      have Km := Has.pick (l := [_, _, _, _]) hX [3, 0, 1, 2] rfl
      simp only [pickA, List.map_cons, List.map_nil, List.getD_cons_zero, List.getD_cons_succ, List.cons_append, List.nil_append] at Km
      by_cases hlt : i < p.code.length
      · have m0 : wr.cell? ⟨mx, 0, none⟩ = some (.slice mpc p.code.length mcc) := Km.blk0.cell 0
        obtain ⟨g, cur, rfl, hsz, HX⟩ := xr_open hX (by omega)
        have i7 : (i : Int) < p.code.length := by omega
        have d0 : wr.cell? ⟨g, i * 2, none⟩ = some (cur[i * 2]'(by omega)) := (HX.blk0.cell (i * 2)).trans (Array.getElem?_eq_getElem (by omega))
        have f0 := HX.blk0.frozen (i * 2)
        have HY := HX.setB LX (i * 2) (.int .i64 99)
        have HZ := xr_close (n := p.code.length) (sz := 2) HY (by simpa using hsz)
        clear hX Km HX HY
        go_wp2_with fail
        exact ⟨⟨i + 1, by go_num, by omega, HZ⟩, by simp [intOf]; omega⟩
      · have i7 : ¬ (i : Int) < p.code.length := by omega
        have m1 : wr.cell? ⟨mx, 1, none⟩ = some (.slice mpk p.clone.consts.len mck) := Km.blk0.cell 1
        have Kf := Has.pick (l := [_, _, _, _]) hX [2, 0, 1, 3] rfl
        simp only [pickA, List.map_cons, List.map_nil, List.getD_cons_zero, List.getD_cons_succ, List.cons_append, List.nil_append] at Kf
        clear hX Km LX
        go_wp2_with fail
        go_loopw [49] (fun k wn => OwRel w3 mpk p.clone.consts.len 4 62 [xrA mpc p.code.length 2 52, xrA mpn p.names.length 1 9, blkA mx 26 #[.slice mpc p.code.length mcc, .slice mpk p.clone.consts.len mck, .slice mpn p.names.length mcn, .int .i64 p.places], blkA b 113 (pgS [120] p.clone.clone aq false).toArray, imA aq p.clone.clone] k wn) (fun k _ => ((p.clone.consts.len : Int) + 1 - intOf k).toNat)
        case atStart => exact ⟨0, rfl, Nat.zero_le _, Kf⟩
        case round =>
          obtain ⟨j, rfl, hj, hX⟩ := hrel
          clear Kf m1
          have LX : Locs [xrA mpc p.code.length 2 52, xrA mpn p.names.length 1 9, blkA mx 26 #[.slice mpc p.code.length mcc, .slice mpk p.clone.consts.len mck, .slice mpn p.names.length mcn, .int .i64 p.places], blkA b 113 (pgS [120] p.clone.clone aq false).toArray, imA aq p.clone.clone] := .cons (xrA_loc _ _ _ _) (.cons (xrA_loc _ _ _ _) (.cons (blkA_loc _ _ _) (.cons (blkA_loc _ _ _) (.cons (imA_loc _ _) .nil))))
          by_cases hlt : j < p.clone.consts.len
          · obtain ⟨g, cur, rfl, hsz, HX⟩ := xr_open hX (by omega)
            have i7 : (j : Int) < p.clone.consts.len := by omega
            clear hX
            have LXg : Locs (blkA g 62 cur :: [xrA mpc p.code.length 2 52, xrA mpn p.names.length 1 9, blkA mx 26 #[.slice mpc p.code.length mcc, .slice (some ⟨g, 0, none⟩) p.clone.consts.len mck, .slice mpn p.names.length mcn, .int .i64 p.places], blkA b 113 (pgS [120] p.clone.clone aq false).toArray, imA aq p.clone.clone]) := .cons (blkA_loc _ _ _) LX
            have HD := HX.ext LXg ((Ext.refl wr).drew)
            have Kn := Has.pick (l := [_, _, _, _]) HD [3, 0, 1, 2] rfl
            simp only [pickA, List.map_cons, List.map_nil, List.getD_cons_zero, List.getD_cons_succ, List.cons_append, List.nil_append] at Kn
            have hF0 : wr.drew.cell? ⟨mx, 1, none⟩ = some (.slice (some ⟨g, 0, none⟩) p.clone.consts.len mck) := Kn.blk0.cell 1
            have hbg := HX.blk0
            go_upto_region 17 with fail
            have y1 : ∀ z : Of (fun X => X.cell? ⟨mx, 1, none⟩ = some (.slice (some ⟨g, 0, none⟩) p.clone.consts.len mck)), z.val.cell? ⟨mx, 1, none⟩ = some (.slice (some ⟨g, 0, none⟩) p.clone.consts.len mck) := fun z => z.property
            have hFd := hF0
            have hne_ : Nonempty (Of ((fun X => X.cell? ⟨mx, 1, none⟩ = some (.slice (some ⟨g, 0, none⟩) p.clone.consts.len mck)))) := ⟨⟨_, hFd⟩⟩
            refine region_plan (.seg [0,1,2,3,4,5] [true,true,true,false,true,false] .done) ((fun X => X.cell? ⟨mx, 1, none⟩ = some (.slice (some ⟨g, 0, none⟩) p.clone.consts.len mck))) (by kernel_rfl) (by kernel_rfl) hFd ?_
            refine walkP_seg ?_
            simp only [List.filterMap_cons, List.filterMap_nil, List.getElem?_cons_zero, List.getElem?_cons_succ]
            refine steps_quiet 3 (by kernel_rfl) ?_
            simp only [List.take_succ_cons, List.take_zero, List.drop_succ_cons, List.drop_zero]
            repeat (go_big_quiet_step (fail))
            refine wpQuiet_nil ?_
            have hvo := vof_any 1 wr.drew
            refine steps_want rfl (fun K hK => ?_)
            go_simp
            refine hvo.mono ?_
            rintro e w9 ⟨rfl, hE9⟩
            clear hvo Kn HX
            have HX := HD.ext LXg hE9
            have Kn := Has.pick (l := [_, _, _, _]) HX [3, 0, 1, 2] rfl
            simp only [pickA, List.map_cons, List.map_nil, List.getD_cons_zero, List.getD_cons_succ, List.cons_append, List.nil_append] at Kn
            have hF9 : w9.cell? ⟨mx, 1, none⟩ = some (.slice (some ⟨g, 0, none⟩) p.clone.consts.len mck) := Kn.blk0.cell 1
            clear Kn HD hE9
            have hFn := hF9
            have hnx_ : Nonempty (Of ((fun X => X.cell? ⟨mx, 1, none⟩ = some (.slice (some ⟨g, 0, none⟩) p.clone.consts.len mck)))) := ⟨⟨_, hFn⟩⟩
            refine hK _ _ ((fun X => X.cell? ⟨mx, 1, none⟩ = some (.slice (some ⟨g, 0, none⟩) p.clone.consts.len mck))) hFn (fun _ h => h) ?_
            clear hK K hFn
            try simp only [Act.put, List.setIfInBounds_toArray, List.set_cons_succ, List.set_cons_zero]
            refine steps_quiet 1 (by kernel_rfl) ?_
            simp only [List.take_succ_cons, List.take_zero, List.drop_succ_cons, List.drop_zero]
            repeat (go_big_quiet_step (fail))
            refine wpQuiet_nil ?_
            clear y1
            have hb9 := HX.blk0
            have d0 : w9.cell? ⟨g, j * 4, none⟩ = some (cur[j * 4]'(by omega)) := (hb9.cell (j * 4)).trans (Array.getElem?_eq_getElem (by omega))
            have d1 : w9.cell? ⟨g, j * 4 + 1, none⟩ = some (cur[j * 4 + 1]'(by omega)) := (hb9.cell (j * 4 + 1)).trans (Array.getElem?_eq_getElem (by omega))
            have d2 : w9.cell? ⟨g, j * 4 + 2, none⟩ = some (cur[j * 4 + 2]'(by omega)) := (hb9.cell (j * 4 + 2)).trans (Array.getElem?_eq_getElem (by omega))
            have d3 : w9.cell? ⟨g, j * 4 + 3, none⟩ = some (cur[j * 4 + 3]'(by omega)) := (hb9.cell (j * 4 + 3)).trans (Array.getElem?_eq_getElem (by omega))
            have f0 := hb9.frozen (j * 4)
            have f1 := hb9.frozen (j * 4 + 1)
            have f2 := hb9.frozen (j * 4 + 2)
            have f3 := hb9.frozen (j * 4 + 3)
            have HY := (((HX.setB LX (j * 4) (.int .i64 1)).setB LX (j * 4 + 1) (.int .i64 1)).setB LX (j * 4 + 2) (.string ⟨#[]⟩)).setB LX (j * 4 + 3) (.slice none 0 0)
            have HZ := xr_close (n := p.clone.consts.len) (sz := 4) HY (by simpa using hsz)
            clear HX HY hb9 hF9
            refine steps_want rfl (fun K hK => ?_)
            go_simp
            clear d0 d1 d2 d3 f0 f1 f2 f3 hbg
            generalize World.setCell _ _ _ = w10 at *
            have Kn := Has.pick (l := [_, _, _, _]) HZ [3, 0, 1, 2] rfl
            simp only [pickA, List.map_cons, List.map_nil, List.getD_cons_zero, List.getD_cons_succ, List.cons_append, List.nil_append] at Kn
            have hF10 : w10.cell? ⟨mx, 1, none⟩ = some (.slice (some ⟨g, 0, none⟩) p.clone.consts.len mck) := Kn.blk0.cell 1
            clear Kn
            have hFn := hF10
            have hnx_ : Nonempty (Of ((fun X => X.cell? ⟨mx, 1, none⟩ = some (.slice (some ⟨g, 0, none⟩) p.clone.consts.len mck)))) := ⟨⟨_, hFn⟩⟩
            refine hK _ _ ((fun X => X.cell? ⟨mx, 1, none⟩ = some (.slice (some ⟨g, 0, none⟩) p.clone.consts.len mck))) hFn (fun _ h => h) ?_
            clear hK K hFn
            try simp only [Act.put, List.setIfInBounds_toArray, List.set_cons_succ, List.set_cons_zero]
            clear hF10 hF0
            refine steps_end ?_
            refine walkP_done ?_
            go_wp2_with fail
            exact ⟨⟨j + 1, by go_num, by omega, HZ⟩, by simp [intOf]; omega⟩
          · have i7 : ¬ (j : Int) < p.clone.consts.len := by omega
            have Km := Has.pick (l := [_, _, _, _]) hX [3, 0, 1, 2] rfl
            simp only [pickA, List.map_cons, List.map_nil, List.getD_cons_zero, List.getD_cons_succ, List.cons_append, List.nil_append] at Km
            have m2 : wr.cell? ⟨mx, 2, none⟩ = some (.slice mpn p.names.length mcn) := Km.blk0.cell 2
            have Kf := Has.pick (l := [_, _, _, _]) hX [2, 0, 1, 3] rfl
            simp only [pickA, List.map_cons, List.map_nil, List.getD_cons_zero, List.getD_cons_succ, List.cons_append, List.nil_append] at Kf
            clear hX Km LX
            go_wp2_with fail
            go_loopw [61] (fun k wn => OwRel w3 mpn p.names.length 1 9 [xrA mpk p.clone.consts.len 4 62, xrA mpc p.code.length 2 52, blkA mx 26 #[.slice mpc p.code.length mcc, .slice mpk p.clone.consts.len mck, .slice mpn p.names.length mcn, .int .i64 p.places], blkA b 113 (pgS [120] p.clone.clone aq false).toArray, imA aq p.clone.clone] k wn) (fun k _ => ((p.names.length : Int) + 1 - intOf k).toNat)
            case atStart => exact ⟨0, rfl, Nat.zero_le _, Kf⟩
            case round =>
              obtain ⟨l, rfl, hl, hX⟩ := hrel
              clear Kf m2
              have LX : Locs [xrA mpk p.clone.consts.len 4 62, xrA mpc p.code.length 2 52, blkA mx 26 #[.slice mpc p.code.length mcc, .slice mpk p.clone.consts.len mck, .slice mpn p.names.length mcn, .int .i64 p.places], blkA b 113 (pgS [120] p.clone.clone aq false).toArray, imA aq p.clone.clone] := .cons (xrA_loc _ _ _ _) (.cons (xrA_loc _ _ _ _) (.cons (blkA_loc _ _ _) (.cons (blkA_loc _ _ _) (.cons (imA_loc _ _) .nil))))
              have Km := Has.pick (l := [_, _, _, _]) hX [3, 0, 1, 2] rfl
              simp only [pickA, List.map_cons, List.map_nil, List.getD_cons_zero, List.getD_cons_succ, List.cons_append, List.nil_append] at Km
              by_cases hlt : l < p.names.length
              · have m2 : wr.cell? ⟨mx, 2, none⟩ = some (.slice mpn p.names.length mcn) := Km.blk0.cell 2
                obtain ⟨g, cur, rfl, hsz, HX⟩ := xr_open hX (by omega)
                have i7 : (l : Int) < p.names.length := by omega
                have d0 : wr.cell? ⟨g, l, none⟩ = some (cur[l]'(by omega)) := (HX.blk0.cell l).trans (Array.getElem?_eq_getElem (by omega))
                have f0 := HX.blk0.frozen l
                have HY := HX.setB LX l (.string ⟨#[111, 116, 104, 101, 114]⟩)
                have HZ := xr_close (n := p.names.length) (sz := 1) HY (by simpa using hsz)
                clear hX Km HX HY
                go_wp2_with fail
                exact ⟨⟨l + 1, by go_num, by omega, HZ⟩, by simp [intOf]; omega⟩
              · have i7 : ¬ (l : Int) < p.names.length := by omega
                have Kq := Has.pick (l := [_, _, _, _, _, _]) hX [4, 5, 0, 1, 2, 3] rfl
                simp only [pickA, List.map_cons, List.map_nil, List.getD_cons_zero, List.getD_cons_succ, List.cons_append, List.nil_append] at Kq
                clear hX Km LX
                have him := Lib.hid (pimage_own false Kq (Im.fine (by rw [Im.clone_check]; exact hc0)))
                go_wp2_with fail
                refine him.out.mono ?_
                rintro e w7 ⟨⟨opc, occ, opk, ock, opn, ocn⟩, es2, rfl, hes2, HO⟩
                clear him
                have LQ : Locs [blkA b 113 (pgS [120] p.clone.clone aq false).toArray, imA aq p.clone.clone, xrA mpn p.names.length 1 9, xrA mpk p.clone.consts.len 4 62, xrA mpc p.code.length 2 52, blkA mx 26 #[.slice mpc p.code.length mcc, .slice mpk p.clone.consts.len mck, .slice mpn p.names.length mcn, .int .i64 p.places]] := .cons (blkA_loc _ _ _) (.cons (imA_loc _ _) (.cons (xrA_loc _ _ _ _) (.cons (xrA_loc _ _ _ _) (.cons (xrA_loc _ _ _ _) (.cons (blkA_loc _ _ _) .nil)))))
                have hoz : (p.clone.clone.clone.cells ⟨opc, occ, opk, ock, opn, ocn⟩).toArray = #[.slice opc p.code.length occ, .slice opk p.clone.clone.clone.consts.len ock, .slice opn p.names.length ocn, .int .i64 p.places] := rfl
                rw [hoz]
                generalize p.clone.clone.clone.consts.len = kk at *
                have HO2 : Has wr w7 [rvA 62 (.slice opk kk ock) es2, rowA 9 1 (.slice opn p.names.length ocn) p.names.length (p.names.map nmV), rowA 52 2 (.slice opc p.code.length occ) p.code.length (cdVs p.code)] := HO
                have HO3 := xr_row HO2.drop.drop
                have HO4 := HO3.new (.cons (xrA_loc _ _ _ _) .nil) 26 #[.slice opc p.code.length occ, .slice opk kk ock, .slice opn p.names.length ocn, .int .i64 p.places]
                clear HO HO2 HO3 hes2 hoz
                go_upto_region 25 with fail
                generalize World.alloc w7 _ = w8 at *
                generalize Array.size (World.heap w7) = ox at *
                have HO5 := HO4.swap
                have n0 : w8.cell? ⟨ox, 0, none⟩ = some (.slice opc p.code.length occ) := HO4.blk0.cell 0
                clear HO4
                go_wp2_with fail
                go_loopw [74] (fun k wn => OwRel wr opc p.code.length 2 52 [blkA ox 26 #[.slice opc p.code.length occ, .slice opk kk ock, .slice opn p.names.length ocn, .int .i64 p.places]] k wn) (fun k _ => ((p.code.length : Int) + 1 - intOf k).toNat)
                case atStart => exact ⟨0, rfl, Nat.zero_le _, HO5⟩
                case round =>
                  obtain ⟨m, rfl, hm, hX⟩ := hrel
                  clear HO5 n0
                  have LX : Locs [blkA ox 26 #[.slice opc p.code.length occ, .slice opk kk ock, .slice opn p.names.length ocn, .int .i64 p.places]] := .cons (blkA_loc _ _ _) .nil
                  by_cases hlt : m < p.code.length
                  · have n0 := hX.swap.blk0.cell 0
                    simp only [List.getElem?_toArray, List.getElem?_cons_zero] at n0
                    obtain ⟨g, cur, rfl, hsz, HX⟩ := xr_open hX (by omega)
                    have i7 : (m : Int) < p.code.length := by omega
                    have d0 := (HX.blk0.cell (m * 2 + 1)).trans (Array.getElem?_eq_getElem (show m * 2 + 1 < cur.size by omega))
                    have f0 := HX.blk0.frozen (m * 2 + 1)
                    have HY := HX.setB LX (m * 2 + 1) (.int .i64 77)
                    have HZ := xr_close (n := p.code.length) (sz := 2) HY (by simpa using hsz)
                    clear hX HX HY
                    go_wp2_with fail
                    exact ⟨⟨m + 1, by go_num, by omega, HZ⟩, by simp [intOf]; omega⟩
                  · have i7 : ¬ (m : Int) < p.code.length := by omega
                    have HP := Kq.ext LQ hX.base
                    clear hX Kq
                    have HP0 := HP.ext LQ ((Ext.refl _).drew)
                    have hF0 := (HP0.base.block _ hbo3.lt).trans hbo3
                    have x0 : ∀ z : Of (fun X => Blk X bx 26 #[.slice a.pc p.code.length a.cc, .slice a.pk p.consts.len a.ck, .slice a.pn p.names.length a.cn, .int .i64 p.places]), z.val.cell? ⟨bx, 0, none⟩ = some (.slice a.pc p.code.length a.cc) := fun z => z.property.cell 0
                    have x1 : ∀ z : Of (fun X => Blk X bx 26 #[.slice a.pc p.code.length a.cc, .slice a.pk p.consts.len a.ck, .slice a.pn p.names.length a.cn, .int .i64 p.places]), z.val.cell? ⟨bx, 1, none⟩ = some (.slice a.pk p.consts.len a.ck) := fun z => z.property.cell 1
                    have x2 : ∀ z : Of (fun X => Blk X bx 26 #[.slice a.pc p.code.length a.cc, .slice a.pk p.consts.len a.ck, .slice a.pn p.names.length a.cn, .int .i64 p.places]), z.val.cell? ⟨bx, 2, none⟩ = some (.slice a.pn p.names.length a.cn) := fun z => z.property.cell 2
                    have x3 : ∀ z : Of (fun X => Blk X bx 26 #[.slice a.pc p.code.length a.cc, .slice a.pk p.consts.len a.ck, .slice a.pn p.names.length a.cn, .int .i64 p.places]), z.val.cell? ⟨bx, 3, none⟩ = some (.int .i64 p.places) := fun z => z.property.cell 3
                    go_upto_region 30 with fail
                    have hFd := hF0
                    have hne_ : Nonempty (Of ((fun X => Blk X bx 26 #[.slice a.pc p.code.length a.cc, .slice a.pk p.consts.len a.ck, .slice a.pn p.names.length a.cn, .int .i64 p.places]))) := ⟨⟨_, hFd⟩⟩
                    refine region_plan (.seg [0,2,1,3,4] [true,true,false,false,true] .done) ((fun X => Blk X bx 26 #[.slice a.pc p.code.length a.cc, .slice a.pk p.consts.len a.ck, .slice a.pn p.names.length a.cn, .int .i64 p.places])) (by kernel_rfl) (by kernel_rfl) hFd ?_
                    refine walkP_seg ?_
                    simp only [List.filterMap_cons, List.filterMap_nil, List.getElem?_cons_zero, List.getElem?_cons_succ]
                    refine steps_quiet 2 (by kernel_rfl) ?_
                    simp only [List.take_succ_cons, List.take_zero, List.drop_succ_cons, List.drop_zero]
                    repeat (go_big_quiet_step (fail))
                    refine wpQuiet_nil ?_
                    have hc2 : p.clone.clone.check = 0 := by rw [Im.clone_check]; exact hc0
                    have him := pimage_any false HP0 (Im.fine hc2)
                    refine steps_want rfl (fun K hK => ?_)
                    go_simp
                    refine him.mono ?_
                    rintro e wf ⟨⟨a9, rfl, hB9⟩, hEf⟩
                    clear him
                    have HF := HP0.ext LQ hEf
                    have hF1 := (HF.base.block _ hbo3.lt).trans hbo3
                    have hq9 : (p.clone.clone.clone.cells a9).toArray = #[.slice a9.pc p.clone.clone.clone.code.length a9.cc, .slice a9.pk p.clone.clone.clone.consts.len a9.ck, .slice a9.pn p.clone.clone.clone.names.length a9.cn, .int .i64 p.clone.clone.clone.places] := rfl
                    rw [hq9]
                    have hFn := hF1
                    have hnx_ : Nonempty (Of ((fun X => Blk X bx 26 #[.slice a.pc p.code.length a.cc, .slice a.pk p.consts.len a.ck, .slice a.pn p.names.length a.cn, .int .i64 p.places]))) := ⟨⟨_, hFn⟩⟩
                    refine hK _ _ ((fun X => Blk X bx 26 #[.slice a.pc p.code.length a.cc, .slice a.pk p.consts.len a.ck, .slice a.pn p.names.length a.cn, .int .i64 p.places])) hFn (fun _ h => h) ?_
                    clear hK K hFn
                    try simp only [Act.put, List.setIfInBounds_toArray, List.set_cons_succ, List.set_cons_zero]
                    have hsa := same_any p.clone.clone.clone p a9 a wf hB9.at (hI3.ext HF.base) (Im.clone_ok (Im.clone_ok hoc)) hok (by rw [Im.clone_check]; exact hc2) hp0 (by rw [Im.clone_bytes, Im.clone_bytes, Im.clone_bytes])
                    rw [hcz, hq9] at hsa
                    refine steps_want rfl (fun K hK => ?_)
                    go_simp
                    refine hsa.mono ?_
                    rintro e wg ⟨rfl, hEg⟩
                    clear hsa
                    have HG := HF.ext LQ hEg
                    have hF2 := (HG.base.block _ hbo3.lt).trans hbo3
                    have hFn := hF2
                    have hnx_ : Nonempty (Of ((fun X => Blk X bx 26 #[.slice a.pc p.code.length a.cc, .slice a.pk p.consts.len a.ck, .slice a.pn p.names.length a.cn, .int .i64 p.places]))) := ⟨⟨_, hFn⟩⟩
                    refine hK _ _ ((fun X => Blk X bx 26 #[.slice a.pc p.code.length a.cc, .slice a.pk p.consts.len a.ck, .slice a.pn p.names.length a.cn, .int .i64 p.places])) hFn (fun _ h => h) ?_
                    clear hK K hFn
                    try simp only [Act.put, List.setIfInBounds_toArray, List.set_cons_succ, List.set_cons_zero]
                    refine steps_quiet 1 (by kernel_rfl) ?_
                    simp only [List.take_succ_cons, List.take_zero, List.drop_succ_cons, List.drop_zero]
                    repeat (go_big_quiet_step (fail))
                    refine wpQuiet_nil ?_
                    refine steps_end ?_
                    refine walkP_done ?_
                    clear x0 x1 x2 x3
                    go_wp2_with fail
                    go_returns
                    exact ⟨rfl, hEc.trans HG.base⟩
end Go.Proofs.Ytkkhcpknldlpoaa

namespace Go.Proofs.Ytkkhcpknldlpoaa.imageOwn
open Go.Proofs.Ytkkhcpknldlpoaa
open Go.ChangeShapes Go.WideShapes Go.ChangeAt Go.RowKit Go.Joins Go.Deep
open Go.ChangeMaps (open_string shut_string)
set_option maxRecDepth 4000
set_option linter.unusedVariables false
set_option linter.unusedSimpArgs false

theorem own : ownKnob Try.prog.godebug = none := by kernel_rfl
theorem laidOut : laidOutB Try.prog = true := by kernel_rfl

set_option maxRecDepth 100000 in
theorem lifted (os : Os) (started : os.Started) (H : Type) (enc : TypeId × Value → H) :
    ReturnsInHanded {} Try.checked os 8 .any (Rows.imageOwnSpec.pre6 enc Try.prog Try.f8 Rows.imageOwnRow.domain false) (Rows.imageOwnSpec.post enc Try.prog Try.f8 false true false false) := by
  refine returnsInHanded_of_change (C := Try.checked) own started (by kernel_rfl) Try.func8
    (ChangeSpec.witness6 (enc := enc) (C := Try.checked) false ⟨#[], #[.agg #[.slice none 0 0, .slice none 0 0, .slice none 0 0, .int .i64 0]], []⟩ 8 (by kernel_rfl) (by kernel_rfl) (by kernel_rfl) (by kernel_rfl)) ?_
  intro W base args ds gs before hval0 hW hcnd _
  have hval : ∀ (j : Nat) t v, Try.f8.params[j]? = some t → args[j]? = some v → Value.okWide Try.prog W .any base t v := hval0
  have hW' := hW
  obtain ⟨p, q, hA0, hV, rfl, hfz, hnd⟩ := hW
  have hA : DataW.TrodAll enc Try.prog W 0 (fun _ => true) true Try.f8.params.toList args.toList ds p := hA0
  rw [Try.params8] at hA hval
  obtain ⟨v0, vs0, d0, ds0, p0, q0, hargs, rfl, rfl, h0, r0⟩ := trodAll_cons hA
  obtain ⟨rfl, rfl, rfl⟩ := trodAll_nil r0
  obtain rfl : args = #[v0] := by cases args; simp_all
  obtain ⟨rfl, rfl⟩ := trodVars_none hV
  have k0 := h0
  have lt0 : ∀ x ∈ p0, x.block < W.heap.size := by obtain ⟨m, hm⟩ := k0; exact DataW.trod_lt m _ _ _ hm
  obtain ⟨a, p, rfl, hI, hok⟩ := open_image (hval 0 26 v0 rfl rfl) h0
  refine (own_any W p a hI hok).mono fun e W' ⟨he, bel⟩ => ?_
  subst he
  exact ⟨_, rfl, _, _, _, [], _, [], hW', trodAll_mk1 (shut_bool Try.underlying4 _), (trodAll_cons_mk (Below.trod laidOut (by kernel_rfl) (of_decide_eq_true (by kernel_rfl)) k0 bel lt0) trodAll_mk0), rfl, bel.frame _, fun h => by cases h⟩

theorem over : Rows.imageOwnRow.holds Try.pinned (OpenSpec.ofChange Rows.imageOwnSpec) :=
  OpenClaim.holds_of_wide 8 Try.f8 rfl rfl rfl rfl rfl rfl rfl ⟨rfl, rfl, rfl, rfl, rfl⟩ rfl rfl rfl rfl rfl (by kernel_rfl) Try.func8 (by kernel_rfl)
    (of_decide_eq_true (by kernel_rfl)) (by unfold Func.isWrapper; first | (rw [if_pos (by decide +kernel)]; kernel_rfl) | (rw [if_neg (by decide +kernel)]; exact ⟨rfl, rfl⟩))
    (fun os started H enc _ => lifted os started H enc)

theorem proved : Rows.ImageOwnSaid := over
#print axioms proved
end Go.Proofs.Ytkkhcpknldlpoaa.imageOwn
