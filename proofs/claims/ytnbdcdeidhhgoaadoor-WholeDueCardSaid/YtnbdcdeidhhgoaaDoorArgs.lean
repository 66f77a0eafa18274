/- DERIVED LEMMAS, OF NO PROGRAM: slices of numbers that came in, and rows of numbers of the call's own, cell by cell. -/
import Derived.Test.YtnbdcdeidhhgoaaDoorCom
import Derived.ChangeSlices
import Derived.ChangeShapes
import Derived.WideShapes
import Derived.Laws.AppendOwn
namespace Go.Proofs.YtnbdcdeidhhgoaaDoor
set_option maxRecDepth 4000
set_option linter.unusedVariables false
set_option linter.unusedSimpArgs false
open Go Go.RowKit Go.ChangeShapes Go.WideShapes
/-- a slice of numbers that came in: its cells -/
def NumsAt (k : IntKind) (w : World) (p : Option Addr) (zs : List Int) : Prop := ∀ i, i < zs.length → ∃ a, p = some a ∧ a.block < w.heap.size ∧ w.cell? (a.add i) = some (.int k (zs.getD i 0))
theorem NumsAt.get {k : IntKind} {w w' : World} {p : Option Addr} {zs : List Int} (h : NumsAt k w p zs) (hE : Ext w w') (i : Nat) (hi : i < zs.length) : ∃ a, p = some a ∧ w'.cell? (a.add i) = some (.int k (zs.getD i 0)) := by
  obtain ⟨a, rfl, hal, hac⟩ := h i hi
  refine ⟨a, rfl, ?_⟩
  have hab : (a.add i).block = a.block := by unfold Addr.add; first | rfl | (split <;> rfl)
  exact (World.cell?_of_block (w := w) (a := a.add i) (hE.block _ (by rw [hab]; exact hal))).trans hac
theorem NumsAt.ext {k : IntKind} {w w' : World} {p : Option Addr} {zs : List Int} (h : NumsAt k w p zs) (hE : Ext w w') : NumsAt k w' p zs := by
  intro i hi
  obtain ⟨a, rfl, hal, hac⟩ := h i hi
  have hab : (a.add i).block = a.block := by unfold Addr.add; first | rfl | (split <;> rfl)
  exact ⟨a, rfl, Nat.lt_of_lt_of_le hal hE.le, (World.cell?_of_block (w := w) (a := a.add i) (hE.block _ (by rw [hab]; exact hal))).trans hac⟩
def Wfs (k : IntKind) (zs : List Int) : Prop := ∀ n ∈ zs, (Lit.int k n).wf = true
theorem open_nums {H : Type} {enc : TypeId × Value → H} {P : Program} {w : World} {base b0 : Nat} {spare : Nat → Bool} {held : Bool} {r : Reach} {t e : TypeId} {k : IntKind} {v : Value} {d : DataW H} {ps : List MemPlace} (ht : P.underlying t = some (.slice e)) (he : P.underlying e = some (.int k)) (hc : P.cellsOf e = 1)
    (hval : Value.okWide P w r b0 t v) (h : DataW.Trod enc P w base spare held t v d ps) : ∃ p c zs, v = .slice p zs.length c ∧ NumsAt k w p zs ∧ Wfs k zs ∧ zs.length ≤ maxLen ∧ (p = none → zs.length = 0 ∧ c = 0) ∧ zs.length ≤ c ∧ c ≤ maxLen := by
  obtain ⟨a0, len, cap, rfl⟩ := okWide_slice ht hval
  obtain ⟨fuel, hf⟩ := h
  rcases open_ints ht he hc hf with ⟨hcs, hx⟩ | ⟨a, len', cap', zs, hcs, _, hl, hm, hz, hx, hcell, hwz⟩
  · simp [Value.cells] at hcs
    obtain ⟨rfl, rfl, rfl⟩ := hcs
    exact ⟨none, 0, [], rfl, fun i hi => absurd hi (by simp), fun n hn => absurd hn (by simp), by simp, fun _ => ⟨rfl, rfl⟩, by simp, by simp⟩
  · simp [Value.cells] at hcs
    obtain ⟨rfl, rfl, rfl⟩ := hcs
    have hlz : len ≤ zs.length := by rw [hz]; split <;> omega
    have htl : (zs.take len).length = len := by simp; omega
    refine ⟨some a, cap, zs.take len, by rw [htl], fun i hi => ?_, fun n hn => hwz n (List.mem_of_mem_take hn), by omega, (fun h => by cases h), by omega, hm⟩
    rw [htl] at hi
    have h1 := hcell i (by omega)
    have hb : (a.add i).block = a.block := by unfold Addr.add; first | rfl | (split <;> rfl)
    refine ⟨a, rfl, hb ▸ World.block_lt_of_cell? w _ h1, ?_⟩
    rw [h1]
    congr 2
    rw [List.getD_eq_getElem?_getD, List.getD_eq_getElem?_getD, List.getElem?_take, if_pos hi]
theorem take_snoc {α : Type} (zs : List α) (d : α) (i : Nat) (hi : i < zs.length) : zs.take (i + 1) = zs.take i ++ [zs.getD i d] := by
  rw [List.take_add_one, List.getD_eq_getElem?_getD, List.getElem?_eq_getElem hi]; rfl
theorem drop_cons {α : Type} (zs : List α) (d : α) (i : Nat) (hi : i < zs.length) : zs.drop i = zs.getD i d :: zs.drop (i + 1) := by
  rw [List.drop_eq_getElem_cons hi, List.getD_eq_getElem?_getD, List.getElem?_eq_getElem hi]; rfl
theorem getD_mem {α : Type} (zs : List α) (d : α) (i : Nat) (hi : i < zs.length) : zs.getD i d ∈ zs := by
  rw [List.getD_eq_getElem?_getD, List.getElem?_eq_getElem hi]; simp
theorem bd_i64 {n : Int} (h : (Lit.int .i64 n).wf = true) : -9223372036854775808 ≤ n ∧ n ≤ 9223372036854775807 := by
  simp [Lit.wf, IntKind.min, IntKind.max, IntKind.signed, IntKind.bits] at h
  omega
theorem bd_u8 {n : Int} (h : (Lit.int .u8 n).wf = true) : 0 ≤ n ∧ n ≤ 255 := by
  simp [Lit.wf, IntKind.min, IntKind.max, IntKind.signed, IntKind.bits] at h
  omega
theorem bd_u64 {n : Int} (h : (Lit.int .u64 n).wf = true) : 0 ≤ n ∧ n ≤ 18446744073709551615 := by
  simp [Lit.wf, IntKind.min, IntKind.max, IntKind.signed, IntKind.bits] at h
  omega
theorem wf_bd64 {zs : List Int} (h : Wfs .i64 zs) : ∀ z ∈ zs, -9223372036854775808 ≤ z ∧ z ≤ 9223372036854775807 := by
  intro z hz
  have := h z hz
  simp [Lit.wf, IntKind.min, IntKind.max, IntKind.signed, IntKind.bits] at this
  omega
theorem ownsRow_same {w w' : World} {base : Nat} {e : TypeId} {size : Nat} {v : Value} {n : Nat} {xs : List Value} (h : w.ownsRow base e size v n xs) (hk : ∀ g, v.ownBlock = some g → w'.heap[g]? = w.heap[g]?) : w'.ownsRow base e size v n xs := by
  refine ⟨h.1, ?_⟩
  rcases h.2 with hn | ⟨g, cap, cur, rfl, hb, hgg, rest⟩
  · exact .inl hn
  · exact .inr ⟨g, cap, cur, rfl, hb, (hk g rfl).trans hgg, rest⟩
theorem ownsRow_ext {w w' : World} {base : Nat} {e : TypeId} {size : Nat} {v : Value} {n : Nat} {xs : List Value} (h : w.ownsRow base e size v n xs) (hE : Ext w w') : w'.ownsRow base e size v n xs :=
  ownsRow_same h fun g hg => hE.block g (h.lt g hg).2
theorem ownsRow_slice {w : World} {base : Nat} {e : TypeId} {size : Nat} {v : Value} {n : Nat} {xs : List Value} (h : w.ownsRow base e size v n xs) : ∃ p c, v = .slice p n c := by
  rcases h.2 with ⟨rfl, rfl⟩ | ⟨g, cap, cur, rfl, _⟩
  · exact ⟨_, _, rfl⟩
  · exact ⟨_, _, rfl⟩
theorem ownsRow_cell {w : World} {base : Nat} {e : TypeId} {p : Option Addr} {n m c : Nat} {xs : List Value} (h : w.ownsRow base e 1 (.slice p m c) n xs) (i : Nat) (hi : i < n) : ∃ a, p = some a ∧ w.cell? (a.add i) = some (xs.getD i (.int .i64 0)) := by
  rcases h.2 with ⟨_, rfl⟩ | ⟨g, cap, cur, hv, _⟩
  · omega
  · have hv' := hv
    injection hv with h1 h2 h3
    subst h1
    refine ⟨_, rfl, h.cells (g := g) rfl i _ ?_⟩
    have := h.1
    rw [List.getD_eq_getElem?_getD, List.getElem?_eq_getElem (by omega)]; rfl
theorem cell_one_new (w : World) (a : Value) (t : TypeId) : ∀ j u, [a][j]? = some u → (w.alloc (.cells #[a] t)).cell? ((⟨w.heap.size, 0, none⟩ : Addr).add j) = some u := by
  intro j u hj
  match j, hj with
  | 0, hj => simp at hj; subst hj; simp [Addr.add]
end Go.Proofs.YtnbdcdeidhhgoaaDoor
