/- Slices of slices of bytes that came in. -/
import Derived.Test.YtkkhcpknldlpoaaSLink
import Derived.Test.YtkkhcpknldlpoaaOpenR
namespace Go.Proofs.Ytkkhcpknldlpoaa
set_option maxRecDepth 4000
set_option linter.unusedVariables false
set_option linter.unusedSimpArgs false
open Go Go.RowKit Go.ChangeShapes Go.WideShapes Go.Deep
structure Byts where
  p : Option Addr
  c : Nat
  bs : List UInt8
def Byts.cells (q : Byts) : List Value := [.slice q.p q.bs.length q.c]
structure Byts.Ok (w : World) (q : Byts) : Prop where
  data : NumsAt .u8 w q.p (byI q.bs)
  nil_ : q.p = none → q.bs.length = 0 ∧ q.c = 0
  cap : q.bs.length ≤ q.c ∧ q.c ≤ maxLen
theorem cells8 : Try.prog.cellsOf 5 = 1 := by kernel_rfl
theorem cells8s : Try.prog.cellsOf 30 = 1 := by kernel_rfl
section
variable {H : Type} {enc : TypeId × Value → H} {w : World} {base : Nat} {spare : Nat → Bool} {held : Bool}
theorem open_byts {fuel : Nat} {cs : List Value} {x : DataW H × List MemPlace} (h : DataW.trod enc Try.prog w base spare held fuel 30 cs = some x) : ∃ q : Byts, cs = q.cells ∧ q.Ok w := by
  rcases open_ints Try.underlying30 Try.underlying5 cells8 h with ⟨hv, _⟩ | ⟨a, len', cap', zs', hv, _, hl', hm', hz', _, hcell, hwz⟩
  · exact ⟨⟨none, 0, []⟩, hv, fun i hi => absurd hi (by simp [byI]), fun _ => ⟨rfl, rfl⟩, by simp, by simp⟩
  · have hlz : len' ≤ zs'.length := by rw [hz']; split <;> omega
    obtain ⟨bs, hbs⟩ := bytes_of (zs := zs'.take len') (fun n hn => hwz n (List.mem_of_mem_take hn))
    have htl : (zs'.take len').length = len' := by simp; omega
    have hbl : bs.length = len' := by rw [← htl, hbs, byI_length]
    refine ⟨⟨some a, cap', bs⟩, by rw [Byts.cells, hbl]; exact hv, fun i hi => ?_, fun h => (by cases h), by show bs.length ≤ cap'; omega, hm'⟩
    rw [byI_length] at hi
    have hi : i < bs.length := hi
    have h1 := hcell i (by omega)
    have hb : (a.add i).block = a.block := by unfold Addr.add; first | rfl | (split <;> rfl)
    refine ⟨a, rfl, hb ▸ World.block_lt_of_cell? w _ h1, ?_⟩
    rw [h1]
    show some (Value.int .u8 _) = some (Value.int .u8 ((byI bs).getD i 0))
    rw [← hbs]
    congr 2
    rw [List.getD_eq_getElem?_getD, List.getD_eq_getElem?_getD, List.getElem?_take, if_pos (by omega)]
theorem open_parts {b0 : Nat} {r : Reach} {v : Value} {d : DataW H} {pl : List MemPlace} (hval : Value.okWide Try.prog w r b0 135 v) (h : DataW.Trod enc Try.prog w base spare held 135 v d pl) :
    ∃ p c ps, v = .slice p ps.length c ∧ PartsAt (fun _ => False) w p ps := by
  obtain ⟨p, c, qs, rfl, hR⟩ := open_rows (n := 1) (cells := Byts.cells) (Ok := Byts.Ok w) Try.underlying135 cells8s (by omega) (fun _ => rfl) open_byts hval h
  refine ⟨p, c, qs.map Byts.bs, by rw [List.length_map], fun i hi => ?_⟩
  rw [List.length_map] at hi
  obtain ⟨b, o, rfl, hb, hc, hd, hn, hm, hx⟩ := hR i hi
  refine ⟨b, o, rfl, hb, id, qs[i].p, qs[i].c, ?_, by rw [List.getElem_map]; exact hd, fun _ _ _ => id, by rw [List.getElem_map]; exact hn, by rw [List.getElem_map]; exact hm, hx⟩
  have := hc 0 (by omega)
  rw [Nat.mul_one, Nat.add_zero] at this
  rw [this, List.getElem_map]
  rfl
end
theorem PartsAt.in_ {F : Nat → Prop} {w : World} {p : Option Addr} {ps : List (List UInt8)} (h : PartsAt F w p ps) : PartsIn w p ps := by
  intro i hi
  obtain ⟨b, o, h1, h2, _, q, c, h4, h5, _, h7, h8, h9⟩ := h i hi
  exact ⟨b, o, h1, h2, q, c, h4, h5, h7, h8, h9⟩
end Go.Proofs.Ytkkhcpknldlpoaa
