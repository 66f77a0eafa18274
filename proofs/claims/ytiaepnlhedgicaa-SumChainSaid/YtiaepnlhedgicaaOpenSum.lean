/- A sum that came in, by value. -/
import Derived.Test.YtiaepnlhedgicaaOpenPts
namespace Go.Proofs.Ytiaepnlhedgicaa
set_option linter.unusedVariables false
set_option linter.unusedSimpArgs false
open Go Go.RowKit Go.ChangeShapes Go.WideShapes Go.Deep
theorem bytes_of_cells {l : List Value} (h : ∀ i (hi : i < l.length), ∃ m, l[i] = .int .u8 m ∧ (Lit.int .u8 m).wf = true) : ∃ bs : List UInt8, l = u8s bs := by
  induction l with
  | nil => exact ⟨[], rfl⟩
  | cons v l ih =>
    obtain ⟨m, hv, hw⟩ := h 0 (by simp)
    obtain ⟨bs, hb⟩ := ih fun i hi => by
      obtain ⟨m, h1, h2⟩ := h (i + 1) (by simpa using hi)
      rw [List.getElem_cons_succ] at h1
      exact ⟨m, h1, h2⟩
    have hm := bd_u8 hw
    refine ⟨UInt8.ofNat m.toNat :: bs, ?_⟩
    simp only [List.getElem_cons_zero] at hv
    rw [hv, hb]
    simp [u8s]
    omega
theorem sumCellsOf : Try.prog.cellsOf 29 = 32 := by kernel_rfl
theorem open_sum {H : Type} {enc : TypeId × Value → H} {w : World} {base b0 : Nat} {spare : Nat → Bool} {held : Bool} {r : Reach} {v : Value} {d : DataW H} {p : List MemPlace}
    (hv : Value.okWide Try.prog w r b0 29 v) (h : DataW.Trod enc Try.prog w base spare held 29 v d p) : ∃ l : List UInt8, l.length = 32 ∧ v = smV l := by
  unfold Value.okWide at hv
  rw [Try.underlying29] at hv
  obtain ⟨cs, rfl, hsz, _⟩ := hv
  rw [sumCellsOf] at hsz
  obtain ⟨fuel, hf⟩ := h
  obtain ⟨zs, m4, _, _, hl4, hz, hel⟩ := DataW.trod_array Try.underlying29 hf
  have hcl : (Value.agg cs).cells.toList = cs.toList := rfl
  rw [hcl] at hel hl4
  obtain ⟨bs, hbs⟩ := bytes_of_cells (l := cs.toList) (fun i hi => by
    have hi' : i < 32 := by rw [Array.length_toList] at hi; omega
    have := hel i (by omega)
    rw [cells8, Nat.mul_one, one_of hi] at this
    have hzi : zs[i]? = some (zs[i]'(by omega)) := List.getElem?_eq_getElem (by omega)
    rw [hzi] at this
    exact int_of Try.underlying5 this)
  refine ⟨bs, ?_, ?_⟩
  · have := congrArg List.length hbs
    rw [Array.length_toList, u8s_length] at this
    omega
  · rw [smV, ← hbs]
end Go.Proofs.Ytiaepnlhedgicaa
