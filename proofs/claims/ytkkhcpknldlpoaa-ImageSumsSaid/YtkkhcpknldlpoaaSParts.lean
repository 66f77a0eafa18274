/- Parts of the law's own: one slice of bytes, in a slice. -/
import Derived.Test.YtkkhcpknldlpoaaSChain
import Derived.Test.YtkkhcpknldlpoaaOpenPts
namespace Go.Proofs.Ytkkhcpknldlpoaa
set_option maxRecDepth 4000
set_option linter.unusedVariables false
set_option linter.unusedSimpArgs false
open Go Go.RowKit
theorem NumsAt.blk {X : World} {g : Nat} {t : TypeId} {l : List UInt8} (h : Blk X g t (u8s l).toArray) : NumsAt .u8 X (some ⟨g, 0, none⟩) (byI l) := by
  intro j hj
  have hj' : j < l.length := by rw [byI_length] at hj; exact hj
  refine ⟨_, rfl, h.lt, ?_⟩
  rw [Go.WideShapes.add_plain, Nat.zero_add, h.cell j, List.getElem?_toArray, u8s_get l j hj', byI, List.getD_eq_getElem?_getD, List.getD_eq_getElem?_getD, List.getElem?_map, List.getElem?_eq_getElem hj']
  rfl
theorem NumsAt.row {X : World} {e : TypeId} {base n c : Nat} {p : Option Addr} {l : List UInt8} (h : X.ownsRow base e 1 (.slice p n c) n (u8s l)) : NumsAt .u8 X p (byI l) := by
  intro j hj
  have hj' : j < l.length := by rw [byI_length] at hj; exact hj
  have hn : n = l.length := by have := h.1; rw [u8s_length] at this; omega
  obtain ⟨a, rfl, hc⟩ := ownsRow_cell h j (by omega)
  have hb : (a.add j).block = a.block := by unfold Addr.add; first | rfl | (split <;> rfl)
  refine ⟨a, rfl, hb ▸ World.block_lt_of_cell? _ _ hc, ?_⟩
  rw [hc, List.getD_eq_getElem?_getD, u8s_get l j hj', byI, List.getD_eq_getElem?_getD, List.getD_eq_getElem?_getD, List.getElem?_map, List.getElem?_eq_getElem hj']
  rfl
theorem row_cap {X : World} {e : TypeId} {base n c : Nat} {p : Option Addr} {xs : List Value} (h : X.ownsRow base e 1 (.slice p n c) n xs) : n ≤ c ∧ c ≤ maxLen := by
  rcases h.2 with ⟨hv, rfl⟩ | ⟨g, cap, cur, hv, h1, h2, h3, h4, h5⟩
  · injection hv with _ _ hc; subst hc; exact ⟨Nat.le_refl _, Nat.zero_le _⟩
  · injection hv with _ _ hc; subst hc; exact ⟨h3, h4⟩
theorem PartsAt.nil (F : Nat → Prop) (w : World) (p : Option Addr) : PartsAt F w p [] := fun i hi => absurd hi (by simp)
theorem PartsAt.one {X : World} {g : Nat} {t : TypeId} {q : Option Addr} {c : Nat} {l : List UInt8} (hb : Blk X g t #[.slice q l.length c]) (hN : NumsAt .u8 X q (byI l)) (hn : q = none → l.length = 0 ∧ c = 0) (h1 : l.length ≤ c) (h2 : c ≤ maxLen) : PartsAt (fun _ => False) X (some ⟨g, 0, none⟩) [l] := by
  intro i hi
  have hi0 : i = 0 := by simp at hi; exact hi
  subst hi0
  exact ⟨g, 0, rfl, hb.lt, id, q, c, by rw [hb.cell]; rfl, hN, fun _ _ _ => id, hn, h1, h2⟩
theorem flat1 (l : List UInt8) : [l].flatten = l := by simp
/-- one slice of bytes in a new slice: both sums -/
theorem of_one {W : World} {t : TypeId} {q : Option Addr} {c : Nat} {l : List UInt8} (hN : NumsAt .u8 W q (byI l)) (hn : q = none → l.length = 0 ∧ c = 0) (h1 : l.length ≤ c) (h2 : c ≤ maxLen) (hs : l.length ≤ 70368744177664) :
    Calls Try.prog 73 #[.slice (some ⟨W.heap.size, 0, none⟩) 1 1] (W.alloc (.cells #[.slice q l.length c] t)) fun e w' => e = .returned (smV (sha l)) ∧ Ext W w' := by
  have hE := ext_alloc W (.cells #[.slice q l.length c] t)
  have hP := PartsAt.one (Blk.new W t #[.slice q l.length c]) (hN.ext hE) hn h1 h2
  have := sof_any (G := fun _ => False) _ _ 1 [l] hP (by unfold maxLen; simp) (by intro x hx; simp at hx; subst hx; exact hs)
  rw [flat1] at this
  exact this.mono fun e w' ⟨h, k⟩ => ⟨h, hE.trans k⟩
end Go.Proofs.Ytkkhcpknldlpoaa
