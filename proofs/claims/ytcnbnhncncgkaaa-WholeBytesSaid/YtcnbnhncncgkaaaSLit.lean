/- The standards' own texts, as literals: their sums. -/
import Derived.Test.YtcnbnhncncgkaaaSParts
import Derived.Lib.SlBytesConst
namespace Go.Proofs.Ytcnbnhncncgkaaa
set_option linter.unusedVariables false
set_option linter.unusedSimpArgs false
open Go Go.RowKit
def digits : List UInt8 := [0x31,0x32,0x33,0x34,0x35,0x36,0x37,0x38,0x39]
def abc : List UInt8 := [0x61, 0x62, 0x63]
theorem const_nums (w : World) (t : TypeId) (l : List UInt8) (fr : Nat × Nat) : NumsAt .u8 (w.alloc (.cells (u8s l).toArray t fr)) (some ⟨w.heap.size, 0, none⟩) (byI l) := by
  intro j hj
  have hj' : j < l.length := by rw [byI_length] at hj; exact hj
  have h : (w.alloc (.cells (u8s l).toArray t fr)).heap[w.heap.size]? = some (.cells (u8s l).toArray t fr) := heap_alloc_new w _
  refine ⟨_, rfl, by simp, ?_⟩
  rw [Go.WideShapes.add_plain, Nat.zero_add, cell_of_row _ _ j _ t fr h, List.getElem?_toArray, u8s_get l j hj', byI, List.getD_eq_getElem?_getD, List.getD_eq_getElem?_getD, List.getElem?_map, List.getElem?_eq_getElem hj']
  rfl
theorem u8Info1 : (Try.prog.info? 5).map (·.size) = some 1 := by kernel_rfl
theorem index_sum {W : World} (l : List UInt8) (i : Nat) (z : Int) (hz : z = i) (hi : i < 32) (hl : l.length = 32) :
    (Instr.index 29 (smV l) (.int .i64 z)).run Try.prog W = .ok (.int .u8 ((l.getD i 0).toNat : Int)) W := by
  subst hz
  have h2 : (0 : Int) ≤ i ∧ (i : Int) < ((32 : Nat) : Int) := by omega
  have hu := u8Info1
  have hg := u8s_get l i (by omega)
  cases hq : Try.prog.info? 5 with
  | none => rw [hq] at hu; cases hu
  | some t =>
    have ht : t.size = 1 := by rw [hq] at hu; simpa using hu
    simp only [Instr.index, asIntOf, Sem.run_bind, Sem.run_pure, Result.andThen_ok, run_underlying Try.underlying29]
    rw [if_pos h2]
    simp [sizeOf, typeInfo, hq, ht, part, Sem.run_bind, Result.andThen, hi]
    rw [hg]
    simp
theorem crc_lit (w : World) : Calls Try.prog 4 #[.slice (some ⟨w.heap.size + 1, 0, none⟩) 1 1] ((w.alloc (.cells (u8s digits).toArray 5 (9, 10))).alloc (.cells #[.slice (some ⟨w.heap.size, 0, none⟩) 9 9] 27)) fun e w' => e = .returned (.int .u32 3421780262) ∧ w' = (w.alloc (.cells (u8s digits).toArray 5 (9, 10))).alloc (.cells #[.slice (some ⟨w.heap.size, 0, none⟩) 9 9] 27) := by
  have := crc_one (W := w.alloc (.cells (u8s digits).toArray 5 (9, 10))) (t := 27) (c := 9) (const_nums w 5 digits (9, 10)) (fun h => by cases h) (by decide) (by decide)
  rw [show crc digits = 0xcbf43926 from crc_digits, show (w.alloc (.cells (u8s digits).toArray 5 (9, 10))).heap.size = w.heap.size + 1 by simp] at this
  exact this
theorem of_lit (w : World) : Calls Try.prog 5 #[.slice (some ⟨w.heap.size + 1, 0, none⟩) 1 1] ((w.alloc (.cells (u8s abc).toArray 5 (3, 4))).alloc (.cells #[.slice (some ⟨w.heap.size, 0, none⟩) 3 3] 27)) fun e w' => e = .returned (smV (sha abc)) ∧ Ext w w' := by
  have := of_one (W := w.alloc (.cells (u8s abc).toArray 5 (3, 4))) (t := 27) (c := 3) (const_nums w 5 abc (3, 4)) (fun h => by cases h) (by decide) (by decide) (by decide)
  rw [show (w.alloc (.cells (u8s abc).toArray 5 (3, 4))).heap.size = w.heap.size + 1 by simp] at this
  exact this.mono fun e w' ⟨h, k⟩ => ⟨h, (ext_alloc _ _).trans k⟩
theorem of_none (w : World) : Calls Try.prog 5 #[.slice none 0 0] w fun e w' => e = .returned (smV (sha [])) ∧ Ext w w' := by
  exact of_any (G := fun _ => False) w none 0 [] (PartsAt.nil _ _ _) (by decide) (by intro x hx; simp at hx)
theorem chain_nil (w : World) : Calls Try.prog 12 #[smV (zb 32), .slice (some ⟨w.heap.size, 0, none⟩) 1 1] (w.alloc (.cells #[.slice none 0 0] 27)) fun e w' => ∃ p c, e = .returned (.slice p 1 c) ∧ Ext w w' := by
  have hP : PartsAt (fun _ => False) (w.alloc (.cells #[.slice none 0 0] 27)) (some ⟨w.heap.size, 0, none⟩) [[]] := PartsAt.one (l := []) (Blk.new w 27 #[.slice none 0 0]) (fun i hi => absurd hi (by simp [byI])) (fun _ => ⟨rfl, rfl⟩) (by decide) (by decide)
  refine (chain_any _ (zb 32) rfl _ 1 [[]] hP (by decide) (by intro x hx; simp at hx; subst hx; decide)).mono ?_
  rintro e w' ⟨v, rfl, hH⟩
  obtain ⟨F, hF⟩ := hH.head
  obtain ⟨p, c, rfl⟩ := ownsRow_slice hF.1
  exact ⟨p, c, rfl, (ext_alloc _ _).trans hH.base⟩
end Go.Proofs.Ytcnbnhncncgkaaa
