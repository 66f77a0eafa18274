/- The standards' own texts, as literals: their sums. -/
import Derived.Test.YtkkhcpknldlpoaaSParts
import Derived.Lib.SlBytesConst
namespace Go.Proofs.Ytkkhcpknldlpoaa
set_option maxRecDepth 4000
set_option linter.unusedVariables false
set_option linter.unusedSimpArgs false
open Go Go.RowKit
def digits : List UInt8 := [0x31,0x32,0x33,0x34,0x35,0x36,0x37,0x38,0x39]
def abc : List UInt8 := [0x61, 0x62, 0x63]
theorem const_nums (w : World) (t : TypeId) (l : List UInt8) (fr : Nat × Nat) : NumsAt .u8 (w.alloc (.cells (u8s l).toArray t fr)) (some ⟨w.heap.size, 0, none⟩) (byI l) := by
  intro j hj
  have hj' : j < l.length := by rw [byI_length] at hj; exact hj
  have h : (w.alloc (.cells (u8s l).toArray t fr)).heap[w.heap.size]? = some (.cells (u8s l).toArray t fr) := heap_alloc_new w _
  refine ⟨_, rfl, by simp, ?_⟩
  rw [Go.WideShapes.add_plain, Nat.zero_add, cell_of_row _ _ j _ t fr h, List.getElem?_toArray, u8s_get l j hj', byI, List.getD_eq_getElem?_getD, List.getD_eq_getElem?_getD, List.getElem?_map, List.getElem?_eq_getElem hj']
  rfl
theorem u8Info1 : (Try.prog.info? 5).map (·.size) = some 1 := by kernel_rfl
theorem index_sum {W : World} (l : List UInt8) (i : Nat) (z : Int) (hz : z = i) (hi : i < 32) (hl : l.length = 32) :
    (Instr.index 66 (smV l) (.int .i64 z)).run Try.prog W = .ok (.int .u8 ((l.getD i 0).toNat : Int)) W := by
  subst hz
  have h2 : (0 : Int) ≤ i ∧ (i : Int) < ((32 : Nat) : Int) := by omega
  have hu := u8Info1
  have hg := u8s_get l i (by omega)
  cases hq : Try.prog.info? 5 with
  | none => rw [hq] at hu; cases hu
  | some t =>
    have ht : t.size = 1 := by rw [hq] at hu; simpa using hu
    simp only [Instr.index, asIntOf, Sem.run_bind, Sem.run_pure, Result.andThen_ok, run_underlying Try.underlying66]
    rw [if_pos h2]
    simp [sizeOf, typeInfo, hq, ht, part, Sem.run_bind, Result.andThen, hi]
    rw [hg]
    simp
theorem of_lit (w : World) : Calls Try.prog 73 #[.slice (some ⟨w.heap.size + 1, 0, none⟩) 1 1] ((w.alloc (.cells (u8s abc).toArray 5 (3, 4))).alloc (.cells #[.slice (some ⟨w.heap.size, 0, none⟩) 3 3] 30)) fun e w' => e = .returned (smV (sha abc)) ∧ Ext w w' := by
  have := of_one (W := w.alloc (.cells (u8s abc).toArray 5 (3, 4))) (t := 30) (c := 3) (const_nums w 5 abc (3, 4)) (fun h => by cases h) (by decide) (by decide) (by decide)
  rw [show (w.alloc (.cells (u8s abc).toArray 5 (3, 4))).heap.size = w.heap.size + 1 by simp] at this
  exact this.mono fun e w' ⟨h, k⟩ => ⟨h, (ext_alloc _ _).trans k⟩
theorem of_none (w : World) : Calls Try.prog 73 #[.slice none 0 0] w fun e w' => e = .returned (smV (sha [])) ∧ Ext w w' := by
  exact sof_any (G := fun _ => False) w none 0 [] (PartsAt.nil _ _ _) (by decide) (by intro x hx; simp at hx)
end Go.Proofs.Ytkkhcpknldlpoaa
