/- Sums are alike or not. -/
import Derived.Test.YtkkhcpknldlpoaaSLit
import Derived.ChangeKeysEq
namespace Go.Proofs.Ytkkhcpknldlpoaa
set_option maxRecDepth 4000
set_option linter.unusedVariables false
set_option linter.unusedSimpArgs false
open Go Go.RowKit
theorem part_u8 {W : World} (l : List UInt8) (i : Nat) (hi : i < l.length) : (part 5 (u8s l).toArray (i * 1)).run Try.prog W = .ok (.int .u8 ((l.getD i 0).toNat : Int)) W := by
  have hu := u8Info1
  have hg := u8s_get l i hi
  cases hq : Try.prog.info? 5 with
  | none => rw [hq] at hu; cases hu
  | some t =>
    have ht : t.size = 1 := by rw [hq] at hu; simpa using hu
    simp [sizeOf, typeInfo, hq, ht, part, Sem.run_bind, Result.andThen]
    rw [hg]
    simp
theorem eqItems_u8 {W : World} (d : Nat) (a b : List UInt8) (h : a.length = b.length) : ∀ (m k : Nat), k + m = a.length →
    (Op.eqItems (d + 1) 5 1 (u8s a).toArray (u8s b).toArray (List.range' k m)).run Try.prog W = .ok (decide (a.drop k = b.drop k)) W := by
  intro m
  induction m with
  | zero =>
    intro k hk
    have : a.drop k = b.drop k := by rw [List.drop_eq_nil_of_le (by omega), List.drop_eq_nil_of_le (by omega)]
    rw [decide_eq_true this]
    simp [Op.eqItems]
  | succ m ih =>
    intro k hk
    have ha : k < a.length := by omega
    have hb : k < b.length := by omega
    rw [List.range'_succ, Op.eqItems]
    simp only [Sem.run_bind, part_u8 a k ha, part_u8 b k hb, Result.andThen_ok, run_equalIn_int (P := Try.prog) W d 5 .u8 .u8 _ _ Try.underlying5]
    rw [List.drop_eq_getElem_cons ha, List.drop_eq_getElem_cons hb]
    have e1 : a.getD k 0 = a[k] := by rw [List.getD_eq_getElem?_getD, List.getElem?_eq_getElem ha]; rfl
    have e2 : b.getD k 0 = b[k] := by rw [List.getD_eq_getElem?_getD, List.getElem?_eq_getElem hb]; rfl
    rw [e1, e2]
    by_cases hx : a[k] = b[k]
    · have : ((a[k].toNat : Int) == (b[k].toNat : Int)) = true := by rw [hx]; simp
      simp only [this, Bool.not_true, Bool.false_eq_true, if_false]
      rw [ih (k + 1) (by omega)]
      congr 1
      exact decide_eq_decide.2 ⟨fun h => by rw [hx, h], fun h => by injection h⟩
    · have hn : ¬ (a[k].toNat : Int) = (b[k].toNat : Int) := fun e => hx (UInt8.toNat_inj.1 (by omega))
      have : ((a[k].toNat : Int) == (b[k].toNat : Int)) = false := by simpa using hn
      simp only [this, Bool.not_false, if_true, Sem.run_pure]
      congr 1
      exact (decide_eq_false (fun h => by injection h with h _; exact hx h)).symm
theorem sumCells : Try.prog.cellsOf 5 = 1 := by kernel_rfl
theorem eq_sum (W : World) (a b : List UInt8) (ha : a.length = 32) (hb : b.length = 32) : (Op.equalIn 10000 66 (smV a) (smV b)).run Try.prog W = .ok (decide (a = b)) W := by
  have hu := smInfo
  have hu8 := u8Info1
  cases hq : Try.prog.info? 5 with
  | none => rw [hq] at hu8; cases hu8
  | some i =>
    have := run_equalIn_array W 9999 (u8s a).toArray (u8s b).toArray Try.underlying66 hq
    rw [this, sumCells, List.range_eq_range', eqItems_u8 9998 a b (by omega) 32 0 (by omega)]
    simp
end Go.Proofs.Ytkkhcpknldlpoaa
