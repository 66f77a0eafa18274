/- CRC: what it computes of any parts. -/
import Derived.Test.YtkkhcpknldlpoaaSRot
import Derived.LoopTactic
namespace Go.Proofs.Ytkkhcpknldlpoaa
set_option maxRecDepth 4000
set_option linter.unusedVariables false
set_option linter.unusedSimpArgs false
open Go Go.RowKit
/-- slices of bytes, in a slice, that can be read -/
def PartsIn (w : World) (p : Option Addr) (ps : List (List UInt8)) : Prop :=
  ∀ i (h : i < ps.length), ∃ b o, p = some ⟨b, o, none⟩ ∧ b < w.heap.size ∧ ∃ q c, w.cell? ⟨b, o + i, none⟩ = some (.slice q ps[i].length c) ∧ NumsAt .u8 w q (byI ps[i]) ∧ (q = none → ps[i].length = 0 ∧ c = 0) ∧ ps[i].length ≤ c ∧ c ≤ maxLen
theorem crcTimes_succ (n : Nat) : ∀ c : W32, crcTimes (n + 1) c = crcBit (crcTimes n c) := by
  induction n with
  | zero => exact fun _ => rfl
  | succ n ih => intro c; rw [crcTimes, ih]; rfl
def CrcRel1 (w : World) (ps : List (List UInt8)) (c k : Value) (wr : World) : Prop :=
  ∃ i : Nat, i ≤ ps.length ∧ k = .int .i64 i ∧ c = .int .u32 (wv (crcFrom 4294967295#32 (ps.take i).flatten)) ∧ wr = w
def CrcRel2 (w : World) (c0 : W32) (bs : List UInt8) (c k : Value) (wr : World) : Prop :=
  ∃ i : Nat, i ≤ bs.length ∧ k = .int .i64 i ∧ c = .int .u32 (wv (crcFrom c0 (bs.take i))) ∧ wr = w
def CrcRel3 (w : World) (c0 : W32) (c k : Value) (wr : World) : Prop :=
  ∃ i : Nat, i ≤ 8 ∧ k = .int .i64 i ∧ c = .int .u32 (wv (crcTimes i c0)) ∧ wr = w
end Go.Proofs.Ytkkhcpknldlpoaa
