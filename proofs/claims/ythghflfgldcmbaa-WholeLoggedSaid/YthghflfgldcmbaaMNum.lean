/- mark: slot, number; eight bytes and numbers. -/
import Derived.Test.YthghflfgldcmbaaDCrash
import Derived.Test.YthghflfgldcmbaaBits
import Derived.Laws.Shifts
import Derived.Laws.ShiftsVar
namespace Go.Proofs.Ythghflfgldcmbaa
set_option maxRecDepth 4000
set_option linter.unusedVariables false
set_option linter.unusedSimpArgs false
open Go Go.RowKit
/-- the number of so many bytes from a place on, the lowest first -/
def numU (b : List UInt8) (o : Nat) : Nat → Nat
  | 0 => 0
  | k + 1 => numU b o k + (b.getD (o + k) 0).toNat * 2 ^ (8 * k)
theorem numU_lt (b : List UInt8) (o : Nat) : ∀ k, numU b o k < 2 ^ (8 * k)
  | 0 => by simp [numU]
  | k + 1 => by
    have h1 := numU_lt b o k
    have h2 := (b.getD (o + k) 0).toNat_lt
    unfold numU
    have e : 2 ^ (8 * (k + 1)) = 256 * 2 ^ (8 * k) := by rw [show 8 * (k + 1) = 8 + 8 * k by omega, Nat.pow_add]
    rw [e]
    have h3 : (b.getD (o + k) 0).toNat * 2 ^ (8 * k) ≤ 255 * 2 ^ (8 * k) := Nat.mul_le_mul_right _ (by omega)
    omega
theorem or_shift (n x k : Nat) (h : n < 2 ^ (8 * k)) : n ||| x * 2 ^ (8 * k) = n + x * 2 ^ (8 * k) := by
  have := Nat.shiftLeft_add_eq_or_of_lt h x
  rw [Nat.shiftLeft_eq] at this
  rw [Nat.or_comm, ← this, Nat.add_comm]
theorem pow_le (i : Nat) (h : i < 8) : 2 ^ (8 * i) ≤ 2 ^ 56 := Nat.pow_le_pow_right (by omega) (by omega)
/-- one byte more of a number -/
theorem or_byte (y x i : Nat) (hi : i < 8) (hx : x < 256) (hy : y < 2 ^ (8 * i)) : bits .or .u64 (y : Int) (IntKind.u64.wrap ((x : Int) * 2 ^ (8 * i))) = ((y + x * 2 ^ (8 * i) : Nat) : Int) := by
  have h1 := pow_le i hi
  have h2 : x * 2 ^ (8 * i) ≤ 255 * 2 ^ 56 := Nat.mul_le_mul (by omega) h1
  have e : IntKind.u64.wrap ((x : Int) * 2 ^ (8 * i)) = ((x * 2 ^ (8 * i) : Nat) : Int) := by
    rw [IntKind.wrap_u64]
    have : ((x : Int) * 2 ^ (8 * i)) = ((x * 2 ^ (8 * i) : Nat) : Int) := by push_cast; rfl
    rw [this]
    generalize x * 2 ^ (8 * i) = z at *
    omega
  rw [e, or_nat_u64 _ _ (by omega) (by omega), or_shift _ _ _ hy]
theorem slot_any (w : World) (f q : Nat) (h : f ≤ 4096) (hq : q < 18446744073709551616) : Calls Try.prog 43 #[.int .i64 f, .int .u64 q] w fun e w' => e = .returned (.int .i64 ((f + q % 2 : Nat) : Int)) ∧ w = w' := by
  go_enter Try.func43, Try.ntmps43
  go_wp2_with fail
  go_ret
  exact ⟨by congr 2 <;> omega, rfl⟩
def NbRel (w : World) (b : List UInt8) (v k : Value) (wr : World) : Prop :=
  ∃ i : Nat, i ≤ 8 ∧ k = .int .i64 i ∧ v = .int .u64 (numU b 0 i) ∧ wr = w
theorem number_any (w : World) (a : Addr) (n c : Nat) (b : List UInt8) (h8 : 8 ≤ b.length) (hc : b.length ≤ c) (hN : ∀ j u, (u8s b)[j]? = some u → w.cell? (a.add j) = some u) :
    Calls Try.prog 41 #[.slice (some a) b.length c] w fun e w' => e = .returned (.int .u64 (numU b 0 8)) ∧ w = w' := by
  have h8c : 8 ≤ c := by omega
  have hsl : (Instr.sliceAt 36 (.slice (some a) b.length c) none (some (.int .i64 8)) none).run Try.prog w = .ok (.slice (some a) 8 c) w := slice_to w (some a) b.length c 8 8 rfl h8c
  have HN := Lib.hid hN
  clear hN
  go_enter Try.func41, Try.ntmps41
  go_wp2_with fail
  go_loopw [3, 9] (fun v k wr => NbRel w b v k wr) (fun _ k _ => (9 - intOf k).toNat)
  case atStart => exact ⟨0, by omega, rfl, rfl, rfl⟩
  case round =>
    obtain ⟨i, hi, rfl, rfl, rfl⟩ := hrel
    by_cases gi : (i : Int) < 8
    · have hcell := HN.out i _ (u8s_get b i (by omega))
      have hxb := (b.getD i 0).toNat_lt
      have hlt := numU_lt b 0 i
      have hsucc : numU b 0 (i + 1) = numU b 0 i + (b.getD i 0).toNat * 2 ^ (8 * i) := by rw [numU, Nat.zero_add]
      have HS := Lib.hid hsucc
      generalize b.getD i 0 = x at *
      generalize numU b 0 i = y at *
      clear hsucc
      go_wp2_with fail
      rw [or_byte y x.toNat i (by omega) (by omega) hlt]
      exact ⟨⟨i + 1, by omega, by go_num, by rw [HS.out], rfl⟩, by simp [intOf]; omega⟩
    · have hi' : i = 8 := by omega
      subst hi'
      go_wp2_with fail
      go_ret
      exact ⟨rfl, rfl⟩
end Go.Proofs.Ythghflfgldcmbaa
