/- The walks of a writer's other functions. -/
import Derived.Test.YtcnbnhncncgkaaaWNum
import Derived.StillTailTactics
namespace Go.Proofs.Ytcnbnhncncgkaaa
set_option linter.unusedVariables false
set_option linter.unusedSimpArgs false
open Go Go.RowKit
theorem wbytes_any {W : World} {q : Nat} {l : List UInt8} {F : Nat → Prop} (h : wA q l W F) (hlen : l.length ≤ 70368744177664) :
    Calls Try.prog 8 #[.pointer (some ⟨q, 0, none⟩)] W fun e W' => (∃ v, e = .returned v ∧ W'.ownsRow W.heap.size 5 1 v l.length (u8s l)) ∧ Ext W W' := by
  obtain ⟨i0, hi0, hz0, hz1, hz2⟩ := info_parts u8Info
  obtain ⟨v, hS⟩ := WSt.of h
  have c0 := hS.rep.blk.cell 0
  have hql := hS.rep.blk.lt
  have hown := hS.rep.own
  simp only [List.getElem?_toArray, List.getElem?_cons_zero, List.getElem?_cons_succ] at c0
  obtain ⟨pv, cv, rfl⟩ := ownsRow_slice hown
  have hE := ext_alloc W (.cells #[] 5)
  go_enter Try.func8, Try.ntmps8
  have hlit := World.ownsRow_made (base := 0) (e := 5) (size := 1) W #[] 0 (Nat.zero_le _) (by simp) rfl
  have hb1 : 0 + l.length ≤ maxLen := by unfold maxLen; omega
  have hb2 : (0 + l.length) * 1 ≤ 140737488355328 := by omega
  go_wp2_with (at_builtin; refine wpList_append_new rfl _ _ 27 rfl 5 i0 (.int .u8 0) 1 1 Try.underlying27 hi0 hz0 hz1 hz2 rfl (by decide) _ 0 [] rfl hlit pv l.length cv (u8s l) rfl (u8s_length l ▸ (Nat.mul_one _).symm) (row_nil hown) (row_news (ownsRow_ext hown hE)) (u8s_one l) hb1 hb2 ?_)
  intro v' w3 hown3 hg3 hf3
  obtain ⟨pv', cv', rfl⟩ := ownsRow_slice hown3
  have hE3 : Ext W w3 := hE.grown hg3 (by simp) (fun k hk => by simp [Value.ownBlock] at hk; omega)
  have hown4 := ownsRow_base (b' := W.heap.size) hown3 (fun k hk => by
    rcases hf3.1 k hk with h1 | h1
    · simp [Value.ownBlock] at h1; omega
    · simp at h1; omega)
  clear hown3 hg3 hf3 hS hown hlit
  go_wp2_with fail
  go_ret
  exact ⟨⟨_, rfl, by simpa using hown4⟩, hE3⟩
def zigN (n : Int) : Nat := if 0 ≤ n then (2 * n).toNat else (-2 * n - 1).toNat
theorem xor_ones (a : Nat) (ha : a < 18446744073709551616) : a ^^^ 18446744073709551615 = 18446744073709551615 - a := by
  have h := congrArg BitVec.toNat (BitVec.xor_allOnes (x := BitVec.ofNat 64 a))
  rw [BitVec.toNat_xor, BitVec.toNat_not, BitVec.toNat_ofNat, Nat.mod_eq_of_lt (by omega)] at h
  simpa using h
theorem zig_pos (n : Int) (h0 : 0 ≤ n) (h2 : n ≤ 9223372036854775807) : bits .xor .u64 (n * 2) (n / 9223372036854775808) = (zigN n : Int) := by
  obtain ⟨a, rfl⟩ := Int.eq_ofNat_of_zero_le h0
  have e1 : (a : Int) * 2 = ((2 * a : Nat) : Int) := by omega
  have e2 : (a : Int) / 9223372036854775808 = ((0 : Nat) : Int) := by omega
  rw [e1, e2, xor_nat_u64 _ _ (by omega) (by omega)]
  simp [zigN]; omega
theorem zig_neg (n : Int) (h0 : n < 0) (h1 : -9223372036854775808 ≤ n) : bits .xor .u64 (IntKind.u64.wrap (IntKind.u64.wrap n * 2)) (IntKind.u64.wrap (n / 9223372036854775808)) = (zigN n : Int) := by
  obtain ⟨a, ha⟩ := Int.eq_ofNat_of_zero_le (show 0 ≤ 2 * n + 18446744073709551616 by omega)
  have e1 : IntKind.u64.wrap (IntKind.u64.wrap n * 2) = (a : Int) := by
    rw [IntKind.wrap_u64, IntKind.wrap_u64]; omega
  have e2 : IntKind.u64.wrap (n / 9223372036854775808) = ((18446744073709551615 : Nat) : Int) := by
    have : n / 9223372036854775808 = -1 := by omega
    rw [this, IntKind.wrap_u64]; rfl
  rw [e1, e2, xor_nat_u64 _ _ (by omega) (by omega), xor_ones a (by omega)]
  unfold zigN
  rw [if_neg (by omega)]
  omega
theorem ret_int {k : IntKind} {a b : Int} (h : a = b) : Ending.returned (.int k a) = .returned (.int k b) := by rw [h]
theorem zig_any (n : Int) (w : World) (h1 : -9223372036854775808 ≤ n) (h2 : n ≤ 9223372036854775807) :
    Calls Try.prog 18 #[.int .i64 n] w fun e w' => e = .returned (.int .u64 (zigN n)) ∧ w = w' := by
  rcases (show 0 ≤ n ∨ n < 0 by omega) with h | h
  · have E := Lib.hid (zig_pos n h h2)
    go_enter Try.func18, Try.ntmps18
    go_wp2_with fail
    go_ret
    exact ⟨ret_int E.out, rfl⟩
  · have E := Lib.hid (zig_neg n h h1)
    go_enter Try.func18, Try.ntmps18
    go_wp2_with fail
    go_ret
    exact ⟨ret_int E.out, rfl⟩
theorem zigN_lt {n : Int} (h1 : -9223372036854775808 ≤ n) (h2 : n ≤ 9223372036854775807) : zigN n < 18446744073709551616 := by
  unfold zigN; split <;> omega
theorem slice_sum (w : World) (a : Addr) : (Instr.sliceAt 29 (.pointer (some a)) none none none).run Try.prog w = .ok (.slice (some a) 32 32) w := by kernel_rfl
end Go.Proofs.Ytcnbnhncncgkaaa
