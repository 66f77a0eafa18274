/- The document's right, less and list: what they compute. -/
import Derived.Test.YtkkhcpknldlpoaaSRowB
import Derived.Test.YtkkhcpknldlpoaaChains
namespace Go.Proofs.Ytkkhcpknldlpoaa
set_option maxRecDepth 4000
set_option linter.unusedVariables false
set_option linter.unusedSimpArgs false
open Go Go.RowKit
def RiRel (w : World) (f : Nat → W32) (n : Nat) (x k : Value) (wr : World) : Prop := ∃ i : Nat, i ≤ n ∧ k = .int .i64 i ∧ x = .int .u32 (wv (f i)) ∧ wr = w
theorem right_any (w : World) (x : W32) (n : Nat) (hn : n < 32) : Calls Try.prog 59 #[.int .u32 (wv x), .int .i64 n] w fun e w' => e = .returned (.int .u32 (wv (rorN n x))) ∧ w' = w := by
  go_enter Try.func59, Try.ntmps59
  go_wp2_with fail
  go_loopw [0, 5] (fun v k wr => RiRel w (fun i => rorN i x) n v k wr) (fun _ k _ => ((n : Int) + 1 - intOf k).toNat)
  case atStart => exact ⟨0, by omega, rfl, rfl, rfl⟩
  case round =>
    obtain ⟨i, hi, rfl, rfl, rfl⟩ := hrel
    by_cases gi : (i : Int) < n
    · have hr := ror1_val (rorN i x)
      have hs : ror1 (rorN i x) = rorN (i + 1) x := rfl
      rw [hs] at hr
      have hb := wv_bd (rorN i x)
      obtain ⟨y1, hy1⟩ : ∃ y1, y1 = rorN (i + 1) x := ⟨_, rfl⟩
      rw [← hy1] at hr
      have HR := Lib.hid hr
      have HY := Lib.hid hy1.symm
      clear hs hy1 hr
      dsimp only at *
      generalize rorN i x = y at *
      go_wp2_with fail
      exact ⟨⟨i + 1, by omega, by go_num, by show Value.int .u32 _ = Value.int .u32 (wv (rorN (i + 1) x)); rw [HY.out]; congr 1 <;> (have := HR.out; have := wv_bd y1; omega), rfl⟩, by simp [intOf]; omega⟩
    · have hi' : i = n := by omega
      subst hi'
      go_wp2_with fail
      go_ret
      exact ⟨rfl, rfl⟩
theorem less_any (w : World) (x : W32) (n : Nat) (hn : n < 32) : Calls Try.prog 60 #[.int .u32 (wv x), .int .i64 n] w fun e w' => e = .returned (.int .u32 (wv (lessN n x))) ∧ w' = w := by
  go_enter Try.func60, Try.ntmps60
  go_wp2_with fail
  go_loopw [0, 5] (fun v k wr => RiRel w (fun i => lessN i x) n v k wr) (fun _ k _ => ((n : Int) + 1 - intOf k).toNat)
  case atStart => exact ⟨0, by omega, rfl, rfl, rfl⟩
  case round =>
    obtain ⟨i, hi, rfl, rfl, rfl⟩ := hrel
    by_cases gi : (i : Int) < n
    · have hr := less1_val (lessN i x)
      have hs : lessN i x >>> 1 = lessN (i + 1) x := rfl
      rw [hs] at hr
      have hb := wv_bd (lessN i x)
      obtain ⟨y1, hy1⟩ : ∃ y1, y1 = lessN (i + 1) x := ⟨_, rfl⟩
      rw [← hy1] at hr
      have HR := Lib.hid hr
      have HY := Lib.hid hy1.symm
      clear hs hy1 hr
      dsimp only at *
      generalize lessN i x = y at *
      go_wp2_with fail
      exact ⟨⟨i + 1, by omega, by go_num, by show Value.int .u32 _ = Value.int .u32 (wv (lessN (i + 1) x)); rw [HY.out, ← HR.out], rfl⟩, by simp [intOf]; omega⟩
    · have hi' : i = n := by omega
      subst hi'
      go_wp2_with fail
      go_ret
      exact ⟨rfl, rfl⟩
theorem qright (x : W32) (z : Int) (k : Nat) (hz : z = (k : Int)) (h : 0 < k ∧ k < 32) {w : World} {n : Nat} : Calls Try.prog 59 #[.int .u32 (wv x), .int .i64 z] (w.drewN n) fun e w' => e = .returned (.int .u32 (wv (ror x k))) ∧ ∃ m, w' = w.drewN m := by
  subst hz
  refine (right_any _ x k h.2).mono fun e w' ⟨h1, h2⟩ => ⟨by rw [h1, rorN_is x k h.1 h.2], n, h2⟩
theorem qless (x : W32) (z : Int) (k : Nat) (hz : z = (k : Int)) (h : k < 32) {w : World} {n : Nat} : Calls Try.prog 60 #[.int .u32 (wv x), .int .i64 z] (w.drewN n) fun e w' => e = .returned (.int .u32 (wv (x >>> k))) ∧ ∃ m, w' = w.drewN m := by
  subst hz
  refine (less_any _ x k h).mono fun e w' ⟨h1, h2⟩ => ⟨by rw [h1, lessN_is x k], n, h2⟩
set_option maxRecDepth 100000 in
set_option maxHeartbeats 4000000 in
theorem list_any (w : World) : Calls Try.prog 58 #[] w fun e w' => e = .returned (.slice (some ⟨w.heap.size, 0, none⟩) 64 64) ∧ w' = w.alloc (.cells (u32s keyL).toArray 103) := by
  go_enter Try.func58, Try.ntmps58
  go_wp2_with fail
  go_ret
  exact ⟨rfl, rfl⟩
end Go.Proofs.Ytkkhcpknldlpoaa
