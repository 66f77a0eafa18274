/- Four bytes as a number and back; a frame's sum. -/
import Derived.Test.YthghflfgldcmbaaWKit
import Derived.Test.YthghflfgldcmbaaMPlain
namespace Go.Proofs.Ythghflfgldcmbaa
set_option maxRecDepth 4000
set_option linter.unusedVariables false
set_option linter.unusedSimpArgs false
open Go Go.RowKit
def d4 (n : Nat) : List UInt8 := [byteOf n 0, byteOf n 1, byteOf n 2, byteOf n 3]
theorem d4_length (n : Nat) : (d4 n).length = 4 := rfl
theorem u8s_d4 (n : Nat) (hn : n < 4294967296) : u8s (d4 n) = [.int .u8 ((n : Int) % 256), .int .u8 ((n : Int) / 256 % 256), .int .u8 ((n : Int) / 65536 % 256), .int .u8 ((n : Int) / 16777216)] := by
  simp only [u8s, d4, List.map_cons, List.map_nil, byteOf_toNat]
  have e0 : ((n / 2 ^ (8 * 0) % 256 : Nat) : Int) = (n : Int) % 256 := by omega
  have e1 : ((n / 2 ^ (8 * 1) % 256 : Nat) : Int) = (n : Int) / 256 % 256 := by omega
  have e2 : ((n / 2 ^ (8 * 2) % 256 : Nat) : Int) = (n : Int) / 65536 % 256 := by omega
  have e3 : ((n / 2 ^ (8 * 3) % 256 : Nat) : Int) = (n : Int) / 16777216 := by omega
  rw [e0, e1, e2, e3]
def Made4 (W : World) (n : Nat) (e : Ending) (W' : World) : Prop := ∃ p c, e = .returned (.slice p 4 c) ∧ Ext W W' ∧ W'.ownsRow W.heap.size 5 1 (.slice p 4 c) 4 (u8s (d4 n))
theorem digits_any (W : World) (n : Nat) (hn : n < 4294967296) : Calls Try.prog 34 #[.int .u32 n] W fun e W' => Made4 W n e W' := by
  have he := u8s_d4 n hn
  go_enter Try.func34, Try.ntmps34
  go_wp2_with fail
  go_ret
  refine ⟨_, _, rfl, ext_alloc W _, ?_⟩
  rw [he]
  exact World.ownsRow_lit (size := 1) W #[.int .u8 ((n : Int) % 256), .int .u8 ((n : Int) / 256 % 256), .int .u8 ((n : Int) / 65536 % 256), .int .u8 ((n : Int) / 16777216)] 4 (Nat.le_refl _) (by unfold maxLen; omega) rfl
theorem num4 (b0 b1 b2 b3 : Nat) (h0 : b0 < 256) (h1 : b1 < 256) (h2 : b2 < 256) (h3 : b3 < 256) :
    bits .or .u32 (bits .or .u32 (bits .or .u32 (b0 : Int) (b1 * 256)) (b2 * 65536)) (b3 * 16777216) = ((b0 + b1 * 256 + b2 * 65536 + b3 * 16777216 : Nat) : Int) := by
  have o1 := or_shift b0 b1 1 (by omega)
  have o2 := or_shift (b0 + b1 * 256) b2 2 (by omega)
  have o3 := or_shift (b0 + b1 * 256 + b2 * 65536) b3 3 (by omega)
  have e1 := or_nat_u32 b0 (b1 * 256) (by omega) (by omega)
  rw [show b1 * 256 = b1 * 2 ^ (8 * 1) from rfl, o1] at e1
  have e2 := or_nat_u32 (b0 + b1 * 256) (b2 * 65536) (by omega) (by omega)
  rw [show b2 * 65536 = b2 * 2 ^ (8 * 2) from rfl, o2] at e2
  have e3 := or_nat_u32 (b0 + b1 * 256 + b2 * 65536) (b3 * 16777216) (by omega) (by omega)
  rw [show b3 * 16777216 = b3 * 2 ^ (8 * 3) from rfl, o3] at e3
  have c1 : ((b1 : Int) * 256) = ((b1 * 2 ^ (8 * 1) : Nat) : Int) := by omega
  have c2 : ((b2 : Int) * 65536) = ((b2 * 2 ^ (8 * 2) : Nat) : Int) := by omega
  have c3 : ((b3 : Int) * 16777216) = ((b3 * 2 ^ (8 * 3) : Nat) : Int) := by omega
  rw [c1, e1, c2]
  have e2' : bits .or .u32 ((b0 + b1 * 2 ^ (8 * 1) : Nat) : Int) ((b2 * 2 ^ (8 * 2) : Nat) : Int) = _ := e2
  rw [e2', c3]
  exact e3
theorem wnumber_any (W : World) (g o n c : Nat) (b : List UInt8) (h4 : 4 ≤ n) (hb : ∀ j, j < 4 → W.cell? ⟨g, o + j, none⟩ = some (.int .u8 ((b.getD j 0).toNat : Int))) :
    Calls Try.prog 30 #[.slice (some ⟨g, o, none⟩) n c] W fun e W' => e = .returned (.int .u32 (numU b 0 4)) ∧ Ext W W' := by
  have c0 : W.cell? ⟨g, o, none⟩ = _ := hb 0 (by omega)
  have c1 := hb 1 (by omega)
  have c2 := hb 2 (by omega)
  have c3 := hb 3 (by omega)
  have hn := num4 (b.getD 0 0).toNat (b.getD 1 0).toNat (b.getD 2 0).toNat (b.getD 3 0).toNat (UInt8.toNat_lt _) (UInt8.toNat_lt _) (UInt8.toNat_lt _) (UInt8.toNat_lt _)
  have hnum : numU b 0 4 = (b.getD 0 0).toNat + (b.getD 1 0).toNat * 256 + (b.getD 2 0).toNat * 65536 + (b.getD 3 0).toNat * 16777216 := by simp [numU]
  have l0 := (b.getD 0 0).toNat_lt
  have l1 := (b.getD 1 0).toNat_lt
  have l2 := (b.getD 2 0).toNat_lt
  have l3 := (b.getD 3 0).toNat_lt
  rw [hnum]
  generalize (b.getD 0 0).toNat = x0 at *
  generalize (b.getD 1 0).toNat = x1 at *
  generalize (b.getD 2 0).toNat = x2 at *
  generalize (b.getD 3 0).toNat = x3 at *
  clear hnum hb
  go_enter Try.func30, Try.ntmps30
  go_wp2_with fail
  refine region_drew_tail 22 (by kernel_rfl) (by kernel_rfl) ?_
  simp only [List.take_succ_cons, List.take_zero, List.drop_succ_cons, List.drop_zero]
  repeat (go_big_quiet_step (fail))
  refine wpQuiet_nil ?_
  intro _ hw'
  obtain ⟨nq, hw''⟩ := hw'
  subst hw''
  go_wp2_with fail
  go_ret
  exact ⟨by go_num, (Ext.refl W).drewN _⟩
theorem parts_in {X : World} {g : Nat} (qs : List (Option Addr × Nat × List UInt8)) (hg : g < X.heap.size) (hc : ∀ i (h : i < qs.length), X.cell? ⟨g, i, none⟩ = some (.slice qs[i].1 qs[i].2.2.length qs[i].2.1)) (hv : ∀ q ∈ qs, View X q.1 q.2.1 q.2.2) : PartsIn X (some ⟨g, 0, none⟩) (qs.map (·.2.2)) := by
  intro i hi
  rw [List.length_map] at hi
  have h := hv qs[i] (List.getElem_mem hi)
  have e : (qs.map (·.2.2))[i]'(by rw [List.length_map]; exact hi) = qs[i].2.2 := by rw [List.getElem_map]
  refine ⟨g, 0, rfl, hg, qs[i].1, qs[i].2.1, ?_⟩
  rw [e, Nat.zero_add]
  exact ⟨hc i hi, h.nums, h.nil_, h.le, h.cap⟩
/-- a frame's sum -/
def sealN (a k : Nat) (b : List UInt8) : Nat := (crc (d4 a ++ (d4 0 ++ (d4 b.length ++ UInt8.ofNat k :: b)))).toNat
theorem sealN_lt (a k : Nat) (b : List UInt8) : sealN a k b < 4294967296 := (crc _).isLt
set_option maxRecDepth 100000 in
theorem seal_any (W : World) (a k : Nat) (ha : a ≤ 24576) (hk : k < 256) (p : Option Addr) (c : Nat) (b : List UInt8) (hb : b.length ≤ 65536) (h : View W p c b) :
    Calls Try.prog 31 #[.int .u64 a, .int .i64 k, .slice p b.length c] W fun e W' => e = .returned (.int .u32 (sealN a k b)) ∧ Ext W W' := by
  have e1 : (a : Int) % 4294967296 = a := by omega
  have e2 : (a : Int) / 4294967296 = ((0 : Nat) : Int) := by omega
  have e3 : (b.length : Int) % 4294967296 = b.length := by omega
  have e4 : (k : Int) % 256 = k := by omega
  go_enter Try.func31, Try.ntmps31
  go_wp2_with fail
  refine (digits_any W a (by omega)).mono ?_
  rintro e w1 ⟨p1, c1, rfl, hE1, hr1⟩
  go_wp2_with fail
  refine (digits_any w1 0 (by omega)).mono ?_
  rintro e w2 ⟨p2, c2, rfl, hE2, hr2⟩
  go_wp2_with fail
  refine (digits_any w2 b.length (by omega)).mono ?_
  rintro e w3 ⟨p3, c3, rfl, hE3, hr3⟩
  go_wp2_with fail
  have hk1 : u8s [UInt8.ofNat k] = [.int .u8 (k : Int)] := by simp [u8s]; omega
  have hr4 := World.ownsRow_lit (size := 1) (e := 5) w3 #[.int .u8 (k : Int)] 1 (Nat.le_refl _) (by unfold maxLen; omega) rfl
  rw [show (#[Value.int .u8 (k : Int)] : Array Value).toList = u8s [UInt8.ofNat k] from hk1.symm] at hr4
  have E4 := ext_alloc w3 (.cells #[.int .u8 (k : Int)] 5)
  have E5 := ext_alloc (w3.alloc (.cells #[.int .u8 (k : Int)] 5)) (.cells #[.slice p1 4 c1, .slice p2 4 c2, .slice p3 4 c3, .slice (some ⟨w3.heap.size, 0, none⟩) 1 1, .slice p b.length c] 36)
  have E45 := E4.trans E5
  have E35 := hE3.trans E45
  have E25 := hE2.trans E35
  have hp := parts_in (X := (w3.alloc (.cells #[.int .u8 (k : Int)] 5)).alloc (.cells #[.slice p1 4 c1, .slice p2 4 c2, .slice p3 4 c3, .slice (some ⟨w3.heap.size, 0, none⟩) 1 1, .slice p b.length c] 36)) (g := w3.heap.size + 1)
    [(p1, c1, d4 a), (p2, c2, d4 0), (p3, c3, d4 b.length), (some ⟨w3.heap.size, 0, none⟩, 1, [UInt8.ofNat k]), (p, c, b)] (by simp) (fun i hi => by
      have hx := cell_box (w := w3.alloc (.cells #[.int .u8 (k : Int)] 5)) #[.slice p1 4 c1, .slice p2 4 c2, .slice p3 4 c3, .slice (some ⟨w3.heap.size, 0, none⟩) 1 1, .slice p b.length c] 36 i
      rw [show (w3.alloc (.cells #[.int .u8 (k : Int)] 5)).heap.size = w3.heap.size + 1 by simp] at hx
      rw [hx]
      match i, hi with
      | 0, _ => rfl
      | 1, _ => rfl
      | 2, _ => rfl
      | 3, _ => rfl
      | 4, _ => rfl) (fun q hq => by
      simp only [List.mem_cons, List.not_mem_nil, or_false] at hq
      rcases hq with rfl | rfl | rfl | rfl | rfl
      · exact (View.of_row hr1).ext E25
      · exact (View.of_row hr2).ext E35
      · exact (View.of_row hr3).ext E45
      · exact (View.of_row hr4).ext E5
      · exact h.ext (hE1.trans E25))
  refine (crc_any _ _ 5 _ hp (by simp [maxLen])).mono ?_
  rintro e w5 ⟨rfl, rfl⟩
  go_wp2_with fail
  go_ret
  exact ⟨rfl, hE1.trans E25⟩
end Go.Proofs.Ythghflfgldcmbaa
