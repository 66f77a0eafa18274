/- WireFails, walked. -/
import Derived.Test.YtdaiondcaecklaaWrites
import Derived.Test.YtdaiondcaecklaaRSum
namespace Go.Proofs.Ytdaiondcaecklaa
set_option linter.unusedVariables false
set_option linter.unusedSimpArgs false
open Go Go.RowKit
section
variable {s : Rd} (he : s.err ≠ 0)
include he
theorem bad_byte : s.byte = (0, s) := if_neg he
theorem bad_num (m : Nat) : s.num m = (0, s) := by
  have h : Rd.numGo 10 0 0 s = (0, s) := by
    unfold Rd.numGo; rw [bad_byte he, if_pos he]
  unfold Rd.num
  rw [h, if_pos he]
theorem bad_take (n : Nat) : s.takeL n = ([], s) := if_neg he
theorem bad_text : s.text = ([], s) := by unfold Rd.text; rw [bad_num he, bad_take he]
theorem bad_left : s.left = 0 := if_neg he
theorem bad_end : s.end_ = s.err := if_neg (fun h => he h.1)
theorem bad_sum : s.sum = z32 := by unfold Rd.sum; rw [bad_take he]; rfl
end
theorem eq_zero (w : World) : (Op.equalIn 10000 45 (.agg (u8s z32).toArray) (.agg #[.int .u8 0, .int .u8 0, .int .u8 0, .int .u8 0, .int .u8 0, .int .u8 0, .int .u8 0, .int .u8 0, .int .u8 0, .int .u8 0, .int .u8 0, .int .u8 0, .int .u8 0, .int .u8 0, .int .u8 0, .int .u8 0, .int .u8 0, .int .u8 0, .int .u8 0, .int .u8 0, .int .u8 0, .int .u8 0, .int .u8 0, .int .u8 0, .int .u8 0, .int .u8 0, .int .u8 0, .int .u8 0, .int .u8 0, .int .u8 0, .int .u8 0, .int .u8 0])).run Try.prog w = .ok true w := by kernel_rfl
set_option maxRecDepth 100000 in
set_option maxHeartbeats 4000000 in
theorem fails_any (w : World) (p : Option Addr) (c : Nat) (b : List UInt8) (first later : Int) (hN : NumsAt .u8 w p (byI b)) (hp : p = none → b.length = 0 ∧ c = 0)
    (hf1 : -9223372036854775808 ≤ first ∧ first ≤ 9223372036854775807) (hl1 : -9223372036854775808 ≤ later ∧ later ≤ 9223372036854775807) :
    Calls Try.prog 6 #[.slice p b.length c, .int .i64 first, .int .i64 later] w fun e w' => e = .returned (.bool true) ∧ Ext w w' := by
  go_enter Try.func6, Try.ntmps6
  go_wp2_with fail
  refine (writes_any w).mono ?_
  rintro e w1 ⟨rfl, hE⟩
  rcases (show (300 : Int) < b.length ∨ ¬ (300 : Int) < b.length by omega) with g | g1
  · go_wp2_with fail
    go_ret
    exact ⟨rfl, hE⟩
  by_cases h0 : first = 0
  · subst h0
    go_wp2_with fail
    go_ret
    exact ⟨rfl, hE⟩
  have e0 : (first == 0) = false := by simp [h0]
  have H0 := Lib.hid h0
  clear h0
  go_wp2_with fail
  refine (read_any w1 p c b (hN.ext hE) hp (by omega)).mono ?_
  rintro e w2 hR
  obtain ⟨r, rfl, hH2⟩ := (Has.nil hE).reader .nil hR
  clear hR
  go_wp2_with fail
  refine (hH2.act .nil fun F h => rbyte_any h).mono ?_
  rintro e w3 ⟨rfl, hH3⟩
  generalize (⟨b, 0, 0⟩ : Rd).byte.1 = x at *
  generalize (⟨b, 0, 0⟩ : Rd).byte.2 = s1 at *
  clear hH2
  go_wp2_with fail
  refine (hH3.keeps' fun F h => rerr_any h).mono ?_
  rintro e w4 ⟨rfl, rfl⟩
  go_wp2_with fail
  refine (hH3.act .nil fun F h => rfail_any h first).mono ?_
  rintro e w4 ⟨rfl, hH4⟩
  clear hH3
  go_wp2_with fail
  refine (hH4.act .nil fun F h => rfail_any h later).mono ?_
  rintro e w5 ⟨rfl, hH5⟩
  clear hH4
  obtain ⟨want, hw⟩ : ∃ want, want = if s1.err = 0 then first else s1.err := ⟨_, rfl⟩
  have hs2 : (s1.fail first).err = want := by
    unfold Rd.fail; rw [hw]; split <;> rfl
  have hwn : want ≠ 0 := by
    rw [hw]; split
    · exact H0.out
    · assumption
  have hs3 : (s1.fail first).fail later = s1.fail first := if_neg (by rw [hs2]; exact hwn)
  rw [hs3] at hH5
  have hbad : (s1.fail first).err ≠ 0 := by rw [hs2]; exact hwn
  generalize s1.fail first = s2 at *
  have HB := Lib.hid hbad
  have HW := Lib.hid hw
  have HS := Lib.hid hs2
  have HWN := Lib.hid hwn
  clear hw hs2 hs3 hbad hwn
  by_cases h1 : s1.err = 0
  · have hww : want = first := by rw [HW.out, if_pos h1]
    rw [h1]
    subst hww
    clear h1
    go_wp2_with fail
    refine (hH5.act .nil fun F h => rbyte_any h).mono ?_
    rintro e w6 ⟨rfl, hH6⟩
    rw [bad_byte HB.out] at hH6
    have k1 : ((s2.byte.1 : Nat) : Int) = 0 := by rw [bad_byte HB.out]; rfl
    rw [k1]
    clear hH5 k1
    go_wp2_with fail
    refine (hH6.act .nil fun F h => rtext_any h).mono ?_
    rintro e w7 ⟨rfl, hH7⟩
    rw [bad_text HB.out] at hH7
    have k1 : strOf s2.text.1 = ⟨#[]⟩ := by rw [bad_text HB.out]; rfl
    rw [k1]
    clear hH6 k1
    go_wp2_with fail
    refine (hH7.act .nil fun F h => rnum_any h 5 (by omega)).mono ?_
    rintro e w8 ⟨rfl, hH8⟩
    rw [bad_num HB.out] at hH8
    have k1 : (((s2.num 5).1 : Nat) : Int) = 0 := by rw [bad_num HB.out]; rfl
    rw [k1]
    clear hH7 k1
    go_wp2_with fail
    refine (hH8.act .nil fun F h => rsum_any h).mono ?_
    rintro e w9 ⟨rfl, hH9⟩
    rw [bad_take HB.out] at hH9
    rw [bad_sum HB.out]
    have hcmp := eq_zero w9
    clear hH8
    go_wp2_with fail
    refine (hH9.keeps (.cons (rA_loc _ _) .nil) fun F h => rleft_any h).mono ?_
    rintro e w10 ⟨rfl, hH10, -⟩
    rw [bad_left HB.out]
    clear hH9
    go_wp2_with fail
    refine (hH10.keeps' fun F h => rerr_any h).mono ?_
    rintro e w11 ⟨rfl, rfl⟩
    rw [HS.out]
    go_wp2_with fail
    refine (hH10.keeps (.cons (rA_loc _ _) .nil) fun F h => rend_any h).mono ?_
    rintro e w12 ⟨rfl, hH12, -⟩
    rw [bad_end HB.out, HS.out]
    have hE12 := hH12.base
    clear hH10 hH12
    go_wp2_with fail
    go_ret
    exact ⟨rfl, hE12⟩
  · have hww : want = s1.err := by rw [HW.out, if_neg h1]
    rw [← hww]
    have e1 : (want != 0) = true := by rw [hww]; simp [h1]
    have e2 : (want == 0) = false := by rw [hww]; simp [h1]
    clear h1 hww
    go_wp2_with fail
    refine (hH5.act .nil fun F h => rbyte_any h).mono ?_
    rintro e w6 ⟨rfl, hH6⟩
    rw [bad_byte HB.out] at hH6
    have k1 : ((s2.byte.1 : Nat) : Int) = 0 := by rw [bad_byte HB.out]; rfl
    rw [k1]
    clear hH5 k1
    go_wp2_with fail
    refine (hH6.act .nil fun F h => rtext_any h).mono ?_
    rintro e w7 ⟨rfl, hH7⟩
    rw [bad_text HB.out] at hH7
    have k1 : strOf s2.text.1 = ⟨#[]⟩ := by rw [bad_text HB.out]; rfl
    rw [k1]
    clear hH6 k1
    go_wp2_with fail
    refine (hH7.act .nil fun F h => rnum_any h 5 (by omega)).mono ?_
    rintro e w8 ⟨rfl, hH8⟩
    rw [bad_num HB.out] at hH8
    have k1 : (((s2.num 5).1 : Nat) : Int) = 0 := by rw [bad_num HB.out]; rfl
    rw [k1]
    clear hH7 k1
    go_wp2_with fail
    refine (hH8.act .nil fun F h => rsum_any h).mono ?_
    rintro e w9 ⟨rfl, hH9⟩
    rw [bad_take HB.out] at hH9
    rw [bad_sum HB.out]
    have hcmp := eq_zero w9
    clear hH8
    go_wp2_with fail
    refine (hH9.keeps (.cons (rA_loc _ _) .nil) fun F h => rleft_any h).mono ?_
    rintro e w10 ⟨rfl, hH10, -⟩
    rw [bad_left HB.out]
    clear hH9
    go_wp2_with fail
    refine (hH10.keeps' fun F h => rerr_any h).mono ?_
    rintro e w11 ⟨rfl, rfl⟩
    rw [HS.out]
    go_wp2_with fail
    refine (hH10.keeps (.cons (rA_loc _ _) .nil) fun F h => rend_any h).mono ?_
    rintro e w12 ⟨rfl, hH12, -⟩
    rw [bad_end HB.out, HS.out]
    have hE12 := hH12.base
    clear hH10 hH12
    go_wp2_with fail
    go_ret
    exact ⟨rfl, hE12⟩
end Go.Proofs.Ytdaiondcaecklaa
