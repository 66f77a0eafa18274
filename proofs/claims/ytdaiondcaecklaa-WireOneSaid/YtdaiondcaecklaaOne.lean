/- WireOne, walked. -/
import Derived.Test.YtdaiondcaecklaaWrites
import Derived.Test.YtdaiondcaecklaaSteps
import Derived.Test.YtdaiondcaecklaaOnePlain
namespace Go.Proofs.Ytdaiondcaecklaa
set_option linter.unusedVariables false
set_option linter.unusedSimpArgs false
open Go Go.RowKit
theorem Locs.two {p q : Asr} (hp : Loc p) (hq : Loc q) : Locs [p, q] := .cons hp (.cons hq .nil)
set_option maxRecDepth 100000 in
set_option maxHeartbeats 4000000 in
theorem one_any (w : World) (p : Option Addr) (c : Nat) (b : List UInt8) (hN : NumsAt .u8 w p (byI b)) (hp : p = none → b.length = 0 ∧ c = 0) (hlc : b.length ≤ c) (hcm : c ≤ maxLen) :
    Calls Try.prog 5 #[.slice p b.length c] w fun e w' => e = .returned (.bool true) ∧ Ext w w' := by
  go_enter Try.func5, Try.ntmps5
  go_wp2_with fail
  refine (writes_any w).mono ?_
  rintro e w1 ⟨rfl, hE⟩
  rcases (show (100 : Int) < b.length ∨ ¬ (100 : Int) < b.length by omega) with g | g1
  · go_wp2_with fail
    go_ret
    exact ⟨rfl, hE⟩
  go_wp2_with fail
  refine (read_any w1 p c b (hN.ext hE) hp (by omega)).mono ?_
  rintro e w2 hR
  obtain ⟨r, rfl, hH2⟩ := (Has.nil hE).reader .nil hR
  have hE2 := hH2.base
  clear hR
  go_wp2_with fail
  refine (read_any w2 p c b (hN.ext hE2) hp (by omega)).mono ?_
  rintro e w3 hR
  obtain ⟨r2, rfl, hH3⟩ := hH2.reader (.cons (rA_loc _ _) .nil) hR
  clear hR hH2 hE2
  go_wp2_with fail
  have hlt := (⟨b, 0, 0⟩ : Rd).num_lt 18446744073709551615
  refine (hH3.swap.act (.cons (rA_loc _ _) .nil) fun F h => rnum_any h 18446744073709551615 (by omega)).mono ?_
  rintro e w4 ⟨rfl, hH4⟩
  clear hH3
  go_wp2_with fail
  refine (hH4.swap.act (.cons (rA_loc _ _) .nil) fun F h => rint_any h).mono ?_
  rintro e w5 ⟨rfl, hH5⟩
  clear hH4
  rcases hm : (⟨b, 0, 0⟩ : Rd).num 18446744073709551615 with ⟨m, s⟩
  have hfront := num_front hm
  have herr := num_err (s := ⟨b, 0, 0⟩) (most := 18446744073709551615)
  rw [hm] at hH5 hlt herr
  simp only at hH5 hlt herr
  have HM := Lib.hid hm
  clear hm
  have L2 : ∀ {s t : Rd} {x y : Nat}, Locs [rA x s, rA y t] := fun {s t x y} => .two (rA_loc _ _) (rA_loc _ _)
  by_cases he : s.err = 0
  · obtain ⟨hfr, hat⟩ := hfront he
    have HE := Lib.hid he
    have HF := Lib.hid hfr
    clear herr he hfront hfr
    have hE5 := hH5.base
    go_wp2_with fail
    refine (hH5.swap.keeps' fun F h => rerr_any h).mono ?_
    rintro e w6 ⟨rfl, rfl⟩
    go_wp2_with fail
    refine (hH5.keeps' fun F h => rerr_any h).mono ?_
    rintro e w6 ⟨rfl, rfl⟩
    go_wp2_with fail
    refine (hH5.swap.keeps L2 fun F h => rleft_any h).mono ?_
    rintro e w6 ⟨rfl, hH6, -⟩
    clear hH5
    go_wp2_with fail
    refine (hH6.swap.keeps L2 fun F h => rleft_any h).mono ?_
    rintro e w7 ⟨rfl, hH7, -⟩
    clear hH6
    go_wp2_with fail
    refine (hH7.swap.keeps' fun F h => rerr_any h).mono ?_
    rintro e w8 ⟨rfl, rfl⟩
    rw [HE.out]
    have e2 : (w7.alloc (.cells #[.slice none 0 0] 25)).heap.size = w7.heap.size + 1 := by simp
    have e3 : ((w7.alloc (.cells #[.slice none 0 0] 25)).alloc (.cells #[.slice none 0 0] 25)).heap.size = w7.heap.size + 2 := by simp
    have h1 := hH7.writer L2
    have h2 := h1.writer (.cons (wA_loc _ _) L2)
    rw [e2] at h2
    have E3 := Lib.hid e3
    clear h1 e2 e3 hH7
    have L4 : ∀ {s t : Rd} {x y q1 q2 : Nat} {l1 l2 : List UInt8}, Locs [wA q1 l1, wA q2 l2, rA x s, rA y t] := fun {s t x y q1 q2 l1 l2} => .cons (wA_loc _ _) (.cons (wA_loc _ _) (.two (rA_loc _ _) (rA_loc _ _)))
    have hlm := numB_len hlt
    go_wp2_with fail
    rw [← E3.out]
    clear E3
    generalize w7.heap.size = q at *
    generalize World.alloc (World.alloc _ _) _ = W at *
    have hz := zig_zag m
    have hzb : -9223372036854775808 ≤ zagI m ∧ zagI m ≤ 9223372036854775807 := by unfold zagI; split <;> omega
    refine (h2.swap.act (.cons (wA_loc _ _) L2) fun F h => wnum_lit h m _ hlt (by simp)).mono ?_
    rintro e w8 ⟨rfl, hH8⟩
    have HZ := Lib.hid hz
    clear h2 hz
    go_wp2_with fail
    refine (hH8.swap.act (.cons (wA_loc _ _) L2) fun F h => wint_lit h (zagI m) _ hzb (by simp)).mono ?_
    rintro e w9 ⟨rfl, hH9⟩
    rw [HZ.out] at hH9
    simp only [List.nil_append] at hH9
    clear hH8
    go_wp2_with fail
    refine ((hH9.drop.drop).swap.keeps' fun F h => rat_any h).mono ?_
    rintro e w10 ⟨rfl, rfl⟩
    have hE9 := hH9.base
    have hN9 := hN.ext hE9
    have hNt := numsAt_take hN9 s.at_
    have hbt : (byI b).take s.at_ = byI (b.take s.at_) := by simp [byI, List.map_take]
    rw [hbt] at hNt
    have hlt2 : (b.take s.at_).length = s.at_ := by simp; omega
    unfold maxLen at hcm
    have hcv : ∃ v, (∀ X : World, (Instr.sliceAt 23 (.slice p b.length c) none (some (.int .i64 s.at_)) none).run Try.prog X = .ok v X) ∧ (convert 23 9 v).run Try.prog w9 = .ok (.string (strOf (numB m))) w9 := by
      refine ⟨.slice p s.at_ c, fun X => slice_to X p _ c s.at_ (by omega), ?_⟩
      rw [HF.out]
      have := conv_at (w := w9) (p := p) (c := c) (l := b.take s.at_) hNt (fun hn => ⟨by have := (hp hn).1; omega, (hp hn).2⟩)
      rw [hlt2] at this
      exact this
    obtain ⟨vs, hs1, hs2⟩ := hcv
    have HN := Lib.hid hNt
    clear hN hN9 hNt hbt hlt2
    go_wp2_with fail
    replace hH9 := hH9.swap
    refine (hH9.keeps L4 fun F h => wbytes_any h (by omega)).mono ?_
    rintro e w11 ⟨⟨v1, rfl, hown1⟩, hH11, -⟩
    obtain ⟨pv1, cv1, rfl⟩ := ownsRow_slice hown1
    have hcv1 := own_conv hown1
    clear hH9 hs1 hs2
    go_wp2_with fail
    refine (hH11.swap.keeps L4 fun F h => wbytes_any h (by omega)).mono ?_
    rintro e w12 ⟨⟨v2, rfl, hown2⟩, hH12, -⟩
    obtain ⟨pv2, cv2, rfl⟩ := ownsRow_slice hown2
    have hcv2 := own_conv hown2
    have hE12 := hH12.base
    clear hH11 hH12 hcv1
    go_wp2_with fail
    go_ret
    exact ⟨rfl, hE12⟩
  · have hm0 : m = 0 := herr he
    subst hm0
    have HE := Lib.hid he
    have hn : (s.err != 0) = true := by simp [he]
    have hz : zagI 0 = 0 := rfl
    have hlf : s.left = 0 := if_neg he
    have HL := Lib.hid hlf
    clear herr he hlf
    rw [hz]
    go_wp2_with fail
    refine (hH5.swap.keeps' fun F h => rerr_any h).mono ?_
    rintro e w6 ⟨rfl, rfl⟩
    go_wp2_with fail
    refine (hH5.keeps' fun F h => rerr_any h).mono ?_
    rintro e w6 ⟨rfl, rfl⟩
    go_wp2_with fail
    refine (hH5.swap.keeps L2 fun F h => rleft_any h).mono ?_
    rintro e w6 ⟨rfl, hH6, -⟩
    clear hH5
    go_wp2_with fail
    refine (hH6.swap.keeps L2 fun F h => rleft_any h).mono ?_
    rintro e w7 ⟨rfl, hH7, -⟩
    clear hH6
    go_wp2_with fail
    refine (hH7.swap.keeps' fun F h => rerr_any h).mono ?_
    rintro e w8 ⟨rfl, rfl⟩
    go_wp2_with fail
    refine (hH7.swap.keeps L2 fun F h => rleft_any h).mono ?_
    rintro e w8 ⟨rfl, hH8, -⟩
    rw [HL.out]
    have hE8 := hH8.base
    clear hH7 hH8
    go_wp2_with fail
    go_ret
    exact ⟨rfl, hE8⟩
end Go.Proofs.Ytdaiondcaecklaa
