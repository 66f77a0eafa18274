/- WireSmall, walked. -/
import Derived.Test.YtdaiondcaecklaaWrites
import Derived.Test.YtdaiondcaecklaaSteps
namespace Go.Proofs.Ytdaiondcaecklaa
set_option linter.unusedVariables false
set_option linter.unusedSimpArgs false
open Go Go.RowKit
theorem zig_gen (n : Int) (h1 : -9223372036854775808 ≤ n) (h2 : n ≤ 9223372036854775807) : bits .xor .u64 (IntKind.u64.wrap (IntKind.u64.wrap n * 2)) (IntKind.u64.wrap (n / 9223372036854775808)) = (zigN n : Int) := by
  rcases (show 0 ≤ n ∨ n < 0 by omega) with h | h
  · rw [← zig_pos n h h2, IntKind.wrap_u64, IntKind.wrap_u64, IntKind.wrap_u64]
    congr 1 <;> omega
  · exact zig_neg n h h1
def SmallRel (n : Nat) (x c : Value) : Prop := ∃ (m k : Nat), x = .int .u64 m ∧ c = .int .i64 k ∧ m < 18446744073709551616 ∧ 1 ≤ k ∧ k + (numB m).length = (numB n).length + 1
theorem SmallRel.step {n m k : Nat} (hm : ¬ m < 128) (h : k + (numB m).length = (numB n).length + 1) : (k + 1) + (numB (m / 128)).length = (numB n).length + 1 := by
  rw [numB_big hm] at h; simp at h; omega
theorem SmallRel.fin {n m k : Nat} (hm : m < 128) (h : k + (numB m).length = (numB n).length + 1) : k = (numB n).length := by
  rw [numB_small hm] at h; simp at h; omega
set_option maxRecDepth 100000 in
set_option maxHeartbeats 4000000 in
theorem small_any (w : World) (a b : Int) (ha : -9223372036854775808 ≤ a ∧ a ≤ 9223372036854775807) (hb : -9223372036854775808 ≤ b ∧ b ≤ 9223372036854775807) :
    Calls Try.prog 3 #[.int .i64 a, .int .i64 b] w fun e w' => e = .returned (.bool true) ∧ Ext w w' := by
  have hza := zigN_lt ha.1 ha.2
  have hzb := zigN_lt hb.1 hb.2
  have hla := numB_len hza
  have hlb := numB_len hzb
  go_enter Try.func3, Try.ntmps3
  go_wp2_with fail
  refine (writes_any w).mono ?_
  rintro e w1 ⟨rfl, hE⟩
  have e2 : (w1.alloc (.cells #[.slice none 0 0] 25)).heap.size = w1.heap.size + 1 := by simp
  have e3 : ((w1.alloc (.cells #[.slice none 0 0] 25)).alloc (.cells #[.slice none 0 0] 25)).heap.size = w1.heap.size + 2 := by simp
  have e4 : (((w1.alloc (.cells #[.slice none 0 0] 25)).alloc (.cells #[.slice none 0 0] 25)).alloc (.cells #[.slice none 0 0] 25)).heap.size = w1.heap.size + 3 := by simp
  have h1 := (Has.nil hE).writer .nil
  have h2 := h1.writer (.cons (wA_loc _ _) .nil)
  have h3 := h2.writer (.cons (wA_loc _ _) (.cons (wA_loc _ _) .nil))
  rw [e2, e3] at h3
  have hH : Has w _ [wA w1.heap.size [], wA (w1.heap.size + 1) [], wA (w1.heap.size + 2) []] := h3.perm (by simpa using (List.reverse_perm [wA w1.heap.size [], wA (w1.heap.size + 1) [], wA (w1.heap.size + 2) []]))
  have E4 := Lib.hid e4
  clear h1 h2 h3 e2 e3 e4
  go_wp2_with fail
  rw [← E4.out]
  clear E4
  generalize w1.heap.size = q at *
  generalize World.alloc (World.alloc (World.alloc _ _) _) _ = W at *
  refine (hH.act (.cons (wA_loc _ _) (.cons (wA_loc _ _) .nil)) fun F h => wint_lit h a _ ha (by simp)).mono ?_
  rintro e w2 ⟨rfl, hH2⟩
  replace hH2 := hH2.swap
  clear hH
  go_wp2_with fail
  refine (hH2.act (.cons (wA_loc _ _) (.cons (wA_loc _ _) .nil)) fun F h => wint_lit h b _ hb (by simp)).mono ?_
  rintro e w3 ⟨rfl, hH3⟩
  have hz := zig_gen a ha.1 ha.2
  clear hH2
  go_wp2_with fail
  replace hH3 := hH3.third
  refine (hH3.act (.cons (wA_loc _ _) (.cons (wA_loc _ _) .nil)) fun F h => wnum_lit h (zigN a) _ hza (by simp)).mono ?_
  rintro e w4 ⟨rfl, hH4⟩
  clear hH3 hz
  simp only [List.nil_append] at hH4
  generalize w3.heap.size = q3 at *
  generalize w2.heap.size = q2 at *
  go_wp2_with fail
  go_loop [8, 9] (fun x c => SmallRel (zigN a) x c) (fun x _ => (intOf x).toNat)
  case atStart => exact ⟨zigN a, 1, rfl, rfl, hza, by omega, by omega⟩
  case round =>
    obtain ⟨m, k, rfl, rfl, hm, hk1, hk⟩ := hrel
    have hk9 : k ≤ 11 := by omega
    by_cases gm : m < 128
    · have gm' : (m : Int) < 128 := by omega
      have hke := SmallRel.fin gm hk
      subst hke
      have hz := zig_gen b hb.1 hb.2
      clear hk hk1 hk9 gm
      go_wp2_with fail
      clear hz
      go_loop [10, 11] (fun x c => SmallRel (zigN b) x c) (fun x _ => (intOf x).toNat)
      case atStart => exact ⟨zigN b, 1, rfl, rfl, hzb, by omega, by omega⟩
      case round =>
        obtain ⟨m2, k, rfl, rfl, hm2, hk1, hk⟩ := hrel
        have hk9 : k ≤ 11 := by omega
        by_cases gm2 : m2 < 128
        · have gm2' : (m2 : Int) < 128 := by omega
          have hke := SmallRel.fin gm2 hk
          subst hke
          clear hk hk1 hk9 gm2
          go_wp2_with fail
          have hne_ : Nonempty (Of (fun _ : World => True)) := trueOf_ne (W := by assumption)
          refine region_steps [1,0,2,3,5,4,6,7,8,9,10,11,12,13,14,15] [true,false,true,true,true,false,true,true,true,false,true,false,true,true,true,true] (fun _ : World => True) (by kernel_rfl) (by kernel_rfl) trivial ?_
          simp only [List.filterMap_cons, List.filterMap_nil, List.getElem?_cons_zero, List.getElem?_cons_succ]
          refine steps_quiet 1 (by kernel_rfl) ?_
          simp only [List.take_succ_cons, List.take_zero, List.drop_succ_cons, List.drop_zero]
          repeat (go_big_quiet_step (fail))
          refine wpQuiet_nil ?_
          refine steps_want rfl (fun K hK => ?_)
          go_simp
          replace hH4 := hH4.third.ext (.cons (wA_loc _ _) (.cons (wA_loc _ _) (.cons (wA_loc _ _) .nil))) (Ext.refl w4).drew
          refine (hH4.keeps' fun F h => wlen_any h).mono ?_
          rintro e w5 ⟨rfl, rfl⟩
          refine hK _ _ (fun _ => True) trivial (fun _ _ => trivial) ?_
          clear hK K
          try simp only [Act.put, List.setIfInBounds_toArray, List.set_cons_succ, List.set_cons_zero]
          refine steps_quiet 3 (by kernel_rfl) ?_
          simp only [List.take_succ_cons, List.take_zero, List.drop_succ_cons, List.drop_zero]
          repeat (go_big_quiet_step (fail))
          refine wpQuiet_nil ?_
          refine steps_want rfl (fun K hK => ?_)
          go_simp
          refine (hH4.swap.swap.third.keeps' fun F h => wlen_any h).mono ?_
          rintro e w6 ⟨rfl, rfl⟩
          refine hK _ _ (fun _ => True) trivial (fun _ _ => trivial) ?_
          clear hK K
          try simp only [Act.put, List.setIfInBounds_toArray, List.set_cons_succ, List.set_cons_zero]
          refine steps_quiet 3 (by kernel_rfl) ?_
          simp only [List.take_succ_cons, List.take_zero, List.drop_succ_cons, List.drop_zero]
          repeat (go_big_quiet_step (fail))
          refine wpQuiet_nil ?_
          refine steps_want rfl (fun K hK => ?_)
          go_simp
          refine (hH4.swap.keeps (.cons (wA_loc _ _) (.cons (wA_loc _ _) (.cons (wA_loc _ _) .nil))) fun F h => wbytes_any h (by omega)).mono ?_
          rintro e w7 ⟨⟨v1, rfl, hown1⟩, hH7, hE7⟩
          obtain ⟨pv1, cv1, rfl⟩ := ownsRow_slice hown1
          have hcv1 : ∀ x : Of (fun X => Ext w7 X), (convert 23 9 (.slice pv1 (numB (zigN a)).length cv1)).run Try.prog x.val = .ok (.string (strOf (numB (zigN a)))) x.val := fun x => own_conv (ownsRow_ext hown1 x.property)
          have hFn := (show Ext w7 w7 from Ext.refl w7)
          have hnx_ : Nonempty (Of (fun X => Ext w7 X)) := ⟨⟨_, hFn⟩⟩
          refine hK _ _ (fun X => Ext w7 X) hFn (fun _ _ => trivial) ?_
          clear hK K hFn
          try simp only [Act.put, List.setIfInBounds_toArray, List.set_cons_succ, List.set_cons_zero]
          refine steps_quiet 1 (by kernel_rfl) ?_
          simp only [List.take_succ_cons, List.take_zero, List.drop_succ_cons, List.drop_zero]
          repeat (go_big_quiet_step (fail))
          refine wpQuiet_nil ?_
          clear hcv1
          refine steps_want rfl (fun K hK => ?_)
          go_simp
          refine (hH7.swap.keeps (.cons (wA_loc _ _) (.cons (wA_loc _ _) (.cons (wA_loc _ _) .nil))) fun F h => wbytes_any h (by omega)).mono ?_
          rintro e w8 ⟨⟨v2, rfl, hown2⟩, hH8, hE8⟩
          obtain ⟨pv2, cv2, rfl⟩ := ownsRow_slice hown2
          have hcv2 : ∀ x : Of (fun X => Ext w8 X), (convert 23 9 (.slice pv2 (numB (zigN a)).length cv2)).run Try.prog x.val = .ok (.string (strOf (numB (zigN a)))) x.val := fun x => own_conv (ownsRow_ext hown2 x.property)
          have hFn := (show Ext w8 w8 from Ext.refl w8)
          have hnx_ : Nonempty (Of (fun X => Ext w8 X)) := ⟨⟨_, hFn⟩⟩
          refine hK _ _ (fun X => Ext w8 X) hFn (fun X hX => hE8.trans hX) ?_
          clear hK K hFn
          try simp only [Act.put, List.setIfInBounds_toArray, List.set_cons_succ, List.set_cons_zero]
          refine steps_quiet 4 (by kernel_rfl) ?_
          simp only [List.take_succ_cons, List.take_zero, List.drop_succ_cons, List.drop_zero]
          repeat (go_big_quiet_step (fail))
          refine wpQuiet_nil ?_
          refine steps_nil ?_
          have hE9 := hH8.base
          clear hcv2 hown1 hown2 hH4 hH7 hH8
          go_wp2_with fail
          go_ret
          exact ⟨rfl, hE9⟩
        · have gm2' : ¬ (m2 : Int) < 128 := by omega
          have hs := SmallRel.step gm2 hk
          clear hk
          go_wp2_with fail
          go_round
          case rel => exact ⟨m2 / 128, k + 1, by simp, by go_num, by omega, by omega, hs⟩
          case measure => simp [intOf]; omega
    · have gm' : ¬ (m : Int) < 128 := by omega
      have hs := SmallRel.step gm hk
      clear hk
      go_wp2_with fail
      go_round
      case rel => exact ⟨m / 128, k + 1, by simp, by go_num, by omega, by omega, hs⟩
      case measure => simp [intOf]; omega
end Go.Proofs.Ytdaiondcaecklaa
