/- The reference's writer: Num, Int, Fixed, Text. -/
import Derived.Test.YtdaiondcaecklaaReadsPlain
import Derived.Test.YtdaiondcaecklaaSteps
import Derived.WalkKit
import Derived.Laws.Concat
namespace Go.Proofs.Ytdaiondcaecklaa
set_option linter.unusedVariables false
set_option linter.unusedSimpArgs false
open Go Go.RowKit
theorem strOf_append (a b : List UInt8) : strOf a ++ strOf b = strOf (a ++ b) := by
  unfold strOf
  apply ByteArray.ext
  simp
theorem lit1_cells (w : World) (x : Nat) (hx : x < 256) (t : TypeId) : ∀ i, i < [UInt8.ofNat x].length → (w.alloc (.cells #[.int .u8 x] t)).cell? ⟨w.heap.size, 0 + i, none⟩ = some (.int .u8 (([UInt8.ofNat x].getD i 0).toNat : Int)) := by
  intro i hi
  have hi0 : i = 0 := by simpa using hi
  subst hi0
  have h : (w.alloc (.cells #[.int .u8 x] t)).heap[w.heap.size]? = some (.cells #[.int .u8 x] t (0, 0)) := heap_alloc_new w _
  rw [cell_of_row _ _ 0 _ t (0, 0) h]
  simp
  omega
theorem lit1_conv (w X : World) (x : Nat) (hx : x < 256) (t : TypeId) (hE : Ext (w.alloc (.cells #[.int .u8 x] t)) X) : (convert 23 9 (.slice (some ⟨w.heap.size, 0, none⟩) 1 1)).run Try.prog X = .ok (.string (strOf [UInt8.ofNat x])) X := by
  refine conv_bytes X w.heap.size 0 1 [UInt8.ofNat x] fun i hi => ?_
  rw [hE.cell _ _ (by simp)]
  exact lit1_cells w x hx t i hi
theorem lit1_conv2 (x : Nat) (m : Int) (hx : x < 256) (hm : m = x) (w X : World) (hE : Ext (w.alloc (.cells #[.int .u8 m] 5)) X) : (convert 23 9 (.slice (some ⟨w.heap.size, 0, none⟩) 1 1)).run Try.prog X = .ok (.string (strOf [UInt8.ofNat x])) X := by
  subst hm
  exact lit1_conv w X x hx _ hE
theorem str_add (a b : List UInt8) (h : a.length + b.length ≤ 70368744177664) (X : World) : (Op.stringOp .add (strOf a) (strOf b)).run Try.prog X = .ok (.string (strOf (a ++ b))) X := by
  rw [run_string_add_sum X _ _ (by rw [strOf_size, strOf_size]; omega), strOf_append]
set_option maxRecDepth 100000 in
theorem ref_num (n : Nat) : ∀ (w : World), n < 18446744073709551616 → Calls Try.prog 32 #[.int .u64 n] w fun e w' => e = .returned (.string (strOf (numB n))) ∧ Ext w w' := by
  induction n using Nat.strongRecOn with
  | _ n ih =>
    intro w hn
    by_cases h : n < 128
    · have hcv := lit1_conv w _ n (by omega) 5 (Ext.refl _)
      have HB := Lib.hid (numB_small h)
      clear ih
      go_enter Try.func32, Try.ntmps32
      go_wp2_with fail
      go_ret
      rw [HB.out]
      exact ⟨rfl, ext_alloc _ _⟩
    · have HB := Lib.hid (numB_big h)
      have IH := Lib.hid (fun W => (by simpa using ih (n / 128) (by omega) W (by omega) : Calls Try.prog 32 #[.int .u64 ((n : Int) / 128)] W fun e w' => e = .returned (.string (strOf (numB (n / 128)))) ∧ Ext W w'))
      have HC := Lib.hid (lit1_conv2 (n % 128 + 128) ((n : Int) % 128 + 128) (by omega) (by omega))
      have hnl := numB_len (n := n / 128) (by omega)
      clear ih
      generalize UInt8.ofNat (n % 128 + 128) = d at *
      generalize numB (n / 128) = m at *
      have hadd := str_add [d] m (by simp; omega)
      go_enter Try.func32, Try.ntmps32
      go_wp2_with fail
      have hFd := (Ext.refl w).drew
      have hne_ : Nonempty (Of ((fun X => Ext w X))) := ⟨⟨_, hFd⟩⟩
      refine region_plan (.seg [0,1,2,3,6,7] [true,true,true,true,true,true] (.fork 4 (.seg [5,8,9,10] [true,false,true,true] .done) 8 (.seg [4,5,9,10] [false,true,true,true] .done))) ((fun X => Ext w X)) (by kernel_rfl) (by kernel_rfl) hFd ?_
      refine walkP_seg ?_
      simp only [List.filterMap_cons, List.filterMap_nil, List.getElem?_cons_zero, List.getElem?_cons_succ]
      refine steps_quiet 6 (by kernel_rfl) ?_
      simp only [List.take_succ_cons, List.take_zero, List.drop_succ_cons, List.drop_zero]
      repeat (go_big_quiet_step (fail))
      refine wpQuiet_nil ?_
      refine steps_end ?_
      refine walkP_fork ?_ ?_
      all_goals simp only [List.filterMap_cons, List.filterMap_nil, List.getElem?_cons_zero, List.getElem?_cons_succ]
      · refine steps_want rfl (fun K hK => ?_)
        go_simp
        refine hK _ _ (fun X => Ext (w.alloc (.cells #[.int .u8 ((n : Int) % 128 + 128)] 5)) X) (Ext.refl _).drew (fun X h => (ext_alloc _ _).trans h) ?_
        clear hK K
        refine steps_end ?_
        refine walkP_seg ?_
        simp only [List.filterMap_cons, List.filterMap_nil, List.getElem?_cons_zero, List.getElem?_cons_succ]
        have hcv := fun x : Of (fun X => Ext (w.alloc (.cells #[.int .u8 ((n : Int) % 128 + 128)] 5)) X) => HC.out w x.val x.property
        have hne2_ : Nonempty (Of (fun X => Ext (w.alloc (.cells #[.int .u8 ((n : Int) % 128 + 128)] 5)) X)) := ⟨⟨_, Ext.refl _⟩⟩
        refine steps_quiet 1 (by kernel_rfl) ?_
        simp only [List.take_succ_cons, List.take_zero, List.drop_succ_cons, List.drop_zero]
        repeat (go_big_quiet_step (fail))
        refine wpQuiet_nil ?_
        refine steps_want rfl (fun K hK => ?_)
        go_simp
        refine (IH.out _).mono ?_
        rintro e w2 ⟨rfl, hE2⟩
        refine hK _ _ _ ((Ext.refl _).drew.trans hE2) (fun _ h => h) ?_
        clear hK K
        refine steps_quiet 2 (by kernel_rfl) ?_
        simp only [List.take_succ_cons, List.take_zero, List.drop_succ_cons, List.drop_zero]
        repeat (go_big_quiet_step (fail))
        refine wpQuiet_nil ?_
        refine steps_end ?_
        refine walkP_done ?_
        go_wp2_with fail
        go_ret
        rw [HB.out]
        exact ⟨rfl, (ext_alloc _ _).drew.trans hE2⟩
      · refine steps_want rfl (fun K hK => ?_)
        go_simp
        refine (IH.out _).mono ?_
        rintro e w2 ⟨rfl, hE2⟩
        refine hK _ _ (fun X => Ext w2 X) (Ext.refl _) (fun X h => ((Ext.refl w).drew.trans hE2).trans h) ?_
        clear hK K
        refine steps_end ?_
        refine walkP_seg ?_
        simp only [List.filterMap_cons, List.filterMap_nil, List.getElem?_cons_zero, List.getElem?_cons_succ]
        refine steps_want rfl (fun K hK => ?_)
        go_simp
        refine hK _ _ (fun X => Ext (w2.alloc (.cells #[.int .u8 ((n : Int) % 128 + 128)] 5)) X) (Ext.refl _) (fun X h => (ext_alloc _ _).trans h) ?_
        clear hK K
        have hcv := fun x : Of (fun X => Ext (w2.alloc (.cells #[.int .u8 ((n : Int) % 128 + 128)] 5)) X) => HC.out w2 x.val x.property
        have hne2_ : Nonempty (Of (fun X => Ext (w2.alloc (.cells #[.int .u8 ((n : Int) % 128 + 128)] 5)) X)) := ⟨⟨_, Ext.refl _⟩⟩
        refine steps_quiet 3 (by kernel_rfl) ?_
        simp only [List.take_succ_cons, List.take_zero, List.drop_succ_cons, List.drop_zero]
        repeat (go_big_quiet_step (fail))
        refine wpQuiet_nil ?_
        refine steps_end ?_
        refine walkP_done ?_
        go_wp2_with fail
        go_ret
        rw [HB.out]
        exact ⟨rfl, ((Ext.refl w).drew.trans hE2).alloc _⟩
theorem ref_int (n : Int) (w : World) (h1 : -9223372036854775808 ≤ n) (h2 : n ≤ 9223372036854775807) : Calls Try.prog 33 #[.int .i64 n] w fun e w' => e = .returned (.string (strOf (numB (zigN n)))) ∧ Ext w w' := by
  have hz := zigN_lt h1 h2
  have hr := fun X => ref_num (zigN n) X hz
  rcases (show 0 ≤ n ∨ n < 0 by omega) with h | h
  · have e : ((zigN n : Nat) : Int) = n * 2 := by unfold zigN; rw [if_pos h]; omega
    rw [e] at hr
    have R := Lib.hid hr
    clear hr e
    generalize numB (zigN n) = m at *
    go_enter Try.func33, Try.ntmps33
    go_wp2_with fail
    refine (R.out _).mono ?_
    rintro e w2 ⟨rfl, hE2⟩
    go_wp2_with fail
    go_ret
    exact ⟨rfl, hE2⟩
  · have e : ((zigN n : Nat) : Int) = -(n + 1) * 2 + 1 := by unfold zigN; rw [if_neg (by omega)]; omega
    rw [e] at hr
    have R := Lib.hid hr
    clear hr e
    generalize numB (zigN n) = m at *
    go_enter Try.func33, Try.ntmps33
    go_wp2_with fail
    refine (R.out _).mono ?_
    rintro e w2 ⟨rfl, hE2⟩
    go_wp2_with fail
    go_ret
    exact ⟨rfl, hE2⟩
theorem ref_text (l : List UInt8) (w : World) (h : l.length ≤ 70368744170000) : Calls Try.prog 37 #[.string (strOf l)] w fun e w' => e = .returned (.string (strOf (numB l.length ++ l))) ∧ Ext w w' := by
  have hsz := strOf_size l
  have hnl := numB_len (n := l.length) (by omega)
  have hadd := str_add (numB l.length) l (by omega)
  have hr := fun X => ref_num l.length X (by omega)
  have R := Lib.hid hr
  clear hr
  generalize numB l.length = m at *
  have hsb : (strOf l).size ≤ 70368744170000 := by omega
  go_enter Try.func37, Try.ntmps37
  go_wp2_with fail
  refine (R.out _).mono ?_
  rintro e w2 ⟨rfl, hE2⟩
  go_wp2_with fail
  go_ret
  exact ⟨rfl, hE2⟩
def fix4 (n : Nat) : List UInt8 := [UInt8.ofNat n, UInt8.ofNat (n / 256), UInt8.ofNat (n / 65536), UInt8.ofNat (n / 16777216)]
theorem ofNat_mod (n : Nat) : UInt8.ofNat (n % 256) = UInt8.ofNat n := by
  apply UInt8.toNat_inj.1; simp
theorem ref_fixed (n0 : Nat) (w : World) (hn : n0 < 4294967296) : Calls Try.prog 35 #[.int .u32 n0] w fun e w' => e = .returned (.string (strOf (fix4 n0))) ∧ Ext w w' := by
  go_enter Try.func35, Try.ntmps35
  go_wp2_with fail
  go_loopw [0, 3, 4] (fun n s k wr => ∃ (j m : Nat), j ≤ 4 ∧ k = .int .i64 j ∧ n = .int .u32 m ∧ m = n0 / 256 ^ j ∧ s = .string (strOf ((fix4 n0).take j)) ∧ Ext w wr) (fun _ _ k _ => (5 - intOf k).toNat)
  case atStart => exact ⟨0, n0, by omega, rfl, rfl, by simp, rfl, Ext.refl _⟩
  case round =>
    obtain ⟨j, m, hj, rfl, rfl, hm, rfl, hE⟩ := hrel
    by_cases g : (j : Int) < 4
    · have hml : m < 4294967296 := by
        rw [hm]; exact Nat.lt_of_le_of_lt (Nat.div_le_self _ _) hn
      have hcv := lit1_conv2 (m % 256) ((m : Int) % 256) (by omega) (by omega) wr _ (Ext.refl _)
      rw [ofNat_mod] at hcv
      have hadd := str_add ((fix4 n0).take j) [UInt8.ofNat m] (by simp [fix4]; omega)
      have hs : (fix4 n0).take j ++ [UInt8.ofNat m] = (fix4 n0).take (j + 1) := by
        have : j = 0 ∨ j = 1 ∨ j = 2 ∨ j = 3 := by omega
        rcases this with rfl | rfl | rfl | rfl <;> simp [fix4, hm]
      have hm2 : m / 256 = n0 / 256 ^ (j + 1) := by rw [hm, Nat.div_div_eq_div_mul, Nat.pow_succ]
      have HS := Lib.hid hs
      have HM := Lib.hid hm2
      clear hs hm2 hm
      generalize (fix4 n0).take j = l at *
      generalize UInt8.ofNat m = d at *
      go_wp2_with fail
      exact ⟨⟨j + 1, m / 256, by omega, by go_num, by simp, HM.out, by rw [HS.out], hE.alloc _⟩, by simp [intOf]; omega⟩
    · have hj4 : j = 4 := by omega
      subst hj4
      clear hm
      have hs : (fix4 n0).take 4 = fix4 n0 := rfl
      obtain ⟨l, hl⟩ : ∃ l, l = fix4 n0 := ⟨_, rfl⟩
      rw [hs, ← hl]
      have HL := Lib.hid hl
      clear hl hs
      go_wp2_with fail
      go_ret
      exact ⟨by rw [← HL.out]; rfl, hE⟩
end Go.Proofs.Ytdaiondcaecklaa
