/- The walks of the reference's fail and Take, over the reader's own plain state. -/
import Derived.Test.YtdaiondcaecklaaRSum
import Derived.WalkKit
namespace Go.Proofs.Ytdaiondcaecklaa
set_option linter.unusedVariables false
set_option linter.unusedSimpArgs false
open Go Go.RowKit
/-- what is left of a reader's bytes -/
def Rd.rest (s : Rd) : List UInt8 := if s.err = 0 then s.b.drop s.at_ else []
def stV (l : List UInt8) (e : Int) : Value := .agg #[.string (strOf l), .int .i64 e]
theorem strOf_size (l : List UInt8) : (strOf l).size = l.length := by simp [strOf, ByteArray.size]
theorem strOf_nil : strOf [] = ⟨#[]⟩ := rfl
theorem strOf_take (l : List UInt8) (n : Nat) : (strOf l).extract 0 n = strOf (l.take n) := by
  apply ByteArray.ext
  apply Array.ext'
  simp [strOf, ByteArray.data_extract]
theorem strOf_drop (l : List UInt8) (n : Nat) : (strOf l).extract n (strOf l).size = strOf (l.drop n) := by
  apply ByteArray.ext
  apply Array.ext'
  simp [strOf, ByteArray.data_extract, ByteArray.size]
  exact List.take_of_length_le (by simp)
theorem rfail2_any (w : World) (l : List UInt8) (c e : Int) : Calls Try.prog 42 #[stV l c, .int .i64 e] w fun x w' => x = .returned (stV [] (if c = 0 then e else c)) ∧ Ext w w' := by
  by_cases hc : c = 0
  · rw [if_pos hc]
    subst hc
    unfold stV
    rw [strOf_nil]
    go_enter Try.func42, Try.ntmps42
    go_wp2_with fail
    refine bodyPost_ret (v := stV [] e) (by simp [results, Try.results42, go_sem]; rfl) rfl ⟨rfl, ?_⟩
    (repeat first
      | exact Ext.refl _
      | exact ext_alloc _ _
      | (fail)
      | refine Ext.drewN ?_ _
      | refine Ext.drew ?_
      | refine Ext.alloc ?_ _
      | refine Ext.setCell ?_ (by first | (simp; done) | (simp; omega) | omega) _)
  · rw [if_neg hc]
    have e1 : (c != 0) = true := by simp [hc]
    have e2 : (c == 0) = false := by simp [hc]
    clear hc
    unfold stV
    rw [strOf_nil]
    go_enter Try.func42, Try.ntmps42
    go_wp2_with fail
    refine bodyPost_ret (v := stV [] c) (by simp [results, Try.results42, go_sem]; rfl) rfl ⟨rfl, ?_⟩
    (repeat first
      | exact Ext.refl _
      | exact ext_alloc _ _
      | (fail)
      | refine Ext.drewN ?_ _
      | refine Ext.drew ?_
      | refine Ext.alloc ?_ _
      | refine Ext.setCell ?_ (by first | (simp; done) | (simp; omega) | omega) _)
def takeV (l : List UInt8) (c : Int) (n : Nat) : Value :=
  if c = 0 then (if n ≤ l.length then .tuple #[.string (strOf (l.take n)), stV (l.drop n) 0] else .tuple #[.string (strOf []), stV [] 6]) else .tuple #[.string (strOf []), stV [] c]
theorem rtake2_any (w : World) (l : List UInt8) (c : Int) (n : Nat) (hl : l.length ≤ 70368744177664) (hn : n ≤ 70368744177664) : Calls Try.prog 26 #[stV l c, .int .i64 n] w fun x w' => x = .returned (takeV l c n) ∧ Ext w w' := by
  have hsz := strOf_size l
  by_cases hc : c = 0
  · by_cases hle : n ≤ l.length
    · have hv : takeV l c n = .tuple #[.string (strOf (l.take n)), stV (l.drop n) 0] := by unfold takeV; rw [if_pos hc, if_pos hle]
      rw [hv]
      subst hc
      have ht := strOf_take l n
      have hd := strOf_drop l n
      have hle' : n ≤ (strOf l).size := by omega
      have hsz' : (strOf l).size ≤ 70368744177664 := by omega
      unfold stV
      generalize strOf (l.take n) = st at *
      generalize strOf (l.drop n) = sd at *
      generalize strOf l = sl at *
      clear hv hsz hle hl
      go_enter Try.func26, Try.ntmps26
      go_wp2_with fail
      refine gen_world' (fun X => Ext w X ∧ Blk X w.heap.size 50 #[.string sl, .int .i64 0] ∧ Blk X (w.heap.size + 1) 50 #[.string ⟨#[]⟩, .int .i64 0]) ⟨((Ext.refl w).alloc _).alloc _, (Blk.new _ _ _).alloc _, ?_⟩ ?_
      · have := Blk.new (w.alloc (.cells #[.string sl, .int .i64 0] 50)) 50 #[.string ⟨#[]⟩, .int .i64 0]
        simp only [World.size_alloc] at this
        exact this
      rintro W2 ⟨hE2, hA, hB⟩
      have a0 := hA.cell 0
      have b0 := hB.cell 0
      have b1 := hB.cell 1
      have f0 := hB.frozen 0
      have f1 := hB.frozen 1
      simp only [List.getElem?_toArray, List.getElem?_cons_zero, List.getElem?_cons_succ] at a0 b0 b1
      have d0 : ∀ x : Of (fun X => Tch (fun k => k = w.heap.size + 1) W2 X), x.val.cell? ⟨w.heap.size, 0, none⟩ = some (.string sl) := fun x => x.property.cell a0 hA.lt (by omega)
      have hFd := (show Tch (fun k => k = w.heap.size + 1) W2 W2.drew from (Tch.refl _ _).drew)
      have hne_ : Nonempty (Of (fun X => Tch (fun k => k = w.heap.size + 1) W2 X)) := ⟨⟨_, hFd⟩⟩
      refine region_steps [0,1,2,3,4,5,6,7,8,9,10] [true,true,true,true,true,true,true,true,true,true,false] (fun X => Tch (fun k => k = w.heap.size + 1) W2 X) (by kernel_rfl) (by kernel_rfl) hFd ?_
      simp only [List.filterMap_cons, List.filterMap_nil, List.getElem?_cons_zero, List.getElem?_cons_succ]
      refine steps_quiet 10 (by kernel_rfl) ?_
      simp only [List.take_succ_cons, List.take_zero, List.drop_succ_cons, List.drop_zero]
      repeat (go_big_quiet_step (fail))
      refine wpQuiet_nil ?_
      refine steps_want rfl (fun K hK => ?_)
      go_simp
      refine hK _ _ (fun X => Tch (fun k => k = w.heap.size + 1) W2 X) ?_ (fun _ h => h) ?_
      · (repeat first
          | exact Tch.refl _ _
          | (fail)
          | refine Tch.drewN ?_ _
          | refine Tch.drew ?_
          | refine Tch.alloc ?_ _
          | refine Tch.setCell ?_ (by intro _; first | rfl | (simp; done) | omega) _)
      clear hK K d0
      refine steps_nil ?_
      go_wp2_with fail
      refine bodyPost_ret (v := .tuple #[.string st, .agg #[.string sd, .int .i64 0]]) (by simp [results, Try.results26, go_sem, b0, b1, f0, f1]) rfl ⟨rfl, ?_⟩
      (repeat first
        | exact Ext.refl _
        | exact ext_alloc _ _
        | (exact hE2)
        | refine Ext.drewN ?_ _
        | refine Ext.drew ?_
        | refine Ext.alloc ?_ _
        | refine Ext.setCell ?_ (by first | (simp; done) | (simp; omega) | omega) _)
    · have hv : takeV l c n = .tuple #[.string (strOf []), stV [] 6] := by unfold takeV; rw [if_pos hc, if_neg hle]
      rw [hv]
      subst hc
      have hle' : ¬ n ≤ (strOf l).size := by omega
      have hsz' : (strOf l).size ≤ 70368744177664 := by omega
      have hF := rfail2_any
      unfold stV at *
      rw [strOf_nil] at *
      go_enter Try.func26, Try.ntmps26
      go_wp2_with fail
      refine (rfail2_any _ l 0 6).mono ?_
      rintro x w2 ⟨rfl, hE⟩
      have hE3 := (((Ext.refl w).alloc (.cells #[.string (strOf l), .int .i64 0] 50)).alloc (.cells #[.string ⟨#[]⟩, .int .i64 0] 50)).trans hE
      unfold stV
      rw [if_pos rfl, strOf_nil]
      have hB : Blk w2 (w.heap.size + 1) 50 #[.string ⟨#[]⟩, .int .i64 0] := by
        have := Blk.new (w.alloc (.cells #[.string (strOf l), .int .i64 0] 50)) 50 #[.string ⟨#[]⟩, .int .i64 0]
        simp only [World.size_alloc] at this
        exact this.of_eq (hE.block _ (by simp))
      have b0 := hB.cell 0
      have b1 := hB.cell 1
      have f0 := hB.frozen 0
      have f1 := hB.frozen 1
      simp only [List.getElem?_toArray, List.getElem?_cons_zero, List.getElem?_cons_succ] at b0 b1
      clear hE
      go_wp2_with fail
      refine bodyPost_ret (v := .tuple #[.string ⟨#[]⟩, .agg #[.string ⟨#[]⟩, .int .i64 6]]) (by simp [results, Try.results26, go_sem, b0, b1, f0, f1]) rfl ⟨rfl, ?_⟩
      (repeat first
        | exact Ext.refl _
        | exact ext_alloc _ _
        | (exact hE3)
        | refine Ext.drewN ?_ _
        | refine Ext.drew ?_
        | refine Ext.alloc ?_ _
        | refine Ext.setCell ?_ (by first | (simp; done) | (simp; omega) | omega) _)
  · have hv : takeV l c n = .tuple #[.string (strOf []), stV [] c] := if_neg hc
    rw [hv]
    have e1 : (c != 0) = true := by simp [hc]
    have e2 : (c == 0) = false := by simp [hc]
    have HC := Lib.hid hc
    clear hc hv
    unfold stV
    rw [strOf_nil]
    go_enter Try.func26, Try.ntmps26
    go_wp2_with fail
    refine (rfail2_any _ l c 6).mono ?_
    rintro x w2 ⟨rfl, hE⟩
    have hE3 := (((Ext.refl w).alloc (.cells #[.string (strOf l), .int .i64 c] 50)).alloc (.cells #[.string ⟨#[]⟩, .int .i64 0] 50)).trans hE
    unfold stV
    rw [if_neg HC.out, strOf_nil]
    have hB : Blk w2 (w.heap.size + 1) 50 #[.string ⟨#[]⟩, .int .i64 0] := by
      have := Blk.new (w.alloc (.cells #[.string (strOf l), .int .i64 c] 50)) 50 #[.string ⟨#[]⟩, .int .i64 0]
      simp only [World.size_alloc] at this
      exact this.of_eq (hE.block _ (by simp))
    have b0 := hB.cell 0
    have b1 := hB.cell 1
    have f0 := hB.frozen 0
    have f1 := hB.frozen 1
    simp only [List.getElem?_toArray, List.getElem?_cons_zero, List.getElem?_cons_succ] at b0 b1
    clear hE
    go_wp2_with fail
    refine bodyPost_ret (v := .tuple #[.string ⟨#[]⟩, .agg #[.string ⟨#[]⟩, .int .i64 c]]) (by simp [results, Try.results26, go_sem, b0, b1, f0, f1]) rfl ⟨rfl, ?_⟩
    (repeat first
      | exact Ext.refl _
      | exact ext_alloc _ _
      | (exact hE3)
      | refine Ext.drewN ?_ _
      | refine Ext.drew ?_
      | refine Ext.alloc ?_ _
      | refine Ext.setCell ?_ (by first | (simp; done) | (simp; omega) | omega) _)
end Go.Proofs.Ytdaiondcaecklaa
