/- The walks of a queue's Add, Remove and Take. -/
import Derived.Test.YtadmfoglajhdcaaQCutW
namespace Go.Proofs.Ytadmfoglajhdcaa
set_option maxRecDepth 4000
set_option linter.unusedVariables false
set_option linter.unusedSimpArgs false
open Go Go.RowKit Go.Maps Go.ChangeMaps Go.MapKept
theorem add_twice (w : World) (q o : Nat) (bm : Option Nat) (xs : List Ent) (r k i s : Int) (hq : QRep w q o bm xs) (hok : Ent.Ok ⟨r, k, i, s, 0⟩) (hin : xs.any (isT · r k i) = true) :
    Calls Try.prog 4 #[.pointer (some ⟨q, o, none⟩), taskV r k i, .int .i64 s] w fun e w' => e = .returned (.int .i64 5) ∧ Ext w w' := by
  have hE := ext_alloc w (.cells #[.int .i64 r, .int .i64 k, .int .i64 i] 43)
  have hq1 := hq.ext hE
  have hbx : Blk (w.alloc (.cells #[.int .i64 r, .int .i64 k, .int .i64 i] 43)) w.heap.size 43 #[.int .i64 r, .int .i64 k, .int .i64 i] := Blk.new _ _ _
  go_enter Try.func4, Try.ntmps4
  go_wp2_with fail
  generalize w.alloc _ = W at *
  refine (has_any W q o bm xs r k i hq1 hok.key).mono ?_
  rintro e w1 ⟨rfl, hE1⟩
  rw [hin]
  go_wp2_with fail
  go_ret
  exact ⟨rfl, hE.trans hE1⟩
theorem add_full (w : World) (q o : Nat) (bm : Option Nat) (xs : List Ent) (r k i s : Int) (hq : QRep w q o bm xs) (hok : Ent.Ok ⟨r, k, i, s, 0⟩) (hin : xs.any (isT · r k i) = false) (hf : 128 ≤ (xs.length : Int)) :
    Calls Try.prog 4 #[.pointer (some ⟨q, o, none⟩), taskV r k i, .int .i64 s] w fun e w' => e = .returned (.int .i64 3) ∧ Ext w w' := by
  have hE := ext_alloc w (.cells #[.int .i64 r, .int .i64 k, .int .i64 i] 43)
  have hq1 := hq.ext hE
  have hbx : Blk (w.alloc (.cells #[.int .i64 r, .int .i64 k, .int .i64 i] 43)) w.heap.size 43 #[.int .i64 r, .int .i64 k, .int .i64 i] := Blk.new _ _ _
  go_enter Try.func4, Try.ntmps4
  go_wp2_with fail
  generalize w.alloc _ = W at *
  refine (has_any W q o bm xs r k i hq1 hok.key).mono ?_
  rintro e w1 ⟨rfl, hE1⟩
  rw [hin]
  have hq2 := hq1.ext hE1
  go_wp2_with fail
  refine (len_any w1 q o bm xs hq2).mono ?_
  rintro e w2 ⟨rfl, hE2⟩
  go_wp2_with fail
  go_ret
  exact ⟨rfl, (hE.trans hE1).trans hE2⟩
def Added (w : World) (q o : Nat) (bm : Option Nat) (xs : List Ent) (r k i s : Int) (e : Ending) (w' : World) : Prop :=
  e = .returned (.int .i64 0) ∧ ∃ bm' blk, w.heap.size ≤ blk ∧ QRep w' q o bm' (xs ++ [⟨r, k, i, s, blk⟩]) ∧ Tch (Foot q bm xs) w w' ∧ RowKept q o w w' ∧ ∀ b, bm' = some b → bm = some b ∨ w.heap.size ≤ b
set_option maxRecDepth 100000 in
theorem add_ok (w : World) (q o : Nat) (bm : Option Nat) (xs : List Ent) (r k i s : Int) (hq : QRep w q o bm xs) (hok : Ent.Ok ⟨r, k, i, s, 0⟩) (hin : xs.any (isT · r k i) = false) (hf : (xs.length : Int) < 128) :
    Calls Try.prog 4 #[.pointer (some ⟨q, o, none⟩), taskV r k i, .int .i64 s] w fun e w' => Added w q o bm xs r k i s e w' := by
  have hE := ext_alloc w (.cells #[.int .i64 r, .int .i64 k, .int .i64 i] 43)
  have hq1 := hq.ext hE
  have hbx : Blk (w.alloc (.cells #[.int .i64 r, .int .i64 k, .int .i64 i] 43)) w.heap.size 43 #[.int .i64 r, .int .i64 k, .int .i64 i] := Blk.new _ _ _
  go_enter Try.func4, Try.ntmps4
  go_wp2_with fail
  generalize w.alloc _ = W at *
  refine (has_any W q o bm xs r k i hq1 hok.key).mono ?_
  rintro e w1 ⟨rfl, hE1⟩
  rw [hin]
  have hq2 := hq1.ext hE1
  go_wp2_with fail
  refine (len_any w1 q o bm xs hq2).mono ?_
  rintro e w2 ⟨rfl, hE2⟩
  have hE3 := hE1.trans hE2
  have hbx2 := hbx.of_eq (hE3.block _ hbx.lt)
  have hq3 := hq2.ext hE2
  clear hq2 hq1 hE1 hE2
  have b0 := hbx2.cell 0
  have b1 := hbx2.cell 1
  have b2 := hbx2.cell 2
  simp only [List.getElem?_toArray, List.getElem?_cons_zero, List.getElem?_cons_succ] at b0 b1 b2
  go_wp2_with fail
  refine region_drew_tail 5 (by kernel_rfl) (by kernel_rfl) ?_
  simp only [List.take_succ_cons, List.take_zero, List.drop_succ_cons, List.drop_zero]
  repeat (go_big_quiet_step (fail))
  refine wpQuiet_nil ?_
  intro _ hw'
  obtain ⟨nq, hw''⟩ := hw'
  subst hw''
  go_wp2_with fail
  refine (push_any _ q o bm xs r k i s (hq3.drewN nq) hok hin (by omega)).mono ?_
  rintro e w4 ⟨rfl, bm', blk, h1, h2, h3, h4, h5⟩
  go_wp2_with fail
  go_ret
  have hEE : Ext w (w2.drewN nq) := (hE.trans hE3).drewN nq
  refine ⟨rfl, bm', blk, Nat.le_trans hEE.le h1, h2, (Tch.of_ext (S := Foot q bm xs) hEE).trans h3 (fun i h _ => h), (RowKept.ext hEE).trans h4, fun b hb => ?_⟩
  rcases h5 b hb with h | h
  · exact Or.inl h
  · exact Or.inr (Nat.le_trans hEE.le h)

theorem remove_no (w : World) (q o : Nat) (bm : Option Nat) (xs : List Ent) (r k i : Int) (hq : QRep w q o bm xs) (hok : TaskOk r k i) (he : look xs r k i = none) :
    Calls Try.prog 25 #[.pointer (some ⟨q, o, none⟩), taskV r k i] w fun e' w' => e' = .returned (.bool false) ∧ Ext w w' := by
  have hE := ext_alloc w (.cells #[.int .i64 r, .int .i64 k, .int .i64 i] 43)
  have hq1 := hq.ext hE
  go_enter Try.func25, Try.ntmps25
  go_wp2_with fail
  refine region_drew_tail 4 (by kernel_rfl) (by kernel_rfl) ?_
  simp only [List.take_succ_cons, List.take_zero, List.drop_succ_cons, List.drop_zero]
  repeat (go_big_quiet_step (fail))
  refine wpQuiet_nil ?_
  intro _ hw'
  obtain ⟨nq, hw''⟩ := hw'
  subst hw''
  go_wp2_with fail
  refine (cut_no _ q o bm xs r k i (hq1.drewN nq) hok he).mono ?_
  rintro e w1 ⟨rfl, hE1⟩
  go_wp2_with fail
  go_ret
  exact ⟨rfl, (hE.drewN nq).trans hE1⟩
theorem remove_yes (w : World) (q o : Nat) (bm : Option Nat) (l r : List Ent) (e : Ent) (hq : QRep w q o bm (l ++ e :: r)) :
    Calls Try.prog 25 #[.pointer (some ⟨q, o, none⟩), taskV e.run e.kind e.id] w fun e' w' => Cutted w q o bm (l ++ e :: r) (l ++ r) e' w' true := by
  have hE := ext_alloc w (.cells #[.int .i64 e.run, .int .i64 e.kind, .int .i64 e.id] 43)
  have hq1 := hq.ext hE
  go_enter Try.func25, Try.ntmps25
  go_wp2_with fail
  refine region_drew_tail 4 (by kernel_rfl) (by kernel_rfl) ?_
  simp only [List.take_succ_cons, List.take_zero, List.drop_succ_cons, List.drop_zero]
  repeat (go_big_quiet_step (fail))
  refine wpQuiet_nil ?_
  intro _ hw'
  obtain ⟨nq, hw''⟩ := hw'
  subst hw''
  go_wp2_with fail
  refine (cut_yes _ q o bm l r e (hq1.drewN nq)).mono ?_
  rintro e w1 ⟨rfl, h2, h3, h4⟩
  go_wp2_with fail
  go_ret
  have hEE := hE.drewN nq
  exact ⟨rfl, h2, (Tch.of_ext (S := Foot q bm _) hEE).trans h3 (fun i h _ => h), (RowKept.ext hEE).trans h4⟩

theorem foot_cons {q : Nat} {bm : Option Nat} {xs : List Ent} {e : Ent} {k : Nat} (h : Foot q bm xs k) : Foot q bm (e :: xs) k :=
  h.imp id (Or.imp id (fun h => by simp only [blks, List.map_cons, List.mem_cons]; exact Or.inr h))
theorem take_no (w : World) (q o : Nat) (bm : Option Nat) (hq : QRep w q o bm []) :
    Calls Try.prog 29 #[.pointer (some ⟨q, o, none⟩)] w fun e' w' => e' = .returned (.tuple #[taskV 0 0 0, .bool false]) ∧ Ext w w' := by
  have hE := ext_alloc w (.cells #[.int .i64 0, .int .i64 0, .int .i64 0] 43)
  have hq1 := hq.ext hE
  have hres : Blk (w.alloc (.cells #[.int .i64 0, .int .i64 0, .int .i64 0] 43)) w.heap.size 43 #[.int .i64 0, .int .i64 0, .int .i64 0] := Blk.new _ _ _
  go_enter Try.func29, Try.ntmps29
  go_wp2_with fail
  generalize w.alloc _ = W at *
  refine (first_no W q o bm hq1).mono ?_
  rintro e w1 ⟨rfl, hE1⟩
  have hres1 := hres.of_eq (hE1.block _ hres.lt)
  have hq2 := hq1.ext hE1
  have hE2 := hE.trans hE1
  clear hE hE1 hres hq1
  go_wp2_with fail
  refine gen_world (fun W => Ext w1 W ∧ Blk W w1.heap.size 43 #[.int .i64 0, .int .i64 0, .int .i64 0]) ⟨ext_alloc _ _, Blk.new _ _ _⟩ ?_
  rintro W ⟨hEW, hbW⟩
  have hrW := hres1.of_eq (hEW.block _ hres1.lt)
  have hrl := hrW.lt
  have hne : w1.heap.size ≠ w.heap.size := by have := hres1.lt; omega
  have b0 := hbW.cell 0
  have b1 := hbW.cell 1
  have b2 := hbW.cell 2
  have r0 := hrW.cell 0
  have r1 := hrW.cell 1
  have r2 := hrW.cell 2
  have s0 := hrW.frozen 0
  have s1 := hrW.frozen 1
  have s2 := hrW.frozen 2
  simp only [List.getElem?_toArray, List.getElem?_cons_zero, List.getElem?_cons_succ] at b0 b1 b2 r0 r1 r2
  have d0 : ∀ x : Of (fun X => Tch (fun k => k = w.heap.size) W X), x.val.cell? ⟨w1.heap.size, 0, none⟩ = some (.int .i64 0) := fun x => x.property.cell b0 hbW.lt hne
  have d1 : ∀ x : Of (fun X => Tch (fun k => k = w.heap.size) W X), x.val.cell? ⟨w1.heap.size, 1, none⟩ = some (.int .i64 0) := fun x => x.property.cell b1 hbW.lt hne
  have d2 : ∀ x : Of (fun X => Tch (fun k => k = w.heap.size) W X), x.val.cell? ⟨w1.heap.size, 2, none⟩ = some (.int .i64 0) := fun x => x.property.cell b2 hbW.lt hne
  have hFd := (show Tch (fun k => k = w.heap.size) W W.drew from (Tch.refl _ _).drew)
  have hne_ : Nonempty (Of (fun X => Tch (fun k => k = w.heap.size) W X)) := ⟨⟨_, hFd⟩⟩
  refine region_tags [true, true, true, true, true, true, true, false, true, false, true] (fun w' => ∃ x : Of (fun X => Tch (fun k => k = w.heap.size) W X), w' = x.val) (by kernel_rfl) (by kernel_rfl) ⟨⟨_, hFd⟩, rfl⟩ ?_
  refine walk_quiet 7 (by kernel_rfl) ?_
  simp only [List.take_succ_cons, List.take_zero, List.drop_succ_cons, List.drop_zero]
  repeat (go_big_quiet_step (fail))
  refine wpQuiet_nil ?_
  refine walk_skip rfl ?_
  simp only [Act.put, List.setIfInBounds_toArray, List.set_cons_succ, List.set_cons_zero]
  refine walk_quiet 1 (by kernel_rfl) ?_
  simp only [List.take_succ_cons, List.take_zero, List.drop_succ_cons, List.drop_zero]
  repeat (go_big_quiet_step (fail))
  refine wpQuiet_nil ?_
  have hF1 : Tch (fun k => k = w.heap.size) W (((W.setCell ⟨w.heap.size, 0, none⟩ (.int .i64 0)).setCell ⟨w.heap.size, 1, none⟩ (.int .i64 0)).setCell ⟨w.heap.size, 2, none⟩ (.int .i64 0)).drew := by (repeat first
                                                                                                                                                                                                          | exact Tch.refl _ _
                                                                                                                                                                                                          | (fail)
                                                                                                                                                                                                          | refine Tch.drewN ?_ _
                                                                                                                                                                                                          | refine Tch.drew ?_
                                                                                                                                                                                                          | refine Tch.alloc ?_ _
                                                                                                                                                                                                          | refine Tch.setCell ?_ (by intro _; first | rfl | (simp; done) | omega) _)
  refine walk_want rfl (fun K hK => ?_)
  go_simp
  refine hK _ _ ⟨⟨_, hF1⟩, rfl⟩ ?_
  clear hK K
  clear d0 d1 d2
  refine walk_quiet 1 (by kernel_rfl) ?_
  simp only [List.take_succ_cons, List.take_zero, List.drop_succ_cons, List.drop_zero]
  repeat (go_big_quiet_step (fail))
  refine wpQuiet_nil ?_
  refine walk_nil ?_
  go_wp2
  refine bodyPost_ret (v := .tuple #[taskV 0 0 0, .bool false]) (by simp [results, Try.results29, go_sem, r0, r1, r2]) rfl ⟨rfl, ?_⟩
  (repeat first
    | exact Ext.refl _
    | exact ext_alloc _ _
    | (exact hE2.trans hEW)
    | refine Ext.drewN ?_ _
    | refine Ext.drew ?_
    | refine Ext.alloc ?_ _
    | refine Ext.setCell ?_ (by first | (simp; done) | (simp; omega) | omega) _)
theorem take_yes (w : World) (q o : Nat) (bm : Option Nat) (e : Ent) (xs : List Ent) (hq : QRep w q o bm (e :: xs)) :
    Calls Try.prog 29 #[.pointer (some ⟨q, o, none⟩)] w fun e' w' => e' = .returned (.tuple #[taskV e.run e.kind e.id, .bool true]) ∧ QRep w' q o bm xs ∧ Tch (Foot q bm (e :: xs)) w w' ∧ RowKept q o w w' := by
  have hE := ext_alloc w (.cells #[.int .i64 0, .int .i64 0, .int .i64 0] 43)
  have hq1 := hq.ext hE
  have hres : Blk (w.alloc (.cells #[.int .i64 0, .int .i64 0, .int .i64 0] 43)) w.heap.size 43 #[.int .i64 0, .int .i64 0, .int .i64 0] := Blk.new _ _ _
  go_enter Try.func29, Try.ntmps29
  go_wp2_with fail
  generalize w.alloc _ = W at *
  refine (first_yes W q o bm e xs hq1).mono ?_
  rintro e' w1 ⟨rfl, hE1⟩
  have hres1 := hres.of_eq (hE1.block _ hres.lt)
  have hq2 := hq1.ext hE1
  have hE2 := hE.trans hE1
  clear hE hE1 hres hq1
  go_wp2_with fail
  refine gen_world (fun W => Ext w1 W ∧ Blk W w1.heap.size 43 #[.int .i64 e.run, .int .i64 e.kind, .int .i64 e.id]) ⟨ext_alloc _ _, Blk.new _ _ _⟩ ?_
  rintro W ⟨hEW, hbW⟩
  have hq3 := hq2.ext hEW
  have hrW := hres1.of_eq (hEW.block _ hres1.lt)
  have hrl := hrW.lt
  have hwq : ∀ k, Foot q bm (e :: xs) k → k < w.heap.size := fun k hk => hq.foot_lt hk
  have hww := hres1.lt
  have hnf : ¬ (Foot q bm (e :: xs) w1.heap.size ∨ w1.heap.size = w.heap.size) := by
    rintro (h | h)
    · have := hwq _ h; omega
    · omega
  have b0 := hbW.cell 0
  have b1 := hbW.cell 1
  have b2 := hbW.cell 2
  have r0 := hrW.cell 0
  have r1 := hrW.cell 1
  have r2 := hrW.cell 2
  have s0 := hrW.frozen 0
  have s1 := hrW.frozen 1
  have s2 := hrW.frozen 2
  simp only [List.getElem?_toArray, List.getElem?_cons_zero, List.getElem?_cons_succ] at b0 b1 b2 r0 r1 r2
  have d0 : ∀ x : Of (fun X => Tch (fun k => Foot q bm (e :: xs) k ∨ k = w.heap.size) W X), x.val.cell? ⟨w1.heap.size, 0, none⟩ = some (.int .i64 e.run) := fun x => x.property.cell b0 hbW.lt hnf
  have d1 : ∀ x : Of (fun X => Tch (fun k => Foot q bm (e :: xs) k ∨ k = w.heap.size) W X), x.val.cell? ⟨w1.heap.size, 1, none⟩ = some (.int .i64 e.kind) := fun x => x.property.cell b1 hbW.lt hnf
  have d2 : ∀ x : Of (fun X => Tch (fun k => Foot q bm (e :: xs) k ∨ k = w.heap.size) W X), x.val.cell? ⟨w1.heap.size, 2, none⟩ = some (.int .i64 e.id) := fun x => x.property.cell b2 hbW.lt hnf
  have hFd := (show Tch (fun k => Foot q bm (e :: xs) k ∨ k = w.heap.size) W W.drew from (Tch.refl _ _).drew)
  have hne_ : Nonempty (Of (fun X => Tch (fun k => Foot q bm (e :: xs) k ∨ k = w.heap.size) W X)) := ⟨⟨_, hFd⟩⟩
  refine region_tags [true, true, true, true, true, true, true, false, true, false, true] (fun w' => ∃ x : Of (fun X => Tch (fun k => Foot q bm (e :: xs) k ∨ k = w.heap.size) W X), w' = x.val) (by kernel_rfl) (by kernel_rfl) ⟨⟨_, hFd⟩, rfl⟩ ?_
  refine walk_quiet 7 (by kernel_rfl) ?_
  simp only [List.take_succ_cons, List.take_zero, List.drop_succ_cons, List.drop_zero]
  repeat (go_big_quiet_step (fail))
  refine wpQuiet_nil ?_
  refine walk_want rfl (fun K hK => ?_)
  go_simp
  refine (cut_yes _ q o bm [] xs e (hq3.drewN 1)).mono ?_
  rintro e' w3 ⟨rfl, g1, g2, g3⟩
  have hF3 : Tch (fun k => Foot q bm (e :: xs) k ∨ k = w.heap.size) W w3 := ((Tch.refl (Foot q bm (e :: xs)) W).drewN 1).trans g2 (fun _ h _ => h) |>.mono (fun _ h _ => Or.inl h)
  refine hK _ _ ⟨⟨_, hF3⟩, rfl⟩ ?_
  clear hK K
  clear d0 d1 d2
  refine walk_quiet 1 (by kernel_rfl) ?_
  simp only [List.take_succ_cons, List.take_zero, List.drop_succ_cons, List.drop_zero]
  repeat (go_big_quiet_step (fail))
  refine wpQuiet_nil ?_
  have hw3 : w.heap.size < w3.heap.size := Nat.lt_of_lt_of_le hrl g2.size
  have hnw : ¬ Foot q bm (e :: xs) w.heap.size := fun h => by have := hwq _ h; omega
  have hr3 := g2.blk (hrW.drewN 1) hnw
  have s0 := hr3.frozen 0
  have s1 := hr3.frozen 1
  have s2 := hr3.frozen 2
  have r0 := hr3.cell 0
  have r1 := hr3.cell 1
  have r2 := hr3.cell 2
  simp only [List.getElem?_toArray, List.getElem?_cons_zero, List.getElem?_cons_succ] at r0 r1 r2
  have hF4 : Tch (fun k => Foot q bm (e :: xs) k ∨ k = w.heap.size) W (((w3.setCell ⟨w.heap.size, 0, none⟩ (.int .i64 e.run)).setCell ⟨w.heap.size, 1, none⟩ (.int .i64 e.kind)).setCell ⟨w.heap.size, 2, none⟩ (.int .i64 e.id)) :=
    ((hF3.setCell (p := ⟨w.heap.size, 0, none⟩) (fun _ => Or.inr rfl) _).setCell (p := ⟨w.heap.size, 1, none⟩) (fun _ => Or.inr rfl) _).setCell (p := ⟨w.heap.size, 2, none⟩) (fun _ => Or.inr rfl) _
  refine walk_want rfl (fun K hK => ?_)
  go_simp
  refine hK _ _ ⟨⟨_, hF4⟩, rfl⟩ ?_
  clear hK K
  refine walk_quiet 1 (by kernel_rfl) ?_
  simp only [List.take_succ_cons, List.take_zero, List.drop_succ_cons, List.drop_zero]
  repeat (go_big_quiet_step (fail))
  refine wpQuiet_nil ?_
  refine walk_nil ?_
  go_wp2
  refine bodyPost_ret (v := .tuple #[taskV e.run e.kind e.id, .bool true]) (by simp [results, Try.results29, go_sem, r0, r1, r2]) rfl ⟨rfl, ?_, ?_, ?_⟩
  · refine g1.keep fun k hk => ?_
    have hkw : k ≠ w.heap.size := by
      have := foot_cons (e := e) hk
      have := hwq _ this
      omega
    rw [Below.heap_setCell _ _ _ _ hkw, Below.heap_setCell _ _ _ _ hkw, Below.heap_setCell _ _ _ _ hkw]
  · have hEE : Tch (fun k => Foot q bm (e :: xs) k ∨ k = w.heap.size) w W := Tch.of_ext (hE2.trans hEW)
    refine (hEE.trans hF4 (fun _ h _ => h)).mono fun k hk hlt => ?_
    rcases hk with h | h
    · exact h
    · omega
  · have hqr : q ≠ w.heap.size := by have := hwq q (Or.inl rfl); omega
    refine ((RowKept.ext ((hE2.trans hEW).drewN 1)).trans g3).trans fun cs T h => ⟨cs, ((h.far hqr _).far hqr _).far hqr _, rfl, fun _ _ => rfl⟩
end Go.Proofs.Ytadmfoglajhdcaa
