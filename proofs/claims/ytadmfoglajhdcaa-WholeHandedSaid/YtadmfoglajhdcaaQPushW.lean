/- The walk of a queue's push. -/
import Derived.Test.YtadmfoglajhdcaaQPush
import Derived.Test.YtadmfoglajhdcaaMix
import Derived.WalkKit
import Derived.WalkSpells
import Derived.WalkLawsBesides
import Derived.Outline
import Derived.BigQuiet
import Derived.Lib.Hide
import Derived.Deep.DeepCutAuto
import Derived.Deep.CutBlock
namespace Go.Proofs.Ytadmfoglajhdcaa
set_option maxRecDepth 4000
set_option linter.unusedVariables false
set_option linter.unusedSimpArgs false
open Go Go.RowKit Go.Maps Go.ChangeMaps Go.MapKept
theorem Blk.same {w : World} {g : Nat} {t t' : TypeId} {cs cs' : Array Value} (h : Blk w g t cs) (h' : Blk w g t' cs') : cs = cs' ∧ t = t' := by
  unfold Blk at h h'
  rw [h] at h'
  injection h' with h'
  injection h' with h1 h2
  exact ⟨h1, h2⟩
theorem _root_.Go.World.ownsMap.drewN' {w : World} {b n : Nat} {D : DataW Unit} (h : w.ownsMap Try.prog 43 linkElem b n D) (j : Nat) : (w.drewN j).ownsMap Try.prog 43 linkElem b n D := h
theorem not_or_eq {a b c : Nat} (h1 : a ≠ b) (h2 : a ≠ c) : ¬ (a = b ∨ a = c) := fun h => h.elim h1 h2
def Pushed (w : World) (q o : Nat) (bm : Option Nat) (xs : List Ent) (r k i s : Int) (e : Ending) (w' : World) : Prop :=
  e = .returned (.tuple #[]) ∧ ∃ bm' blk, w.heap.size ≤ blk ∧ QRep w' q o bm' (xs ++ [⟨r, k, i, s, blk⟩]) ∧ Tch (Foot q bm xs) w w' ∧ RowKept q o w w' ∧ ∀ b, bm' = some b → bm = some b ∨ w.heap.size ≤ b
theorem push_nil (w : World) (q o : Nat) (r k i s : Int) (T : TypeId) (cs : Array Value) (hrow : Blk w q T cs) (hne : T ≠ 87) (hq : QRep w q o none []) (hok : Ent.Ok ⟨r, k, i, s, 0⟩) (hno : ([] : List Ent).any (isT · r k i) = false) :
    Calls Try.prog 16 #[.pointer (some ⟨q, o, none⟩), taskV r k i, .int .i64 s] w fun e w' => Pushed w q o none [] r k i s e w' := by
  have c0 := hq.c0
  have c1 := hq.c1
  have c2 := hq.c2
  have f0 := hq.fz o
  have f1 := hq.fz (o + 1)
  have f2 := hq.fz (o + 2)
  have hql := hq.foot_lt (Or.inl rfl)
  have hmm := @run_makeMap Try.prog
  have hmn : ∀ w : World, (binOp .eql 33 (.map none) (.map none)).run Try.prog w = .ok (.bool true) w := fun w => run_eql_map_nil w _ _ _ none Try.underlying33
  have hms : ∀ (w : World) (b : Nat), (binOp .eql 33 (.map (some b)) (.map none)).run Try.prog w = .ok (.bool false) w := fun w b => run_eql_map_nil w _ _ _ (some b) Try.underlying33
  simp only [hd, tl, ptr, Option.map_none] at c0 c1
  have h0 : cs[o]? = some (.pointer none) := by rw [← hrow.cell]; exact c0
  have h1 : cs[o + 1]? = some (.pointer none) := by rw [← hrow.cell]; exact c1
  have h2 : cs[o + 2]? = some (.map none) := by rw [← hrow.cell]; exact c2
  go_enter Try.func16, Try.ntmps16
  go_wp2
  refine region_drew_tail 7 (by kernel_rfl) (by kernel_rfl) ?_
  simp only [List.take_succ_cons, List.take_zero, List.drop_succ_cons, List.drop_zero]
  repeat (go_big_quiet_step (fail))
  refine wpQuiet_nil ?_
  intro _ hw'
  obtain ⟨nq, hw''⟩ := hw'
  subst hw''
  go_upto_region 5 with (fail)
  refine gen_world (Half w q o none [] ⟨r, k, i, s, w.heap.size + 1⟩ w.heap.size T cs none (cs.setIfInBounds o (ptr (some (w.heap.size + 1))))) ?_ ?_
  · have hb : Blk (w.alloc (.cells #[.int .i64 r, .int .i64 k, .int .i64 i] 43)) w.heap.size 43 #[.int .i64 r, .int .i64 k, .int .i64 i] := Blk.new _ _ _
    have hq1 : q ≠ w.heap.size := by omega
    have hso : o < cs.size := (Array.getElem?_eq_some_iff.1 h0).1
    refine ⟨((hb.drewN _).far (p := ⟨q, o, none⟩) (Ne.symm hq1) _).alloc _, ?_, ((((hrow.alloc _).drewN _).set_ o _).alloc _), hne, ?_, ?_, ?_, ⟨by simp, fun j hj => ?_⟩, trivial, ?_, by simp, by simp, (fun _ h => by cases h), rfl⟩
    · have := Blk.new ((((w.alloc (.cells #[.int .i64 r, .int .i64 k, .int .i64 i] 43)).drewN nq).setCell ⟨q, o, none⟩ (ptr (some (w.heap.size + 1))))) 87 (nodeV ⟨r, k, i, s, w.heap.size + 1⟩ (tl none []) none)
      have e : ((((w.alloc (.cells #[.int .i64 r, .int .i64 k, .int .i64 i] 43)).drewN nq).setCell ⟨q, o, none⟩ (ptr (some (w.heap.size + 1))))).heap.size = w.heap.size + 1 := by simp [World.setCell]
      rw [e] at this
      exact this
    · rw [Array.getElem?_setIfInBounds_self_of_lt hso]; rfl
    · rw [Array.getElem?_setIfInBounds_ne (by omega)]; exact h1
    · rw [Array.getElem?_setIfInBounds_ne (by omega)]; exact h2
    · rw [Array.getElem?_setIfInBounds_ne (by omega)]
    · exact ((((Tch.refl _ _).alloc _).drewN _).setCell (fun _ => Or.inl rfl) _).alloc _
  intro W hW
  clear c0 c1 c2 f0 f1 f2 h0 h1 h2
  have hc1 := hW.c1
  have c1 := (hW.row.cell (o + 1)).trans hc1
  have hc2 := hW.c2
  have c2 := (hW.row.cell (o + 2)).trans hc2
  have f1 := hW.row.frozen (o + 1)
  have f2 := hW.row.frozen (o + 2)
  have hqW := hW.row.lt
  clear hc1 hc2
  go_wp2
  refine gen_world (Half w q o none [] ⟨r, k, i, s, w.heap.size + 1⟩ w.heap.size T cs (some W.heap.size) ((cs.setIfInBounds o (ptr (some (w.heap.size + 1)))).setIfInBounds (o + 2) (.map (some W.heap.size)))) (hW.made hql) ?_
  clear c1 c2 f1 f2 hqW hW
  generalize W.heap.size = b
  clear W
  intro W hH
  have hlen : ([] : List Ent).length < 1000 := by simp
  -- the second half: the map has the link, the queue's end is it
  have g0 := hH.c1
  have g2 := hH.c2
  have c1 := (hH.row.cell (o + 1)).trans g0
  have c2 := (hH.row.cell (o + 2)).trans g2
  have f1 := hH.row.frozen (o + 1)
  have hqW := hH.row.lt
  have hbW := hH.box.lt
  obtain ⟨D, hD, hown⟩ := hH.mp
  have hbq : w.heap.size ≠ q := fun e => by have := hH.bxn; omega
  have hbb : w.heap.size ≠ b := ne_map hH.box hown
  have hqb : q ≠ b := ne_map hH.row hown
  have b0 : W.cell? ⟨w.heap.size, 0, none⟩ = some (.int .i64 r) := hH.box.cell 0
  have b1 : W.cell? ⟨w.heap.size, 1, none⟩ = some (.int .i64 k) := hH.box.cell 1
  have b2 : W.cell? ⟨w.heap.size, 2, none⟩ = some (.int .i64 i) := hH.box.cell 2
  have d2 : ∀ x : Of (fun X => X.cell? ⟨q, o + 2, none⟩ = some (.map (some b)) ∧ Tch (fun k => k = q ∨ k = b) W X), x.val.cell? ⟨q, o + 2, none⟩ = some (.map (some b)) := fun x => x.property.1
  have e0 : ∀ x : Of (fun X => X.cell? ⟨q, o + 2, none⟩ = some (.map (some b)) ∧ Tch (fun k => k = q ∨ k = b) W X), x.val.cell? ⟨w.heap.size, 0, none⟩ = some (.int .i64 r) := fun x => x.property.2.cell b0 hbW (not_or_eq hbq hbb)
  have e1 : ∀ x : Of (fun X => X.cell? ⟨q, o + 2, none⟩ = some (.map (some b)) ∧ Tch (fun k => k = q ∨ k = b) W X), x.val.cell? ⟨w.heap.size, 1, none⟩ = some (.int .i64 k) := fun x => x.property.2.cell b1 hbW (not_or_eq hbq hbb)
  have e2 : ∀ x : Of (fun X => X.cell? ⟨q, o + 2, none⟩ = some (.map (some b)) ∧ Tch (fun k => k = q ∨ k = b) W X), x.val.cell? ⟨w.heap.size, 2, none⟩ = some (.int .i64 i) := fun x => x.property.2.cell b2 hbW (not_or_eq hbq hbb)
  obtain ⟨kl, hkl⟩ : ∃ kl, keyOf Try.prog 43 (taskV r k i) = some kl := taskKey_mk hok.key
  have hnoD : Maps.has D kl = false := (hD.has _ _ _ _ hkl).trans hno
  have hFd := (show W.drew.cell? ⟨q, o + 2, none⟩ = some (.map (some b)) ∧ Tch (fun k => k = q ∨ k = b) W W.drew from ⟨c2, (Tch.refl _ _).drew⟩)
  have hne_ : Nonempty (Of (fun X => X.cell? ⟨q, o + 2, none⟩ = some (.map (some b)) ∧ Tch (fun k => k = q ∨ k = b) W X)) := ⟨⟨_, hFd⟩⟩
  refine region_mixed 8 (fun w' => ∃ x : Of (fun X => X.cell? ⟨q, o + 2, none⟩ = some (.map (some b)) ∧ Tch (fun k => k = q ∨ k = b) W X), w' = x.val) (by kernel_rfl) (by kernel_rfl) (by kernel_rfl) ⟨⟨_, hFd⟩, rfl⟩ ?_
  simp only [List.take_succ_cons, List.take_zero, List.drop_succ_cons, List.drop_zero]
  repeat (go_big_quiet_step (fail))
  refine wpQuiet_nil ?_
  clear b0 b1 b2 d2 e0 e1 e2
  refine listC_step rfl (fun K hK => ?_)
  go_simp
  refine hK _ _ ⟨⟨_, hFd⟩, rfl⟩ ?_
  clear hK K
  refine listC_step rfl (fun K hK => ?_)
  go_simp
  refine hK _ _ ⟨⟨_, hFd⟩, rfl⟩ ?_
  clear hK K
  refine listC_step rfl (fun K hK => ?_)
  go_simp
  have hown1 : ((W.setCell ⟨q, o + 1, none⟩ (.pointer (some ⟨w.heap.size + 1, 0, none⟩))).drew).ownsMap Try.prog 43 linkElem b ([]).length D := World.ownsMap.drew (hown.setCell (Ne.symm hqb) _)
  have hF1 : ((W.setCell ⟨q, o + 1, none⟩ (.pointer (some ⟨w.heap.size + 1, 0, none⟩))).drew).cell? ⟨q, o + 2, none⟩ = some (.map (some b)) ∧ Tch (fun k => k = q ∨ k = b) W ((W.setCell ⟨q, o + 1, none⟩ (.pointer (some ⟨w.heap.size + 1, 0, none⟩))).drew) := ⟨(World.cell?_setCell_other W _ _ _ (by simp)).trans c2, ((Tch.refl _ _).setCell (fun _ => Or.inl rfl) _).drew⟩
  have hr1 : Blk ((W.setCell ⟨q, o + 1, none⟩ (.pointer (some ⟨w.heap.size + 1, 0, none⟩))).drew) q T _ := (hH.row.set_ (o + 1) (.pointer (some ⟨w.heap.size + 1, 0, none⟩))).drew
  refine hK _ _ ⟨⟨_, hF1⟩, rfl⟩ ?_
  clear hK K
  clear hFd hne_
  generalize (W.setCell ⟨q, o + 1, none⟩ (.pointer (some ⟨w.heap.size + 1, 0, none⟩))).drew = X at *
  obtain ⟨st, w1, hrun, hturn, hst⟩ := entry_new hown1 taskKey Try.underlying33 (Nat.lt_of_lt_of_le hlen (by unfold maxLen; omega)) hkl hnoD (link_zero X)
  have hF2 : w1.cell? ⟨q, o + 2, none⟩ = some (.map (some b)) ∧ Tch (fun k => k = q ∨ k = b) W w1 := ⟨(World.cell?_of_block (a := ⟨q, o + 2, none⟩) (hturn.grown.block q hr1.lt (fun e => hqb (by injection e)))).trans hF1.1, hF1.2.grown hturn.grown (fun g e _ => by injection e with e; exact Or.inr e.symm)⟩
  have hr2 := hr1.of_eq (hturn.grown.block q hr1.lt (fun e => hqb (by injection e)))
  refine listC_step rfl (fun K hK => ?_)
  go_simp
  refine hK _ _ ⟨⟨_, hF2⟩, rfl⟩ ?_
  clear hK K
  refine listC_step rfl (fun K hK => ?_)
  go_simp
  refine hK _ _ ⟨⟨_, hF2⟩, rfl⟩ ?_
  clear hK K
  obtain ⟨w3, hrun3, hown3, hturn3⟩ := hst w1 (.pointer (some ⟨w.heap.size + 1, 0, none⟩)) _ _ rfl (linkElem_ptr (w.heap.size + 1))
  have hF3 : w3.cell? ⟨q, o + 2, none⟩ = some (.map (some b)) ∧ Tch (fun k => k = q ∨ k = b) W w3 := ⟨(World.cell?_of_block (a := ⟨q, o + 2, none⟩) (hturn3.grown.block q hr2.lt (fun e => hqb (by injection e)))).trans hF2.1, hF2.2.grown hturn3.grown (fun g e _ => by injection e with e; exact Or.inr e.symm)⟩
  have hr3 := hr2.of_eq (hturn3.grown.block q hr2.lt (fun e => hqb (by injection e)))
  refine listC_step rfl (fun K hK => ?_)
  go_simp
  refine hK _ _ ⟨⟨_, hF3⟩, rfl⟩ ?_
  clear hK K
  refine listC_nil (NoPanic.normal ?_)
  go_wp2
  go_end0
  obtain ⟨hfin, hfin2⟩ := hH.fin hq hno ⟨hok.key, hok.s1, hok.s2⟩ hkl hD hr3 hF3.2 hown3
  refine ⟨rfl, some b, w.heap.size + 1, hH.bkn, hfin, hfin2, ?_, hH.bmn⟩
  intro cs' T' hb'
  obtain ⟨rfl, rfl⟩ := Blk.same hrow hb'
  exact ⟨_, hr3, by simp [hH.rest.1], fun j hj => (Array.getElem?_setIfInBounds_ne (by omega)).trans (hH.rest.2 j hj)⟩

theorem push_empty (w : World) (q o b : Nat) (r k i s : Int) (T : TypeId) (cs : Array Value) (hrow : Blk w q T cs) (hne : T ≠ 87) (hq : QRep w q o (some b) []) (hok : Ent.Ok ⟨r, k, i, s, 0⟩) (hno : ([] : List Ent).any (isT · r k i) = false) :
    Calls Try.prog 16 #[.pointer (some ⟨q, o, none⟩), taskV r k i, .int .i64 s] w fun e w' => Pushed w q o (some b) [] r k i s e w' := by
  have c0 := hq.c0
  have c1 := hq.c1
  have c2 := hq.c2
  have f0 := hq.fz o
  have f1 := hq.fz (o + 1)
  have f2 := hq.fz (o + 2)
  have hql := hq.foot_lt (Or.inl rfl)
  have hmm := @run_makeMap Try.prog
  have hmn : ∀ w : World, (binOp .eql 33 (.map none) (.map none)).run Try.prog w = .ok (.bool true) w := fun w => run_eql_map_nil w _ _ _ none Try.underlying33
  have hms : ∀ (w : World) (b : Nat), (binOp .eql 33 (.map (some b)) (.map none)).run Try.prog w = .ok (.bool false) w := fun w b => run_eql_map_nil w _ _ _ (some b) Try.underlying33
  simp only [hd, tl, ptr, Option.map_none] at c0 c1
  have h0 : cs[o]? = some (.pointer none) := by rw [← hrow.cell]; exact c0
  have h1 : cs[o + 1]? = some (.pointer none) := by rw [← hrow.cell]; exact c1
  have h2 : cs[o + 2]? = some (.map (some b)) := by rw [← hrow.cell]; exact c2
  go_enter Try.func16, Try.ntmps16
  go_wp2
  refine region_drew_tail 7 (by kernel_rfl) (by kernel_rfl) ?_
  simp only [List.take_succ_cons, List.take_zero, List.drop_succ_cons, List.drop_zero]
  repeat (go_big_quiet_step (fail))
  refine wpQuiet_nil ?_
  intro _ hw'
  obtain ⟨nq, hw''⟩ := hw'
  subst hw''
  go_upto_region 5 with (fail)
  refine gen_world (Half w q o (some b) [] ⟨r, k, i, s, w.heap.size + 1⟩ w.heap.size T cs (some b) (cs.setIfInBounds o (ptr (some (w.heap.size + 1))))) ?_ ?_
  · have hb : Blk (w.alloc (.cells #[.int .i64 r, .int .i64 k, .int .i64 i] 43)) w.heap.size 43 #[.int .i64 r, .int .i64 k, .int .i64 i] := Blk.new _ _ _
    have hq1 : q ≠ w.heap.size := by omega
    have hso : o < cs.size := (Array.getElem?_eq_some_iff.1 h0).1
    obtain ⟨D, n, hD, hown, hn⟩ := hq.mp
    subst hn
    have hqb : q ≠ b := ne_map hrow hown
    refine ⟨((hb.drewN _).far (p := ⟨q, o, none⟩) (Ne.symm hq1) _).alloc _, ?_, ((((hrow.alloc _).drewN _).set_ o _).alloc _), hne, ?_, ?_, ?_, ⟨by simp, fun j hj => ?_⟩, trivial, ?_, by simp, by simp, (fun _ h => Or.inl h), ⟨D, hD, ?_⟩⟩
    · have := Blk.new ((((w.alloc (.cells #[.int .i64 r, .int .i64 k, .int .i64 i] 43)).drewN nq).setCell ⟨q, o, none⟩ (ptr (some (w.heap.size + 1))))) 87 (nodeV ⟨r, k, i, s, w.heap.size + 1⟩ (tl none []) none)
      have e : ((((w.alloc (.cells #[.int .i64 r, .int .i64 k, .int .i64 i] 43)).drewN nq).setCell ⟨q, o, none⟩ (ptr (some (w.heap.size + 1))))).heap.size = w.heap.size + 1 := by simp [World.setCell]
      rw [e] at this
      exact this
    · rw [Array.getElem?_setIfInBounds_self_of_lt hso]; rfl
    · rw [Array.getElem?_setIfInBounds_ne (by omega)]; exact h1
    · rw [Array.getElem?_setIfInBounds_ne (by omega)]; exact h2
    · rw [Array.getElem?_setIfInBounds_ne (by omega)]
    · exact ((((Tch.refl _ _).alloc _).drewN _).setCell (fun _ => Or.inl rfl) _).alloc _
    · exact ((World.ownsMap.setCell (World.ownsMap.drewN' (hown.alloc _) _) (Ne.symm hqb) _).alloc _)
  intro W hH
  clear c0 c1 c2 f0 f1 f2 h0 h1 h2
  have hlen : ([] : List Ent).length < 1000 := by simp
  have hc2 := hH.c2
  have c2 := (hH.row.cell (o + 2)).trans hc2
  clear hc2
  go_wp2
  clear c2
  -- the second half: the map has the link, the queue's end is it
  have g0 := hH.c1
  have g2 := hH.c2
  have c1 := (hH.row.cell (o + 1)).trans g0
  have c2 := (hH.row.cell (o + 2)).trans g2
  have f1 := hH.row.frozen (o + 1)
  have hqW := hH.row.lt
  have hbW := hH.box.lt
  obtain ⟨D, hD, hown⟩ := hH.mp
  have hbq : w.heap.size ≠ q := fun e => by have := hH.bxn; omega
  have hbb : w.heap.size ≠ b := ne_map hH.box hown
  have hqb : q ≠ b := ne_map hH.row hown
  have b0 : W.cell? ⟨w.heap.size, 0, none⟩ = some (.int .i64 r) := hH.box.cell 0
  have b1 : W.cell? ⟨w.heap.size, 1, none⟩ = some (.int .i64 k) := hH.box.cell 1
  have b2 : W.cell? ⟨w.heap.size, 2, none⟩ = some (.int .i64 i) := hH.box.cell 2
  have d2 : ∀ x : Of (fun X => X.cell? ⟨q, o + 2, none⟩ = some (.map (some b)) ∧ Tch (fun k => k = q ∨ k = b) W X), x.val.cell? ⟨q, o + 2, none⟩ = some (.map (some b)) := fun x => x.property.1
  have e0 : ∀ x : Of (fun X => X.cell? ⟨q, o + 2, none⟩ = some (.map (some b)) ∧ Tch (fun k => k = q ∨ k = b) W X), x.val.cell? ⟨w.heap.size, 0, none⟩ = some (.int .i64 r) := fun x => x.property.2.cell b0 hbW (not_or_eq hbq hbb)
  have e1 : ∀ x : Of (fun X => X.cell? ⟨q, o + 2, none⟩ = some (.map (some b)) ∧ Tch (fun k => k = q ∨ k = b) W X), x.val.cell? ⟨w.heap.size, 1, none⟩ = some (.int .i64 k) := fun x => x.property.2.cell b1 hbW (not_or_eq hbq hbb)
  have e2 : ∀ x : Of (fun X => X.cell? ⟨q, o + 2, none⟩ = some (.map (some b)) ∧ Tch (fun k => k = q ∨ k = b) W X), x.val.cell? ⟨w.heap.size, 2, none⟩ = some (.int .i64 i) := fun x => x.property.2.cell b2 hbW (not_or_eq hbq hbb)
  obtain ⟨kl, hkl⟩ : ∃ kl, keyOf Try.prog 43 (taskV r k i) = some kl := taskKey_mk hok.key
  have hnoD : Maps.has D kl = false := (hD.has _ _ _ _ hkl).trans hno
  have hFd := (show W.drew.cell? ⟨q, o + 2, none⟩ = some (.map (some b)) ∧ Tch (fun k => k = q ∨ k = b) W W.drew from ⟨c2, (Tch.refl _ _).drew⟩)
  have hne_ : Nonempty (Of (fun X => X.cell? ⟨q, o + 2, none⟩ = some (.map (some b)) ∧ Tch (fun k => k = q ∨ k = b) W X)) := ⟨⟨_, hFd⟩⟩
  refine region_mixed 8 (fun w' => ∃ x : Of (fun X => X.cell? ⟨q, o + 2, none⟩ = some (.map (some b)) ∧ Tch (fun k => k = q ∨ k = b) W X), w' = x.val) (by kernel_rfl) (by kernel_rfl) (by kernel_rfl) ⟨⟨_, hFd⟩, rfl⟩ ?_
  simp only [List.take_succ_cons, List.take_zero, List.drop_succ_cons, List.drop_zero]
  repeat (go_big_quiet_step (fail))
  refine wpQuiet_nil ?_
  clear b0 b1 b2 d2 e0 e1 e2
  refine listC_step rfl (fun K hK => ?_)
  go_simp
  refine hK _ _ ⟨⟨_, hFd⟩, rfl⟩ ?_
  clear hK K
  refine listC_step rfl (fun K hK => ?_)
  go_simp
  refine hK _ _ ⟨⟨_, hFd⟩, rfl⟩ ?_
  clear hK K
  refine listC_step rfl (fun K hK => ?_)
  go_simp
  have hown1 : ((W.setCell ⟨q, o + 1, none⟩ (.pointer (some ⟨w.heap.size + 1, 0, none⟩))).drew).ownsMap Try.prog 43 linkElem b ([]).length D := World.ownsMap.drew (hown.setCell (Ne.symm hqb) _)
  have hF1 : ((W.setCell ⟨q, o + 1, none⟩ (.pointer (some ⟨w.heap.size + 1, 0, none⟩))).drew).cell? ⟨q, o + 2, none⟩ = some (.map (some b)) ∧ Tch (fun k => k = q ∨ k = b) W ((W.setCell ⟨q, o + 1, none⟩ (.pointer (some ⟨w.heap.size + 1, 0, none⟩))).drew) := ⟨(World.cell?_setCell_other W _ _ _ (by simp)).trans c2, ((Tch.refl _ _).setCell (fun _ => Or.inl rfl) _).drew⟩
  have hr1 : Blk ((W.setCell ⟨q, o + 1, none⟩ (.pointer (some ⟨w.heap.size + 1, 0, none⟩))).drew) q T _ := (hH.row.set_ (o + 1) (.pointer (some ⟨w.heap.size + 1, 0, none⟩))).drew
  refine hK _ _ ⟨⟨_, hF1⟩, rfl⟩ ?_
  clear hK K
  clear hFd hne_
  generalize (W.setCell ⟨q, o + 1, none⟩ (.pointer (some ⟨w.heap.size + 1, 0, none⟩))).drew = X at *
  obtain ⟨st, w1, hrun, hturn, hst⟩ := entry_new hown1 taskKey Try.underlying33 (Nat.lt_of_lt_of_le hlen (by unfold maxLen; omega)) hkl hnoD (link_zero X)
  have hF2 : w1.cell? ⟨q, o + 2, none⟩ = some (.map (some b)) ∧ Tch (fun k => k = q ∨ k = b) W w1 := ⟨(World.cell?_of_block (a := ⟨q, o + 2, none⟩) (hturn.grown.block q hr1.lt (fun e => hqb (by injection e)))).trans hF1.1, hF1.2.grown hturn.grown (fun g e _ => by injection e with e; exact Or.inr e.symm)⟩
  have hr2 := hr1.of_eq (hturn.grown.block q hr1.lt (fun e => hqb (by injection e)))
  refine listC_step rfl (fun K hK => ?_)
  go_simp
  refine hK _ _ ⟨⟨_, hF2⟩, rfl⟩ ?_
  clear hK K
  refine listC_step rfl (fun K hK => ?_)
  go_simp
  refine hK _ _ ⟨⟨_, hF2⟩, rfl⟩ ?_
  clear hK K
  obtain ⟨w3, hrun3, hown3, hturn3⟩ := hst w1 (.pointer (some ⟨w.heap.size + 1, 0, none⟩)) _ _ rfl (linkElem_ptr (w.heap.size + 1))
  have hF3 : w3.cell? ⟨q, o + 2, none⟩ = some (.map (some b)) ∧ Tch (fun k => k = q ∨ k = b) W w3 := ⟨(World.cell?_of_block (a := ⟨q, o + 2, none⟩) (hturn3.grown.block q hr2.lt (fun e => hqb (by injection e)))).trans hF2.1, hF2.2.grown hturn3.grown (fun g e _ => by injection e with e; exact Or.inr e.symm)⟩
  have hr3 := hr2.of_eq (hturn3.grown.block q hr2.lt (fun e => hqb (by injection e)))
  refine listC_step rfl (fun K hK => ?_)
  go_simp
  refine hK _ _ ⟨⟨_, hF3⟩, rfl⟩ ?_
  clear hK K
  refine listC_nil (NoPanic.normal ?_)
  go_wp2
  go_end0
  obtain ⟨hfin, hfin2⟩ := hH.fin hq hno ⟨hok.key, hok.s1, hok.s2⟩ hkl hD hr3 hF3.2 hown3
  refine ⟨rfl, some b, w.heap.size + 1, hH.bkn, hfin, hfin2, ?_, hH.bmn⟩
  intro cs' T' hb'
  obtain ⟨rfl, rfl⟩ := Blk.same hrow hb'
  exact ⟨_, hr3, by simp [hH.rest.1], fun j hj => (Array.getElem?_setIfInBounds_ne (by omega)).trans (hH.rest.2 j hj)⟩

theorem push_more (w : World) (q o b : Nat) (l : List Ent) (a : Ent) (r k i s : Int) (T : TypeId) (cs : Array Value) (hrow : Blk w q T cs) (hne : T ≠ 87) (hq : QRep w q o (some b) (l ++ [a])) (hok : Ent.Ok ⟨r, k, i, s, 0⟩) (hno : (l ++ [a]).any (isT · r k i) = false) (hlen : (l ++ [a]).length < 1000) :
    Calls Try.prog 16 #[.pointer (some ⟨q, o, none⟩), taskV r k i, .int .i64 s] w fun e w' => Pushed w q o (some b) (l ++ [a]) r k i s e w' := by
  have c0 := hq.c0
  have c1 := hq.c1
  have c2 := hq.c2
  have f0 := hq.fz o
  have f1 := hq.fz (o + 1)
  have f2 := hq.fz (o + 2)
  have hql := hq.foot_lt (Or.inl rfl)
  have hmm := @run_makeMap Try.prog
  have hmn : ∀ w : World, (binOp .eql 33 (.map none) (.map none)).run Try.prog w = .ok (.bool true) w := fun w => run_eql_map_nil w _ _ _ none Try.underlying33
  have hms : ∀ (w : World) (b : Nat), (binOp .eql 33 (.map (some b)) (.map none)).run Try.prog w = .ok (.bool false) w := fun w b => run_eql_map_nil w _ _ _ (some b) Try.underlying33
  have htl : tl none (l ++ [a]) = some a.blk := by rw [tl_append]; rfl
  rw [htl] at c1
  simp only [ptr, Option.map_some] at c1
  have h0 : cs[o]? = some (ptr (hd (l ++ [a]) none)) := by rw [← hrow.cell]; exact c0
  have h1 : cs[o + 1]? = some (ptr (some a.blk)) := by rw [← hrow.cell]; exact c1
  have h2 : cs[o + 2]? = some (.map (some b)) := by rw [← hrow.cell]; exact c2
  have hsa := (seg_append.1 hq.seg).2.1
  have hla := hsa.lt
  have a5 : w.cell? ⟨a.blk, 5, none⟩ = some (.pointer none) := hsa.cell 5
  have fa5 := hsa.frozen 5
  clear c0 f0
  go_enter Try.func16, Try.ntmps16
  go_wp2
  refine region_drew_tail 7 (by kernel_rfl) (by kernel_rfl) ?_
  simp only [List.take_succ_cons, List.take_zero, List.drop_succ_cons, List.drop_zero]
  repeat (go_big_quiet_step (fail))
  refine wpQuiet_nil ?_
  intro _ hw'
  obtain ⟨nq, hw''⟩ := hw'
  subst hw''
  go_upto_region 5 with (fail)
  refine gen_world (Half w q o (some b) (l ++ [a]) ⟨r, k, i, s, w.heap.size + 1⟩ w.heap.size T cs (some b) cs) ?_ ?_
  · have hb : Blk (w.alloc (.cells #[.int .i64 r, .int .i64 k, .int .i64 i] 43)) w.heap.size 43 #[.int .i64 r, .int .i64 k, .int .i64 i] := Blk.new _ _ _
    have hq1 : a.blk ≠ w.heap.size := by omega
    obtain ⟨D, n, hD, hown, hn⟩ := hq.mp
    subst hn
    have hab : a.blk ≠ b := ne_map hsa hown
    have hqa : q ≠ a.blk := Blk.ne_ hrow hsa hne
    have hw1 : Ext w (w.alloc (.cells #[.int .i64 r, .int .i64 k, .int .i64 i] 43)) := ext_alloc _ _
    refine ⟨((hb.drewN _).far (p := ⟨a.blk, 5, none⟩) (Ne.symm hq1) _).alloc _, ?_, ((((hrow.alloc _).drewN _).far hqa _).alloc _), hne, ?_, ?_, h2, ⟨rfl, fun j hj => rfl⟩, ?_, ?_, by simp, by simp, (fun _ h => Or.inl h), ⟨D, hD, ?_⟩⟩
    · have := Blk.new ((((w.alloc (.cells #[.int .i64 r, .int .i64 k, .int .i64 i] 43)).drewN nq).setCell ⟨a.blk, 5, none⟩ (ptr (some (w.heap.size + 1))))) 87 (nodeV ⟨r, k, i, s, w.heap.size + 1⟩ (some a.blk) none)
      have e : ((((w.alloc (.cells #[.int .i64 r, .int .i64 k, .int .i64 i] 43)).drewN nq).setCell ⟨a.blk, 5, none⟩ (ptr (some (w.heap.size + 1))))).heap.size = w.heap.size + 1 := by simp [World.setCell]
      rw [e] at this
      rw [htl]
      exact this
    · rw [h0, hd_append, hd_append]; cases l <;> rfl
    · rw [htl]; exact h1
    · have hseg : Seg ((w.alloc (.cells #[.int .i64 r, .int .i64 k, .int .i64 i] 43)).drewN nq) 87 none (l ++ [a]) none := hq.seg.keep fun x hx => Below.heap_alloc _ _ _ (hq.foot_lt (Or.inr (Or.inr hx)))
      have := hseg.set_next (n' := some (w.heap.size + 1)) hq.nodup
      refine this.keep fun x hx => Below.heap_alloc _ _ _ ?_
      have := hq.foot_lt (Or.inr (Or.inr hx))
      simp [World.setCell]; omega
    · exact ((((Tch.refl _ _).alloc _).drewN _).setCell (fun _ => Or.inr (Or.inr (by simp [blks]))) _).alloc _
    · exact ((World.ownsMap.setCell (World.ownsMap.drewN' (hown.alloc _) _) (Ne.symm hab) _).alloc _)
  intro W hH
  clear c1 c2 f1 f2 h0 h1 h2 a5 fa5 hsa hla
  have hc2 := hH.c2
  have c2 := (hH.row.cell (o + 2)).trans hc2
  clear hc2
  go_wp2
  clear c2
  -- the second half: the map has the link, the queue's end is it
  have g0 := hH.c1
  have g2 := hH.c2
  have c1 := (hH.row.cell (o + 1)).trans g0
  have c2 := (hH.row.cell (o + 2)).trans g2
  have f1 := hH.row.frozen (o + 1)
  have hqW := hH.row.lt
  have hbW := hH.box.lt
  obtain ⟨D, hD, hown⟩ := hH.mp
  have hbq : w.heap.size ≠ q := fun e => by have := hH.bxn; omega
  have hbb : w.heap.size ≠ b := ne_map hH.box hown
  have hqb : q ≠ b := ne_map hH.row hown
  have b0 : W.cell? ⟨w.heap.size, 0, none⟩ = some (.int .i64 r) := hH.box.cell 0
  have b1 : W.cell? ⟨w.heap.size, 1, none⟩ = some (.int .i64 k) := hH.box.cell 1
  have b2 : W.cell? ⟨w.heap.size, 2, none⟩ = some (.int .i64 i) := hH.box.cell 2
  have d2 : ∀ x : Of (fun X => X.cell? ⟨q, o + 2, none⟩ = some (.map (some b)) ∧ Tch (fun k => k = q ∨ k = b) W X), x.val.cell? ⟨q, o + 2, none⟩ = some (.map (some b)) := fun x => x.property.1
  have e0 : ∀ x : Of (fun X => X.cell? ⟨q, o + 2, none⟩ = some (.map (some b)) ∧ Tch (fun k => k = q ∨ k = b) W X), x.val.cell? ⟨w.heap.size, 0, none⟩ = some (.int .i64 r) := fun x => x.property.2.cell b0 hbW (not_or_eq hbq hbb)
  have e1 : ∀ x : Of (fun X => X.cell? ⟨q, o + 2, none⟩ = some (.map (some b)) ∧ Tch (fun k => k = q ∨ k = b) W X), x.val.cell? ⟨w.heap.size, 1, none⟩ = some (.int .i64 k) := fun x => x.property.2.cell b1 hbW (not_or_eq hbq hbb)
  have e2 : ∀ x : Of (fun X => X.cell? ⟨q, o + 2, none⟩ = some (.map (some b)) ∧ Tch (fun k => k = q ∨ k = b) W X), x.val.cell? ⟨w.heap.size, 2, none⟩ = some (.int .i64 i) := fun x => x.property.2.cell b2 hbW (not_or_eq hbq hbb)
  obtain ⟨kl, hkl⟩ : ∃ kl, keyOf Try.prog 43 (taskV r k i) = some kl := taskKey_mk hok.key
  have hnoD : Maps.has D kl = false := (hD.has _ _ _ _ hkl).trans hno
  have hFd := (show W.drew.cell? ⟨q, o + 2, none⟩ = some (.map (some b)) ∧ Tch (fun k => k = q ∨ k = b) W W.drew from ⟨c2, (Tch.refl _ _).drew⟩)
  have hne_ : Nonempty (Of (fun X => X.cell? ⟨q, o + 2, none⟩ = some (.map (some b)) ∧ Tch (fun k => k = q ∨ k = b) W X)) := ⟨⟨_, hFd⟩⟩
  refine region_mixed 8 (fun w' => ∃ x : Of (fun X => X.cell? ⟨q, o + 2, none⟩ = some (.map (some b)) ∧ Tch (fun k => k = q ∨ k = b) W X), w' = x.val) (by kernel_rfl) (by kernel_rfl) (by kernel_rfl) ⟨⟨_, hFd⟩, rfl⟩ ?_
  simp only [List.take_succ_cons, List.take_zero, List.drop_succ_cons, List.drop_zero]
  repeat (go_big_quiet_step (fail))
  refine wpQuiet_nil ?_
  clear b0 b1 b2 d2 e0 e1 e2
  refine listC_step rfl (fun K hK => ?_)
  go_simp
  refine hK _ _ ⟨⟨_, hFd⟩, rfl⟩ ?_
  clear hK K
  refine listC_step rfl (fun K hK => ?_)
  go_simp
  refine hK _ _ ⟨⟨_, hFd⟩, rfl⟩ ?_
  clear hK K
  refine listC_step rfl (fun K hK => ?_)
  go_simp
  have hown1 : ((W.setCell ⟨q, o + 1, none⟩ (.pointer (some ⟨w.heap.size + 1, 0, none⟩))).drew).ownsMap Try.prog 43 linkElem b (l ++ [a]).length D := World.ownsMap.drew (hown.setCell (Ne.symm hqb) _)
  have hF1 : ((W.setCell ⟨q, o + 1, none⟩ (.pointer (some ⟨w.heap.size + 1, 0, none⟩))).drew).cell? ⟨q, o + 2, none⟩ = some (.map (some b)) ∧ Tch (fun k => k = q ∨ k = b) W ((W.setCell ⟨q, o + 1, none⟩ (.pointer (some ⟨w.heap.size + 1, 0, none⟩))).drew) := ⟨(World.cell?_setCell_other W _ _ _ (by simp)).trans c2, ((Tch.refl _ _).setCell (fun _ => Or.inl rfl) _).drew⟩
  have hr1 : Blk ((W.setCell ⟨q, o + 1, none⟩ (.pointer (some ⟨w.heap.size + 1, 0, none⟩))).drew) q T _ := (hH.row.set_ (o + 1) (.pointer (some ⟨w.heap.size + 1, 0, none⟩))).drew
  refine hK _ _ ⟨⟨_, hF1⟩, rfl⟩ ?_
  clear hK K
  clear hFd hne_
  generalize (W.setCell ⟨q, o + 1, none⟩ (.pointer (some ⟨w.heap.size + 1, 0, none⟩))).drew = X at *
  obtain ⟨st, w1, hrun, hturn, hst⟩ := entry_new hown1 taskKey Try.underlying33 (Nat.lt_of_lt_of_le hlen (by unfold maxLen; omega)) hkl hnoD (link_zero X)
  have hF2 : w1.cell? ⟨q, o + 2, none⟩ = some (.map (some b)) ∧ Tch (fun k => k = q ∨ k = b) W w1 := ⟨(World.cell?_of_block (a := ⟨q, o + 2, none⟩) (hturn.grown.block q hr1.lt (fun e => hqb (by injection e)))).trans hF1.1, hF1.2.grown hturn.grown (fun g e _ => by injection e with e; exact Or.inr e.symm)⟩
  have hr2 := hr1.of_eq (hturn.grown.block q hr1.lt (fun e => hqb (by injection e)))
  refine listC_step rfl (fun K hK => ?_)
  go_simp
  refine hK _ _ ⟨⟨_, hF2⟩, rfl⟩ ?_
  clear hK K
  refine listC_step rfl (fun K hK => ?_)
  go_simp
  refine hK _ _ ⟨⟨_, hF2⟩, rfl⟩ ?_
  clear hK K
  obtain ⟨w3, hrun3, hown3, hturn3⟩ := hst w1 (.pointer (some ⟨w.heap.size + 1, 0, none⟩)) _ _ rfl (linkElem_ptr (w.heap.size + 1))
  have hF3 : w3.cell? ⟨q, o + 2, none⟩ = some (.map (some b)) ∧ Tch (fun k => k = q ∨ k = b) W w3 := ⟨(World.cell?_of_block (a := ⟨q, o + 2, none⟩) (hturn3.grown.block q hr2.lt (fun e => hqb (by injection e)))).trans hF2.1, hF2.2.grown hturn3.grown (fun g e _ => by injection e with e; exact Or.inr e.symm)⟩
  have hr3 := hr2.of_eq (hturn3.grown.block q hr2.lt (fun e => hqb (by injection e)))
  refine listC_step rfl (fun K hK => ?_)
  go_simp
  refine hK _ _ ⟨⟨_, hF3⟩, rfl⟩ ?_
  clear hK K
  refine listC_nil (NoPanic.normal ?_)
  go_wp2
  go_end0
  obtain ⟨hfin, hfin2⟩ := hH.fin hq hno ⟨hok.key, hok.s1, hok.s2⟩ hkl hD hr3 hF3.2 hown3
  refine ⟨rfl, some b, w.heap.size + 1, hH.bkn, hfin, hfin2, ?_, hH.bmn⟩
  intro cs' T' hb'
  obtain ⟨rfl, rfl⟩ := Blk.same hrow hb'
  exact ⟨_, hr3, by simp [hH.rest.1], fun j hj => (Array.getElem?_setIfInBounds_ne (by omega)).trans (hH.rest.2 j hj)⟩

/-- **a task at the end of a queue** -/
theorem push_any (w : World) (q o : Nat) (bm : Option Nat) (xs : List Ent) (r k i s : Int) (hq : QRep w q o bm xs) (hok : Ent.Ok ⟨r, k, i, s, 0⟩) (hno : xs.any (isT · r k i) = false) (hlen : xs.length < 1000) :
    Calls Try.prog 16 #[.pointer (some ⟨q, o, none⟩), taskV r k i, .int .i64 s] w fun e w' => Pushed w q o bm xs r k i s e w' := by
  obtain ⟨cs, T, hrow, hne, _⟩ := hq.cells
  cases bm with
  | none =>
    obtain rfl : xs = [] := hq.mp
    exact push_nil w q o r k i s T cs hrow hne hq hok hno
  | some b =>
    rcases List.eq_nil_or_concat xs with rfl | ⟨l, a, rfl⟩
    · exact push_empty w q o b r k i s T cs hrow hne hq hok hno
    · rw [List.concat_eq_append] at *
      exact push_more w q o b l a r k i s T cs hrow hne hq hok hno hlen
end Go.Proofs.Ytadmfoglajhdcaa
