/- The walk of a queue's cut. -/
import Derived.Test.YtadmfoglajhdcaaQCut
namespace Go.Proofs.Ytadmfoglajhdcaa
set_option maxRecDepth 4000
set_option linter.unusedVariables false
set_option linter.unusedSimpArgs false
open Go Go.RowKit Go.Maps Go.ChangeMaps Go.MapKept
def Cutted (w : World) (q o : Nat) (bm : Option Nat) (xs xs' : List Ent) (e : Ending) (w' : World) (b : Bool) : Prop :=
  e = .returned (.bool b) ∧ QRep w' q o bm xs' ∧ Tch (Foot q bm xs) w w' ∧ RowKept q o w w'
theorem RowKept.ext {q o : Nat} {w w' : World} (h : Ext w w') : RowKept q o w w' := fun cs T h0 => ⟨cs, h0.of_eq (h.block q h0.lt), rfl, fun _ _ => rfl⟩
theorem cut_no (w : World) (q o : Nat) (bm : Option Nat) (xs : List Ent) (r k i : Int) (hq : QRep w q o bm xs) (hok : TaskOk r k i) (he : look xs r k i = none) :
    Calls Try.prog 33 #[.pointer (some ⟨q, o, none⟩), taskV r k i] w fun e' w' => e' = .returned (.bool false) ∧ Ext w w' := by
  have hE := ext_alloc w (.cells #[.int .i64 r, .int .i64 k, .int .i64 i] 43)
  have hq1 := hq.ext hE
  have hl := fun n => (hq1.drewN n).look hok
  rw [he] at hl
  simp only [Option.map_none, Option.isSome_none, ptr] at hl
  have c2 := hq.c2
  have hql := hq.foot_lt (Or.inl rfl)
  go_enter Try.func33, Try.ntmps33
  go_wp2
  go_quiet (fail)
  go_wp2
  go_ret
  exact ⟨rfl, hE.drewN _⟩
theorem cut_one (w : World) (q o b : Nat) (e : Ent) (hq : QRep w q o (some b) ([] ++ e :: [])) (he : look ([] ++ e :: []) e.run e.kind e.id = some e) :
    Calls Try.prog 33 #[.pointer (some ⟨q, o, none⟩), taskV e.run e.kind e.id] w fun e' w' => Cutted w q o (some b) ([] ++ e :: []) ([] ++ []) e' w' true := by
  have hE := ext_alloc w (.cells #[.int .i64 e.run, .int .i64 e.kind, .int .i64 e.id] 43)
  have hq1 := hq.ext hE
  have hok := (hq.ok e (by simp)).key
  have hl := fun n => (hq1.drewN n).look hok
  rw [he] at hl
  simp only [Option.map_some, Option.isSome_some, ptr] at hl
  have c2 := hq.c2
  have hql := hq.foot_lt (Or.inl rfl)
  go_enter Try.func33, Try.ntmps33
  go_wp2
  go_quiet (fail)
  go_wp2
  refine gen_world (fun W => Ext w W ∧ Blk W w.heap.size 43 #[.int .i64 e.run, .int .i64 e.kind, .int .i64 e.id]) ⟨hE.drewN _, (Blk.new _ _ _).drewN _⟩ ?_
  clear hl hq1 hE
  rintro W ⟨hE, hbox⟩
  have hqW := hq.ext hE
  have d2 := hqW.c2
  clear c2
  have b0 := hbox.cell 0
  have b1 := hbox.cell 1
  have b2 := hbox.cell 2
  simp only [List.getElem?_toArray, List.getElem?_cons_zero, List.getElem?_cons_succ] at b0 b1 b2
  refine region_drew_tail 5 (by kernel_rfl) (by kernel_rfl) ?_
  simp only [List.take_succ_cons, List.take_zero, List.drop_succ_cons, List.drop_zero]
  repeat (go_big_quiet_step (fail))
  refine wpQuiet_nil ?_
  intro _ hw'
  obtain ⟨nq, hw''⟩ := hw'
  subst hw''
  obtain ⟨kl, hkl⟩ : ∃ kl, keyOf Try.prog 43 (taskV e.run e.kind e.id) = some kl := taskKey_mk hok
  obtain ⟨D, n, hD, hown, hn⟩ := hqW.mp
  subst hn
  obtain ⟨w2, hrun, hown2, hturn⟩ := (World.ownsMap.drewN' hown nq).drop taskKey Try.underlying33 hkl 0
  go_upto_region 5 with (fail)
  obtain ⟨cs, T, hrow, hne, h0, h1, h2⟩ := hqW.cells
  refine gen_world (CutA w q o b ([]) ([]) e T cs) ?_ ?_
  · have hqb : q ≠ b := ne_map hrow hown
    have hkeep : ∀ x ∈ blks ([] ++ e :: []), w2.heap[x]? = W.heap[x]? := fun x hx => by
      obtain ⟨c, hc⟩ := hqW.seg.lt x hx
      exact hturn.grown.block x hc.lt (fun e => ne_map hc hown (by injection e))
    refine ⟨(show Blk W q T cs from hrow).of_eq (hturn.grown.block q (Blk.lt hrow) (fun e => hqb (by injection e))), hne, h0, h1, h2, hqW.seg.keep hkeep, hqW.nodup, ⟨_, hD.del hqW.apart hkl, ?_⟩, ?_⟩
    · have := ownsMap_shrink hown2
      rwa [(hD.del hqW.apart hkl).size] at this
    · exact ((Tch.of_ext hE).drewN nq).grown hturn.grown (fun g e _ => Or.inr (Or.inl e))
  have hrow0 : ∀ cs' T', Blk w q T' cs' → cs' = cs ∧ T' = T := fun cs' T' h => Blk.same (h.of_eq (hE.block q h.lt)) hrow
  clear hE hbox hqW d2 b0 b1 b2 hown hown2 hturn hrun hD hkl hrow h0 h1 h2 hne
  clear w2 D W
  intro W hA
  have hseg := (seg_append.1 hA.seg).2.1
  have e4 := hseg.cell 4
  have e5 := hseg.cell 5
  simp only [nodeV, List.getElem?_toArray, List.getElem?_cons_zero, List.getElem?_cons_succ] at e4 e5
  have f0 := hA.row.frozen o
  have f1 := hA.row.frozen (o + 1)
  have c0 := (hA.row.cell o).trans hA.c0
  simp only [tl, hd, ptr, Option.map_none, Option.map_some] at e4 e5
  go_upto_region 8 with (fail)
  refine gen_world (CutB w q o b [] ([]) e T cs (cs.setIfInBounds o (ptr (hd ([]) none)))) hA.first ?_
  clear hA hseg e4 e5 f0 f1 c0
  clear W
  intro W hB
  have e4 := hB.node.cell 4
  have e5 := hB.node.cell 5
  simp only [nodeV, List.getElem?_toArray, List.getElem?_cons_zero, List.getElem?_cons_succ] at e4 e5
  have f0 := hB.row.frozen o
  have f1 := hB.row.frozen (o + 1)
  have hc1 := hB.c1
  have c1 := (hB.row.cell (o + 1)).trans hc1
  clear hc1
  simp only [tl, hd, ptr, Option.map_none] at e4 e5
  go_wp2
  go_ret
  obtain ⟨g1, g2, g3⟩ := hB.last hq
  refine ⟨rfl, g1, g2, fun cs' T' h' => ?_⟩
  obtain ⟨rfl, rfl⟩ := hrow0 cs' T' h'
  exact ⟨_, g3, by simp [hB.rest.1], fun j hj => (Array.getElem?_setIfInBounds_ne (by omega)).trans (hB.rest.2 j hj)⟩
theorem cut_head (w : World) (q o b : Nat) (e c : Ent) (r : List Ent) (hq : QRep w q o (some b) ([] ++ e :: c :: r)) (he : look ([] ++ e :: c :: r) e.run e.kind e.id = some e) :
    Calls Try.prog 33 #[.pointer (some ⟨q, o, none⟩), taskV e.run e.kind e.id] w fun e' w' => Cutted w q o (some b) ([] ++ e :: c :: r) ([] ++ c :: r) e' w' true := by
  have hE := ext_alloc w (.cells #[.int .i64 e.run, .int .i64 e.kind, .int .i64 e.id] 43)
  have hq1 := hq.ext hE
  have hok := (hq.ok e (by simp)).key
  have hl := fun n => (hq1.drewN n).look hok
  rw [he] at hl
  simp only [Option.map_some, Option.isSome_some, ptr] at hl
  have c2 := hq.c2
  have hql := hq.foot_lt (Or.inl rfl)
  go_enter Try.func33, Try.ntmps33
  go_wp2
  go_quiet (fail)
  go_wp2
  refine gen_world (fun W => Ext w W ∧ Blk W w.heap.size 43 #[.int .i64 e.run, .int .i64 e.kind, .int .i64 e.id]) ⟨hE.drewN _, (Blk.new _ _ _).drewN _⟩ ?_
  clear hl hq1 hE
  rintro W ⟨hE, hbox⟩
  have hqW := hq.ext hE
  have d2 := hqW.c2
  clear c2
  have b0 := hbox.cell 0
  have b1 := hbox.cell 1
  have b2 := hbox.cell 2
  simp only [List.getElem?_toArray, List.getElem?_cons_zero, List.getElem?_cons_succ] at b0 b1 b2
  refine region_drew_tail 5 (by kernel_rfl) (by kernel_rfl) ?_
  simp only [List.take_succ_cons, List.take_zero, List.drop_succ_cons, List.drop_zero]
  repeat (go_big_quiet_step (fail))
  refine wpQuiet_nil ?_
  intro _ hw'
  obtain ⟨nq, hw''⟩ := hw'
  subst hw''
  obtain ⟨kl, hkl⟩ : ∃ kl, keyOf Try.prog 43 (taskV e.run e.kind e.id) = some kl := taskKey_mk hok
  obtain ⟨D, n, hD, hown, hn⟩ := hqW.mp
  subst hn
  obtain ⟨w2, hrun, hown2, hturn⟩ := (World.ownsMap.drewN' hown nq).drop taskKey Try.underlying33 hkl 0
  go_upto_region 5 with (fail)
  obtain ⟨cs, T, hrow, hne, h0, h1, h2⟩ := hqW.cells
  refine gen_world (CutA w q o b ([]) (c :: r) e T cs) ?_ ?_
  · have hqb : q ≠ b := ne_map hrow hown
    have hkeep : ∀ x ∈ blks ([] ++ e :: c :: r), w2.heap[x]? = W.heap[x]? := fun x hx => by
      obtain ⟨c, hc⟩ := hqW.seg.lt x hx
      exact hturn.grown.block x hc.lt (fun e => ne_map hc hown (by injection e))
    refine ⟨(show Blk W q T cs from hrow).of_eq (hturn.grown.block q (Blk.lt hrow) (fun e => hqb (by injection e))), hne, h0, h1, h2, hqW.seg.keep hkeep, hqW.nodup, ⟨_, hD.del hqW.apart hkl, ?_⟩, ?_⟩
    · have := ownsMap_shrink hown2
      rwa [(hD.del hqW.apart hkl).size] at this
    · exact ((Tch.of_ext hE).drewN nq).grown hturn.grown (fun g e _ => Or.inr (Or.inl e))
  have hrow0 : ∀ cs' T', Blk w q T' cs' → cs' = cs ∧ T' = T := fun cs' T' h => Blk.same (h.of_eq (hE.block q h.lt)) hrow
  clear hE hbox hqW d2 b0 b1 b2 hown hown2 hturn hrun hD hkl hrow h0 h1 h2 hne
  clear w2 D W
  intro W hA
  have hseg := (seg_append.1 hA.seg).2.1
  have e4 := hseg.cell 4
  have e5 := hseg.cell 5
  simp only [nodeV, List.getElem?_toArray, List.getElem?_cons_zero, List.getElem?_cons_succ] at e4 e5
  have f0 := hA.row.frozen o
  have f1 := hA.row.frozen (o + 1)
  have c0 := (hA.row.cell o).trans hA.c0
  simp only [tl, hd, ptr, Option.map_none, Option.map_some] at e4 e5
  go_upto_region 8 with (fail)
  refine gen_world (CutB w q o b [] (c :: r) e T cs (cs.setIfInBounds o (ptr (hd (c :: r) none)))) hA.first ?_
  clear hA hseg e4 e5 f0 f1 c0
  clear W
  intro W hB
  have e4 := hB.node.cell 4
  have e5 := hB.node.cell 5
  simp only [nodeV, List.getElem?_toArray, List.getElem?_cons_zero, List.getElem?_cons_succ] at e4 e5
  have f0 := hB.row.frozen o
  have f1 := hB.row.frozen (o + 1)
  have hc1 := hB.c1
  have c1 := (hB.row.cell (o + 1)).trans hc1
  clear hc1
  simp only [tl, hd, ptr, Option.map_none, Option.map_some] at e4 e5
  have k4 := hB.segr.1.cell 4
  have g4 := hB.segr.1.frozen 4
  simp only [nodeV, List.getElem?_toArray, List.getElem?_cons_zero, List.getElem?_cons_succ] at k4
  go_wp2
  refine region_drew_tail 10 (by kernel_rfl) (by kernel_rfl) ?_
  simp only [List.take_succ_cons, List.take_zero, List.drop_succ_cons, List.drop_zero]
  repeat (go_big_quiet_step (fail))
  refine wpQuiet_nil ?_
  intro _ hw'
  obtain ⟨nq, hw''⟩ := hw'
  subst hw''
  go_wp2
  go_ret
  obtain ⟨g1, g2, g3⟩ := hB.mid hq
  refine ⟨rfl, g1.drewN nq, g2.drewN nq, fun cs' T' h' => ?_⟩
  obtain ⟨rfl, rfl⟩ := hrow0 cs' T' h'
  exact ⟨_, g3, hB.rest.1, hB.rest.2⟩
theorem cut_last (w : World) (q o b : Nat) (l : List Ent) (a e : Ent) (hq : QRep w q o (some b) ((l ++ [a]) ++ e :: [])) (he : look ((l ++ [a]) ++ e :: []) e.run e.kind e.id = some e) :
    Calls Try.prog 33 #[.pointer (some ⟨q, o, none⟩), taskV e.run e.kind e.id] w fun e' w' => Cutted w q o (some b) ((l ++ [a]) ++ e :: []) ((l ++ [a]) ++ []) e' w' true := by
  have hE := ext_alloc w (.cells #[.int .i64 e.run, .int .i64 e.kind, .int .i64 e.id] 43)
  have hq1 := hq.ext hE
  have hok := (hq.ok e (by simp)).key
  have hl := fun n => (hq1.drewN n).look hok
  rw [he] at hl
  simp only [Option.map_some, Option.isSome_some, ptr] at hl
  have c2 := hq.c2
  have hql := hq.foot_lt (Or.inl rfl)
  go_enter Try.func33, Try.ntmps33
  go_wp2
  go_quiet (fail)
  go_wp2
  refine gen_world (fun W => Ext w W ∧ Blk W w.heap.size 43 #[.int .i64 e.run, .int .i64 e.kind, .int .i64 e.id]) ⟨hE.drewN _, (Blk.new _ _ _).drewN _⟩ ?_
  clear hl hq1 hE
  rintro W ⟨hE, hbox⟩
  have hqW := hq.ext hE
  have d2 := hqW.c2
  clear c2
  have b0 := hbox.cell 0
  have b1 := hbox.cell 1
  have b2 := hbox.cell 2
  simp only [List.getElem?_toArray, List.getElem?_cons_zero, List.getElem?_cons_succ] at b0 b1 b2
  refine region_drew_tail 5 (by kernel_rfl) (by kernel_rfl) ?_
  simp only [List.take_succ_cons, List.take_zero, List.drop_succ_cons, List.drop_zero]
  repeat (go_big_quiet_step (fail))
  refine wpQuiet_nil ?_
  intro _ hw'
  obtain ⟨nq, hw''⟩ := hw'
  subst hw''
  obtain ⟨kl, hkl⟩ : ∃ kl, keyOf Try.prog 43 (taskV e.run e.kind e.id) = some kl := taskKey_mk hok
  obtain ⟨D, n, hD, hown, hn⟩ := hqW.mp
  subst hn
  obtain ⟨w2, hrun, hown2, hturn⟩ := (World.ownsMap.drewN' hown nq).drop taskKey Try.underlying33 hkl 0
  go_upto_region 5 with (fail)
  obtain ⟨cs, T, hrow, hne, h0, h1, h2⟩ := hqW.cells
  refine gen_world (CutA w q o b (l ++ [a]) ([]) e T cs) ?_ ?_
  · have hqb : q ≠ b := ne_map hrow hown
    have hkeep : ∀ x ∈ blks ((l ++ [a]) ++ e :: []), w2.heap[x]? = W.heap[x]? := fun x hx => by
      obtain ⟨c, hc⟩ := hqW.seg.lt x hx
      exact hturn.grown.block x hc.lt (fun e => ne_map hc hown (by injection e))
    refine ⟨(show Blk W q T cs from hrow).of_eq (hturn.grown.block q (Blk.lt hrow) (fun e => hqb (by injection e))), hne, h0, h1, h2, hqW.seg.keep hkeep, hqW.nodup, ⟨_, hD.del hqW.apart hkl, ?_⟩, ?_⟩
    · have := ownsMap_shrink hown2
      rwa [(hD.del hqW.apart hkl).size] at this
    · exact ((Tch.of_ext hE).drewN nq).grown hturn.grown (fun g e _ => Or.inr (Or.inl e))
  have hrow0 : ∀ cs' T', Blk w q T' cs' → cs' = cs ∧ T' = T := fun cs' T' h => Blk.same (h.of_eq (hE.block q h.lt)) hrow
  clear hE hbox hqW d2 b0 b1 b2 hown hown2 hturn hrun hD hkl hrow h0 h1 h2 hne
  clear w2 D W
  intro W hA
  have hseg := (seg_append.1 hA.seg).2.1
  have e4 := hseg.cell 4
  have e5 := hseg.cell 5
  simp only [nodeV, List.getElem?_toArray, List.getElem?_cons_zero, List.getElem?_cons_succ] at e4 e5
  have f0 := hA.row.frozen o
  have f1 := hA.row.frozen (o + 1)
  have htl : tl none (l ++ [a]) = some a.blk := by rw [tl_append]; rfl
  rw [htl] at e4
  simp only [hd, ptr, Option.map_none, Option.map_some] at e4 e5
  have ha := (seg_append.1 (seg_append.1 hA.seg).1).2.1
  have a5 := ha.cell 5
  have g5 := ha.frozen 5
  simp only [nodeV, List.getElem?_toArray, List.getElem?_cons_zero, List.getElem?_cons_succ] at a5
  clear ha
  go_wp2
  refine region_drew_tail 10 (by kernel_rfl) (by kernel_rfl) ?_
  simp only [List.take_succ_cons, List.take_zero, List.drop_succ_cons, List.drop_zero]
  repeat (go_big_quiet_step (fail))
  refine wpQuiet_nil ?_
  intro _ hw'
  obtain ⟨nq, hw''⟩ := hw'
  subst hw''
  go_upto_region 8 with (fail)
  refine gen_world (CutB w q o b (l ++ [a]) ([]) e T cs cs) ?_ ?_
  · have hB := hA.later
    exact ⟨hB.row.drewN nq, hB.ne, hB.c0, hB.c1, hB.c2, hB.rest, hB.segl.keep fun _ _ => rfl, hB.node.drewN nq, hB.segr.keep fun _ _ => rfl, hB.nodup, hB.own, hB.tch.drewN nq⟩
  clear hA hseg e4 e5 f0 f1 a5 g5
  clear W
  intro W hB
  have e4 := hB.node.cell 4
  have e5 := hB.node.cell 5
  simp only [nodeV, List.getElem?_toArray, List.getElem?_cons_zero, List.getElem?_cons_succ] at e4 e5
  have f0 := hB.row.frozen o
  have f1 := hB.row.frozen (o + 1)
  have hc1 := hB.c1
  have c1 := (hB.row.cell (o + 1)).trans hc1
  clear hc1
  rw [htl] at e4
  simp only [hd, ptr, Option.map_none, Option.map_some] at e4 e5
  go_wp2
  go_ret
  obtain ⟨g1, g2, g3⟩ := hB.last hq
  rw [htl] at g1 g2 g3
  refine ⟨rfl, g1, g2, fun cs' T' h' => ?_⟩
  obtain ⟨rfl, rfl⟩ := hrow0 cs' T' h'
  exact ⟨_, g3, by simp [hB.rest.1], fun j hj => (Array.getElem?_setIfInBounds_ne (by omega)).trans (hB.rest.2 j hj)⟩
theorem cut_mid (w : World) (q o b : Nat) (l : List Ent) (a e c : Ent) (r : List Ent) (hq : QRep w q o (some b) ((l ++ [a]) ++ e :: c :: r)) (he : look ((l ++ [a]) ++ e :: c :: r) e.run e.kind e.id = some e) :
    Calls Try.prog 33 #[.pointer (some ⟨q, o, none⟩), taskV e.run e.kind e.id] w fun e' w' => Cutted w q o (some b) ((l ++ [a]) ++ e :: c :: r) ((l ++ [a]) ++ c :: r) e' w' true := by
  have hE := ext_alloc w (.cells #[.int .i64 e.run, .int .i64 e.kind, .int .i64 e.id] 43)
  have hq1 := hq.ext hE
  have hok := (hq.ok e (by simp)).key
  have hl := fun n => (hq1.drewN n).look hok
  rw [he] at hl
  simp only [Option.map_some, Option.isSome_some, ptr] at hl
  have c2 := hq.c2
  have hql := hq.foot_lt (Or.inl rfl)
  go_enter Try.func33, Try.ntmps33
  go_wp2
  go_quiet (fail)
  go_wp2
  refine gen_world (fun W => Ext w W ∧ Blk W w.heap.size 43 #[.int .i64 e.run, .int .i64 e.kind, .int .i64 e.id]) ⟨hE.drewN _, (Blk.new _ _ _).drewN _⟩ ?_
  clear hl hq1 hE
  rintro W ⟨hE, hbox⟩
  have hqW := hq.ext hE
  have d2 := hqW.c2
  clear c2
  have b0 := hbox.cell 0
  have b1 := hbox.cell 1
  have b2 := hbox.cell 2
  simp only [List.getElem?_toArray, List.getElem?_cons_zero, List.getElem?_cons_succ] at b0 b1 b2
  refine region_drew_tail 5 (by kernel_rfl) (by kernel_rfl) ?_
  simp only [List.take_succ_cons, List.take_zero, List.drop_succ_cons, List.drop_zero]
  repeat (go_big_quiet_step (fail))
  refine wpQuiet_nil ?_
  intro _ hw'
  obtain ⟨nq, hw''⟩ := hw'
  subst hw''
  obtain ⟨kl, hkl⟩ : ∃ kl, keyOf Try.prog 43 (taskV e.run e.kind e.id) = some kl := taskKey_mk hok
  obtain ⟨D, n, hD, hown, hn⟩ := hqW.mp
  subst hn
  obtain ⟨w2, hrun, hown2, hturn⟩ := (World.ownsMap.drewN' hown nq).drop taskKey Try.underlying33 hkl 0
  go_upto_region 5 with (fail)
  obtain ⟨cs, T, hrow, hne, h0, h1, h2⟩ := hqW.cells
  refine gen_world (CutA w q o b (l ++ [a]) (c :: r) e T cs) ?_ ?_
  · have hqb : q ≠ b := ne_map hrow hown
    have hkeep : ∀ x ∈ blks ((l ++ [a]) ++ e :: c :: r), w2.heap[x]? = W.heap[x]? := fun x hx => by
      obtain ⟨c, hc⟩ := hqW.seg.lt x hx
      exact hturn.grown.block x hc.lt (fun e => ne_map hc hown (by injection e))
    refine ⟨(show Blk W q T cs from hrow).of_eq (hturn.grown.block q (Blk.lt hrow) (fun e => hqb (by injection e))), hne, h0, h1, h2, hqW.seg.keep hkeep, hqW.nodup, ⟨_, hD.del hqW.apart hkl, ?_⟩, ?_⟩
    · have := ownsMap_shrink hown2
      rwa [(hD.del hqW.apart hkl).size] at this
    · exact ((Tch.of_ext hE).drewN nq).grown hturn.grown (fun g e _ => Or.inr (Or.inl e))
  have hrow0 : ∀ cs' T', Blk w q T' cs' → cs' = cs ∧ T' = T := fun cs' T' h => Blk.same (h.of_eq (hE.block q h.lt)) hrow
  clear hE hbox hqW d2 b0 b1 b2 hown hown2 hturn hrun hD hkl hrow h0 h1 h2 hne
  clear w2 D W
  intro W hA
  have hseg := (seg_append.1 hA.seg).2.1
  have e4 := hseg.cell 4
  have e5 := hseg.cell 5
  simp only [nodeV, List.getElem?_toArray, List.getElem?_cons_zero, List.getElem?_cons_succ] at e4 e5
  have f0 := hA.row.frozen o
  have f1 := hA.row.frozen (o + 1)
  have htl : tl none (l ++ [a]) = some a.blk := by rw [tl_append]; rfl
  rw [htl] at e4
  simp only [hd, ptr, Option.map_none, Option.map_some] at e4 e5
  have ha := (seg_append.1 (seg_append.1 hA.seg).1).2.1
  have a5 := ha.cell 5
  have g5 := ha.frozen 5
  simp only [nodeV, List.getElem?_toArray, List.getElem?_cons_zero, List.getElem?_cons_succ] at a5
  clear ha
  go_wp2
  refine region_drew_tail 10 (by kernel_rfl) (by kernel_rfl) ?_
  simp only [List.take_succ_cons, List.take_zero, List.drop_succ_cons, List.drop_zero]
  repeat (go_big_quiet_step (fail))
  refine wpQuiet_nil ?_
  intro _ hw'
  obtain ⟨nq, hw''⟩ := hw'
  subst hw''
  go_upto_region 8 with (fail)
  refine gen_world (CutB w q o b (l ++ [a]) (c :: r) e T cs cs) ?_ ?_
  · have hB := hA.later
    exact ⟨hB.row.drewN nq, hB.ne, hB.c0, hB.c1, hB.c2, hB.rest, hB.segl.keep fun _ _ => rfl, hB.node.drewN nq, hB.segr.keep fun _ _ => rfl, hB.nodup, hB.own, hB.tch.drewN nq⟩
  clear hA hseg e4 e5 f0 f1 a5 g5
  clear W
  intro W hB
  have e4 := hB.node.cell 4
  have e5 := hB.node.cell 5
  simp only [nodeV, List.getElem?_toArray, List.getElem?_cons_zero, List.getElem?_cons_succ] at e4 e5
  have f0 := hB.row.frozen o
  have f1 := hB.row.frozen (o + 1)
  have hc1 := hB.c1
  have c1 := (hB.row.cell (o + 1)).trans hc1
  clear hc1
  rw [htl] at e4
  simp only [hd, ptr, Option.map_none, Option.map_some] at e4 e5
  have k4 := hB.segr.1.cell 4
  have g4 := hB.segr.1.frozen 4
  simp only [nodeV, List.getElem?_toArray, List.getElem?_cons_zero, List.getElem?_cons_succ] at k4
  go_wp2
  refine region_drew_tail 10 (by kernel_rfl) (by kernel_rfl) ?_
  simp only [List.take_succ_cons, List.take_zero, List.drop_succ_cons, List.drop_zero]
  repeat (go_big_quiet_step (fail))
  refine wpQuiet_nil ?_
  intro _ hw'
  obtain ⟨nq, hw''⟩ := hw'
  subst hw''
  go_wp2
  go_ret
  obtain ⟨g1, g2, g3⟩ := hB.mid hq
  rw [htl] at g1 g2 g3
  refine ⟨rfl, g1.drewN nq, g2.drewN nq, fun cs' T' h' => ?_⟩
  obtain ⟨rfl, rfl⟩ := hrow0 cs' T' h'
  exact ⟨_, g3, hB.rest.1, hB.rest.2⟩
theorem look_at {l r : List Ent} {e : Ent} (h : Apart (l ++ e :: r)) : look (l ++ e :: r) e.run e.kind e.id = some e := by
  have hl : ∀ x ∈ l, isT x e.run e.kind e.id = false := fun x hx => (List.pairwise_append.1 h).2.2 x hx e (by simp)
  unfold look
  rw [List.find?_append, List.find?_eq_none.2 (fun x hx => by simp [hl x hx])]
  simp [isT]
/-- **a task is there no more** -/
theorem cut_yes (w : World) (q o : Nat) (bm : Option Nat) (l r : List Ent) (e : Ent) (hq : QRep w q o bm (l ++ e :: r)) :
    Calls Try.prog 33 #[.pointer (some ⟨q, o, none⟩), taskV e.run e.kind e.id] w fun e' w' => Cutted w q o bm (l ++ e :: r) (l ++ r) e' w' true := by
  have he := look_at hq.apart
  cases bm with
  | none => have := hq.mp; simp at this
  | some b =>
    rcases List.eq_nil_or_concat l with rfl | ⟨l', a, rfl⟩
    · cases r with
      | nil => exact cut_one w q o b e hq he
      | cons c r => exact cut_head w q o b e c r hq he
    · rw [List.concat_eq_append] at *
      cases r with
      | nil => exact cut_last w q o b l' a e hq he
      | cons c r => exact cut_mid w q o b l' a e c r hq he
end Go.Proofs.Ytadmfoglajhdcaa
