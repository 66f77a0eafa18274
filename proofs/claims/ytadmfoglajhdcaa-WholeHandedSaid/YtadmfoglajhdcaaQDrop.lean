/- The walk of a queue's Drop: all tasks of a run wait no more. -/
import Derived.Test.YtadmfoglajhdcaaQList
import Derived.Test.YtadmfoglajhdcaaArgs
import Derived.Outline
namespace Go.Proofs.Ytadmfoglajhdcaa
set_option maxRecDepth 4000
set_option linter.unusedVariables false
set_option linter.unusedSimpArgs false
open Go Go.RowKit Go.Maps Go.ChangeMaps Go.MapKept
def rest (run : Int) (l : List Ent) : List Ent := l.filter fun e => !(e.run == run)
theorem rest_in {run : Int} {e : Ent} (l : List Ent) (h : e.run = run) : rest run (l ++ [e]) = rest run l := by simp [rest, h]
theorem rest_out {run : Int} {e : Ent} (l : List Ent) (h : e.run ≠ run) : rest run (l ++ [e]) = rest run l ++ [e] := by simp [rest, h]
structure DropIs (L : Nat) (w : World) (q o : Nat) (bm : Option Nat) (xs : List Ent) (run : Int) (v : Value) (pre post : List Ent) (n : Int) (wr : World) : Prop where
  all : xs = pre ++ post
  num : n + (rest run pre).length = pre.length
  rep : QRep wr q o bm (rest run pre ++ post)
  tch : Tch (Foot q bm xs) w wr
  row : RowKept q o w wr
  len : L = xs.length
  own : wr.ownsRow w.heap.size 43 3 v L (flat xs)
def DropRel (L : Nat) (w : World) (q o : Nat) (bm : Option Nat) (xs : List Ent) (run : Int) (v : Value) (n k : Value) (wr : World) : Prop :=
  ∃ (pre post : List Ent) (m : Int), k = .int .i64 pre.length ∧ n = .int .i64 m ∧ DropIs L w q o bm xs run v pre post m wr
theorem flat_cell {w : World} {base L : Nat} {p : Option Addr} {c : Nat} {pre post : List Ent} {e : Ent} (hL : L = (pre ++ e :: post).length) (h : w.ownsRow base 43 3 (.slice p L c) L (flat (pre ++ e :: post))) :
    ∃ g, p = some ⟨g, 0, none⟩ ∧ base ≤ g ∧ g < w.heap.size ∧ w.cell? ⟨g, pre.length * 3, none⟩ = some (.int .i64 e.run) ∧ w.cell? ⟨g, pre.length * 3 + 1, none⟩ = some (.int .i64 e.kind) ∧ w.cell? ⟨g, pre.length * 3 + 2, none⟩ = some (.int .i64 e.id) := by
  rcases h.2 with ⟨_, h0⟩ | ⟨g, cap, cur, hv, _⟩
  · simp at hL; omega
  · have hlt := h.lt g (by rw [hv]; rfl)
    have hc := h.cells (g := g) (by rw [hv]; rfl)
    injection hv with h1 h2 h3
    refine ⟨g, h1, hlt.1, hlt.2, ?_⟩
    have fl := flat_length pre
    have hf : flat (pre ++ e :: post) = flat pre ++ ([Value.int .i64 e.run, .int .i64 e.kind, .int .i64 e.id] ++ flat post) := by simp [flat]
    rw [hf] at hc
    have a : ∀ j u, [Value.int .i64 e.run, .int .i64 e.kind, .int .i64 e.id][j]? = some u → w.cell? ⟨g, pre.length * 3 + j, none⟩ = some u := by
      intro j u hj
      have := hc (pre.length * 3 + j) u (by
        rw [List.getElem?_append_right (by omega), fl, show pre.length * 3 + j - pre.length * 3 = j by omega, List.getElem?_append_left (by have := (List.getElem?_eq_some_iff.1 hj).1; exact this)]
        exact hj)
      rw [Go.WideShapes.add_plain] at this
      simpa using this
    exact ⟨a 0 _ rfl, a 1 _ rfl, a 2 _ rfl⟩
theorem foot_rest {q : Nat} {bm : Option Nat} {run : Int} {pre post : List Ent} {k : Nat} (h : Foot q bm (rest run pre ++ post) k) : Foot q bm (pre ++ post) k := by
  rcases h with h | h | h
  · exact Or.inl h
  · exact Or.inr (Or.inl h)
  · refine Or.inr (Or.inr ?_)
    simp only [blks, List.map_append, List.mem_append, List.mem_map, rest, List.mem_filter] at h ⊢
    rcases h with ⟨a, ⟨ha, _⟩, hb⟩ | h
    · exact Or.inl ⟨a, ha, hb⟩
    · exact Or.inr h
def Dropped (w : World) (q o : Nat) (bm : Option Nat) (xs : List Ent) (run : Int) (e : Ending) (w' : World) : Prop :=
  ∃ n : Int, e = .returned (.int .i64 n) ∧ n + (rest run xs).length = xs.length ∧ QRep w' q o bm (rest run xs) ∧ Tch (Foot q bm xs) w w' ∧ RowKept q o w w'
set_option maxRecDepth 100000 in
set_option maxHeartbeats 1000000 in
theorem drop_any (w : World) (q o : Nat) (bm : Option Nat) (xs : List Ent) (run : Int) (hq : QRep w q o bm xs) (hlen : xs.length < 1000) :
    Calls Try.prog 21 #[.pointer (some ⟨q, o, none⟩), .int .i64 run] w fun e w' => Dropped w q o bm xs run e w' := by
  go_enter Try.func21, Try.ntmps21
  go_wp2_with fail
  refine (list_any w q o bm xs hq hlen).mono ?_
  rintro e w1 ⟨v, rfl, hown, hE1⟩
  obtain ⟨L, hL⟩ : ∃ L, L = xs.length := ⟨_, rfl⟩
  rw [← hL] at hown
  obtain ⟨pv, cv, rfl⟩ := ownsRow_slice hown
  have hL9 : L ≤ 1000 := by omega
  have HL := Lib.hid hL
  clear hL
  go_wp2_with fail
  have HD : DropIs L w q o bm xs run (.slice pv L cv) [] xs 0 w1 := ⟨rfl, rfl, hq.ext hE1, Tch.of_ext hE1, RowKept.ext hE1, HL.out, hown⟩
  clear hown hE1
  go_loopw [5, 11] (fun n k wr => DropRel L w q o bm xs run (.slice pv L cv) n k wr) (fun _ k _ => (1000 - intOf k).toNat)
  case atStart => exact ⟨[], xs, 0, rfl, rfl, HD⟩
  case round =>
    clear HD
    obtain ⟨pre, post, m, rfl, rfl, H⟩ := hrel
    cases post with
    | nil =>
      have hx : xs = pre := by simpa using H.all
      subst hx
      have hl := H.len
      have hl2 : ¬ ((xs.length : Int) < L) := by omega
      go_wp2_with fail
      go_ret
      refine ⟨m, rfl, H.num, by simpa using H.rep, H.tch, H.row⟩
    | cons e post =>
      have hx := H.all
      subst hx
      have hl : pre.length + 1 ≤ L := by rw [H.len]; simp
      obtain ⟨g, rfl, hg1, hg2, x0, x1, x2⟩ := flat_cell H.len H.own
      go_wp2_with fail
      have hWE := ext_alloc wr (.cells #[.int .i64 e.run, .int .i64 e.kind, .int .i64 e.id] 43)
      have hbW : Blk (wr.alloc (.cells #[.int .i64 e.run, .int .i64 e.kind, .int .i64 e.id] 43)) wr.heap.size 43 #[.int .i64 e.run, .int .i64 e.kind, .int .i64 e.id] := Blk.new _ _ _
      have hrepW := H.rep.ext hWE
      have hnf : ¬ Foot q bm (rest run pre ++ e :: post) wr.heap.size := fun h => Nat.lt_irrefl _ (H.rep.foot_lt h)
      generalize hWW : wr.alloc _ = W at *
      clear hWW
      have HN := Lib.hid hnf
      have b0 := hbW.cell 0
      have b1 := hbW.cell 1
      have b2 := hbW.cell 2
      simp only [List.getElem?_toArray, List.getElem?_cons_zero, List.getElem?_cons_succ] at b0 b1 b2
      have d0 : ∀ x : Of (fun X => Tch (Foot q bm (rest run pre ++ e :: post)) W X), x.val.cell? ⟨wr.heap.size, 0, none⟩ = some (.int .i64 e.run) := fun x => x.property.cell b0 hbW.lt HN.out
      have d1 : ∀ x : Of (fun X => Tch (Foot q bm (rest run pre ++ e :: post)) W X), x.val.cell? ⟨wr.heap.size, 1, none⟩ = some (.int .i64 e.kind) := fun x => x.property.cell b1 hbW.lt HN.out
      have d2 : ∀ x : Of (fun X => Tch (Foot q bm (rest run pre ++ e :: post)) W X), x.val.cell? ⟨wr.heap.size, 2, none⟩ = some (.int .i64 e.id) := fun x => x.property.cell b2 hbW.lt HN.out
      clear x0 x1 x2 hnf
      by_cases hr : e.run = run
      · have hrd : (e.run == run) = true := by simp [hr]
        have HR := Lib.hid hr
        have hn := H.num
        clear hr
        have hFd := (show Tch (Foot q bm (rest run pre ++ e :: post)) W W.drew from (Tch.refl _ _).drew)
        have hne_ : Nonempty (Of (fun X => Tch (Foot q bm (rest run pre ++ e :: post)) W X)) := ⟨⟨_, hFd⟩⟩
        refine region_tags [true, true, true, true, true, true, true, true, true, false, true] (fun w' => ∃ x : Of (fun X => Tch (Foot q bm (rest run pre ++ e :: post)) W X), w' = x.val) (by kernel_rfl) (by kernel_rfl) ⟨⟨_, hFd⟩, rfl⟩ ?_
        refine walk_quiet 9 (by kernel_rfl) ?_
        simp only [List.take_succ_cons, List.take_zero, List.drop_succ_cons, List.drop_zero]
        repeat (go_big_quiet_step (fail))
        refine wpQuiet_nil ?_
        refine walk_want rfl (fun K hK => ?_)
        go_simp
        refine (cut_yes _ q o bm (rest run pre) post e (hrepW.drewN 1)).mono ?_
        rintro e' w3 ⟨rfl, g1, g2, g3⟩
        have hF3 : Tch (Foot q bm (rest run pre ++ e :: post)) W w3 := ((Tch.refl _ W).drewN 1).trans g2 (fun _ h _ => h)
        refine hK _ _ ⟨⟨_, hF3⟩, rfl⟩ ?_
        clear hK K d0 d1 d2
        refine walk_quiet 1 (by kernel_rfl) ?_
        simp only [List.take_succ_cons, List.take_zero, List.drop_succ_cons, List.drop_zero]
        repeat (go_big_quiet_step (fail))
        refine wpQuiet_nil ?_
        refine walk_nil ?_
        have H2 : DropIs L w q o bm (pre ++ e :: post) run (.slice (some ⟨g, 0, none⟩) L cv) (pre ++ [e]) post (m + 1) w3 := by
          refine ⟨by simp, ?_, by rw [rest_in _ HR.out]; exact g1, H.tch.trans ((Tch.of_ext (S := Foot q bm (rest run pre ++ e :: post)) hWE).trans hF3 (fun _ h _ => h)) (fun i h _ => foot_rest h), (H.row.trans (RowKept.ext (hWE.drewN 1))).trans g3, H.len, ?_⟩
          · rw [rest_in _ HR.out]; simp; omega
          · refine ownsRow_same (ownsRow_ext H.own hWE) fun g' hg' => hF3.block g' (Nat.lt_of_lt_of_le (H.own.lt g' hg').2 hWE.le) (fun h => ?_)
            have := hq.foot_lt (foot_rest h)
            have := (H.own.lt g' hg').1
            omega
        have hmb : m ≤ L := by rw [H.len]; simp; omega
        have hmb0 : 0 ≤ m := by have := (List.length_filter_le (fun e => !(e.run == run)) pre); unfold rest at hn; omega
        clear H hq hrepW hF3 g1 g2 g3 hbW b0 b1 b2 hWE HN hrd hn
        go_wp2_with fail
        refine ⟨⟨pre ++ [e], post, m + 1, by simp, rfl, H2⟩, by simp [intOf]; omega⟩
      · have hrd : (e.run == run) = false := by simp [hr]
        have HR := Lib.hid hr
        have hn := H.num
        clear hr
        have hFd := (show Tch (Foot q bm (rest run pre ++ e :: post)) W W.drew from (Tch.refl _ _).drew)
        have hne_ : Nonempty (Of (fun X => Tch (Foot q bm (rest run pre ++ e :: post)) W X)) := ⟨⟨_, hFd⟩⟩
        refine region_tags [true, true, true, true, true, true, true, true, true, false, true] (fun w' => ∃ x : Of (fun X => Tch (Foot q bm (rest run pre ++ e :: post)) W X), w' = x.val) (by kernel_rfl) (by kernel_rfl) ⟨⟨_, hFd⟩, rfl⟩ ?_
        refine walk_quiet 9 (by kernel_rfl) ?_
        simp only [List.take_succ_cons, List.take_zero, List.drop_succ_cons, List.drop_zero]
        repeat (go_big_quiet_step (fail))
        refine wpQuiet_nil ?_
        refine walk_skip rfl ?_
        simp only [Act.put, List.setIfInBounds_toArray, List.set_cons_succ, List.set_cons_zero]
        refine walk_quiet 1 (by kernel_rfl) ?_
        simp only [List.take_succ_cons, List.take_zero, List.drop_succ_cons, List.drop_zero]
        repeat (go_big_quiet_step (fail))
        refine wpQuiet_nil ?_
        refine walk_nil ?_
        have H2 : DropIs L w q o bm (pre ++ e :: post) run (.slice (some ⟨g, 0, none⟩) L cv) (pre ++ [e]) post m W.drew := by
          refine ⟨by simp, ?_, by rw [rest_out _ HR.out, List.append_assoc]; exact hrepW.drewN 1, H.tch.trans (Tch.of_ext (S := Foot q bm (pre ++ e :: post)) (hWE.drewN 1)) (fun i h _ => h), H.row.trans (RowKept.ext (hWE.drewN 1)), H.len, ownsRow_ext H.own (hWE.drewN 1)⟩
          rw [rest_out _ HR.out]; simp; omega
        clear H hq hrepW hbW b0 b1 b2 hWE HN hrd hn d0 d1 d2
        go_wp2_with fail
        refine ⟨⟨pre ++ [e], post, m, by simp, rfl, H2⟩, by simp [intOf]; omega⟩
end Go.Proofs.Ytadmfoglajhdcaa
