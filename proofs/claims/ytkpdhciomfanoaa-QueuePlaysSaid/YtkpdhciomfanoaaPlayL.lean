/- The document's list of tasks: find and without. -/
import Derived.Test.YtkpdhciomfanoaaPlayQ
import Derived.Test.YtkpdhciomfanoaaSteps
import Derived.Deep.QuietTactic
import Derived.BigQuiet
namespace Go.Proofs.Ytkpdhciomfanoaa
set_option linter.unusedVariables false
set_option linter.unusedSimpArgs false
open Go Go.RowKit Go.Maps Go.ChangeMaps Go.MapKept
def flat4 (l : List It) : List Value := l.flatMap fun e => [.int .i64 e.run, .int .i64 e.kind, .int .i64 e.id, .int .i64 e.since]
theorem flat4_length (xs : List It) : (flat4 xs).length = xs.length * 4 := by
  induction xs with
  | nil => rfl
  | cons e xs ih => simp only [flat4, List.flatMap_cons, List.length_append, List.length_cons, List.length_nil] at *; omega
theorem flat4_append (a b : List It) : flat4 (a ++ b) = flat4 a ++ flat4 b := by simp [flat4]
theorem flat4_one (l : List It) : ∀ u ∈ flat4 l, u.oneCell' = true := by
  intro u hu
  simp only [flat4, List.mem_flatMap, List.mem_cons, List.not_mem_nil, or_false] at hu
  obtain ⟨e, _, rfl | rfl | rfl | rfl⟩ := hu <;> rfl
def lA (v : Value) (l : List It) : Asr := rowA 51 4 v l.length (flat4 l)
theorem lA_loc (v : Value) (l : List It) : Loc (lA v l) := rowA_loc _ _ _ _ _
theorem flat4_cell {w : World} {base L : Nat} {p : Option Addr} {c : Nat} {pre post : List It} {e : It} (hL : L = (pre ++ e :: post).length) (h : w.ownsRow base 51 4 (.slice p L c) L (flat4 (pre ++ e :: post))) :
    ∃ g, p = some ⟨g, 0, none⟩ ∧ base ≤ g ∧ g < w.heap.size ∧ w.cell? ⟨g, pre.length * 4, none⟩ = some (.int .i64 e.run) ∧ w.cell? ⟨g, pre.length * 4 + 1, none⟩ = some (.int .i64 e.kind) ∧ w.cell? ⟨g, pre.length * 4 + 2, none⟩ = some (.int .i64 e.id) ∧ w.cell? ⟨g, pre.length * 4 + 3, none⟩ = some (.int .i64 e.since) := by
  rcases h.2 with ⟨_, h0⟩ | ⟨g, cap, cur, hv, _⟩
  · simp at hL; omega
  · have hlt := h.lt g (by rw [hv]; rfl)
    have hc := h.cells (g := g) (by rw [hv]; rfl)
    injection hv with h1 h2 h3
    refine ⟨g, h1, hlt.1, hlt.2, ?_⟩
    have fl := flat4_length pre
    have hf : flat4 (pre ++ e :: post) = flat4 pre ++ ([Value.int .i64 e.run, .int .i64 e.kind, .int .i64 e.id, .int .i64 e.since] ++ flat4 post) := by simp [flat4]
    rw [hf] at hc
    have a : ∀ j u, [Value.int .i64 e.run, .int .i64 e.kind, .int .i64 e.id, .int .i64 e.since][j]? = some u → w.cell? ⟨g, pre.length * 4 + j, none⟩ = some u := by
      intro j u hj
      have := hc (pre.length * 4 + j) u (by
        rw [List.getElem?_append_right (by omega), fl, show pre.length * 4 + j - pre.length * 4 = j by omega, List.getElem?_append_left (by have := (List.getElem?_eq_some_iff.1 hj).1; exact this)]
        exact hj)
      rw [Go.WideShapes.add_plain] at this
      simpa using this
    exact ⟨a 0 _ rfl, a 1 _ rfl, a 2 _ rfl, a 3 _ rfl⟩
/-- the place of a task, or -1 -/
def findI (l : List It) (r k i : Int) : Int := if l.any (isK · r k i) then (l.findIdx (isK · r k i) : Int) else -1
theorem findI_hit {pre post : List It} {e : It} {r k i : Int} (hn : pre.any (isK · r k i) = false) (he : isK e r k i = true) : findI (pre ++ e :: post) r k i = pre.length := by
  unfold findI
  rw [if_pos (by simp [he])]
  have : (pre ++ e :: post).findIdx (isK · r k i) = pre.length := by
    rw [List.findIdx_append, if_neg, List.findIdx_cons, he]
    · simp
    · intro h
      rw [List.findIdx_lt_length] at h
      obtain ⟨x, hx, hk⟩ := h
      have := (List.any_eq_false.1 hn) x hx
      exact this hk
  rw [this]
theorem findI_none {l : List It} {r k i : Int} (hn : l.any (isK · r k i) = false) : findI l r k i = -1 := by
  unfold findI; rw [if_neg (by rw [hn]; decide)]
def FindRel (W1 : World) (l : List It) (r k i : Int) (n : Value) (wr : World) : Prop :=
  ∃ pre post, l = pre ++ post ∧ n = .int .i64 pre.length ∧ pre.any (isK · r k i) = false ∧ Ext W1 wr
set_option maxRecDepth 100000 in
set_option maxHeartbeats 4000000 in
theorem find_any {w : World} {base : Nat} {v : Value} {l : List It} (hown : w.ownsRow base 51 4 v l.length (flat4 l)) (hlen : l.length ≤ 1000) (r k i : Int) :
    Calls Try.prog 14 #[v, taskV r k i] w fun e w' => e = .returned (.int .i64 (findI l r k i)) ∧ Ext w w' := by
  obtain ⟨p, c, rfl⟩ := ownsRow_slice hown
  have hE0 := ext_alloc w (.cells #[.int .i64 r, .int .i64 k, .int .i64 i] 32)
  have hB0 := Blk.new w 32 #[.int .i64 r, .int .i64 k, .int .i64 i]
  obtain ⟨L, hL⟩ : ∃ L, L = l.length := ⟨_, rfl⟩
  rw [← hL] at hown
  rw [← hL]
  have HL := Lib.hid hL
  clear hL
  go_enter Try.func14, Try.ntmps14
  go_wp2_with fail
  generalize World.alloc _ _ = W1 at *
  generalize w.heap.size = bx at *
  go_loopw [9] (fun n wr => FindRel W1 l r k i n wr) (fun n _ => ((l.length : Int) + 1 - intOf n).toNat)
  case atStart => exact ⟨[], l, rfl, rfl, rfl, Ext.refl _⟩
  case round =>
    obtain ⟨pre, post, hl, rfl, hn, hE⟩ := hrel
    have b0 := (hE.cell bx 0 hB0.lt).trans (hB0.cell 0)
    have b1 := (hE.cell bx 1 hB0.lt).trans (hB0.cell 1)
    have b2 := (hE.cell bx 2 hB0.lt).trans (hB0.cell 2)
    simp only [List.getElem?_toArray, List.getElem?_cons_zero, List.getElem?_cons_succ] at b0 b1 b2
    have hbl := Nat.lt_of_lt_of_le hB0.lt hE.le
    cases post with
    | nil =>
      have hx : l = pre := by simpa using hl
      subst hx
      have hnl : ¬ ((l.length : Int) < L) := by have := HL.out; omega
      have HF := Lib.hid (findI_none hn)
      clear hn hl
      go_wp2_with fail
      go_ret
      exact ⟨by rw [HF.out]; rfl, hE0.trans hE⟩
    | cons e post =>
      have hlt : (pre.length : Int) < L := by have := HL.out; rw [this, hl]; simp; omega
      rw [hl] at hown
      obtain ⟨g, rfl, -, hg2, x0, x1, x2, x3⟩ := flat4_cell (by rw [HL.out, hl]) (ownsRow_ext hown (hE0.trans hE))
      have HX := Lib.hid hl
      clear hl hB0
      by_cases he : isK e r k i = true
      · have HF := Lib.hid (findI_hit (post := post) hn he)
        obtain ⟨h1, h2, h3⟩ := isK_iff.1 he
        clear hn he
        rw [h1] at x0
        rw [h2] at x1
        rw [h3] at x2
        clear h1 h2 h3
        go_wp2_with fail
        go_ret
        rw [← HX.out] at HF
        exact ⟨by rw [HF.out]; rfl, (hE0.trans hE).alloc _⟩
      · have hL9 : L ≤ 1000 := by rw [HL.out]; exact hlen
        go_wp2_with fail
        all_goals first
          | exact absurd (isK_iff.2 ⟨by assumption, by assumption, by assumption⟩) he
          | (refine ⟨⟨pre ++ [e], post, by simp [HX.out], by simp, ?_, hE.alloc _⟩, by have := HL.out; simp [intOf]; omega⟩
             rw [List.any_append, hn]; simpa using he)
theorem heldInfo : (Try.prog.info? 51).map (fun i => (i.zero, i.size, i.bytes)) = some (some (.agg #[.int .i64 0, .int .i64 0, .int .i64 0, .int .i64 0]), 4, 32) := by kernel_rfl
theorem slice_to4 (X : World) (p : Option Addr) (n c k : Nat) (m : Int) (hm : m = k) (h : k ≤ c) : (Instr.sliceAt 46 (.slice p n c) none (some (.int .i64 m)) none).run Try.prog X = .ok (.slice p k c) X := by
  subst hm
  have ht : Try.prog.underlying 46 = some (.slice (Try.prog.elem 46)) := by kernel_rfl
  have hs : (sizeOf (Try.prog.elem 46)).run Try.prog X = .ok 4 X := by kernel_rfl
  rw [run_sliceAt_slice (w := X) _ _ _ _ _ ht, run_slice_h (w := X) _ p n c ht .i64 k (by omega) (by omega), hs]
  have h0 : p.map (·.add (0 * 4)) = p := by cases p <;> simp [Addr.add]
  simp [sliced, h0, Result.andThen]
theorem slice_from4 (X : World) (p : Option Addr) (n c k : Nat) (m : Int) (hm : m = k) (h : k ≤ n) : (Instr.sliceAt 46 (.slice p n c) (some (.int .i64 m)) none none).run Try.prog X = .ok (.slice (if c = k then p else p.map (·.add (k * 4))) (n - k) (c - k)) X := by
  subst hm
  have ht : Try.prog.underlying 46 = some (.slice (Try.prog.elem 46)) := by kernel_rfl
  have hs : (sizeOf (Try.prog.elem 46)).run Try.prog X = .ok 4 X := by kernel_rfl
  rw [run_sliceAt_slice (w := X) _ _ _ _ _ ht, run_slice_l (w := X) _ p n c ht .i64 k (by omega) (by omega), hs]
  simp [sliced, Result.andThen]
theorem without_no {w : World} (v : Value) : Calls Try.prog 15 #[v, .int .i64 (-1)] w fun e w' => e = .returned v ∧ w = w' := by
  go_enter Try.func15, Try.ntmps15
  go_wp2_with fail
  go_ret
  exact ⟨rfl, rfl⟩
set_option maxRecDepth 100000 in
set_option maxHeartbeats 4000000 in
theorem without_at {w : World} {v : Value} {pre post : List It} {x : It} {base : Nat} (hown : w.ownsRow base 51 4 v (pre ++ x :: post).length (flat4 (pre ++ x :: post))) (hlen : (pre ++ x :: post).length ≤ 1000) :
    Calls Try.prog 15 #[v, .int .i64 pre.length] w fun e w' => (∃ v', e = .returned v' ∧ w'.ownsRow w.heap.size 51 4 v' (pre ++ post).length (flat4 (pre ++ post))) ∧ Ext w w' := by
  obtain ⟨i0, hi0, hz0, hz1, hz2⟩ := info_parts heldInfo
  obtain ⟨p, c, rfl⟩ := ownsRow_slice hown
  obtain ⟨L, hL⟩ : ∃ L, L = (pre ++ x :: post).length := ⟨_, rfl⟩
  rw [← hL] at hown hlen ⊢
  have hLn : L = pre.length + 1 + post.length := by rw [hL]; simp; omega
  obtain ⟨g, rfl, -, hg2, -, -, -, -⟩ := flat4_cell hL hown
  have hcap : L ≤ c := by
    rcases hown.2 with ⟨hv, h0⟩ | ⟨g', cap, cur, hv, _, _, hc, _⟩
    · injection hv with h1; cases h1
    · injection hv with _ _ h3; rw [h3]; exact hc
  have hs1 := fun X => slice_to4 X (some ⟨g, 0, none⟩) L c pre.length (pre.length : Int) rfl (by omega)
  have hs2 := fun X => slice_from4 X (some ⟨g, 0, none⟩) L c (pre.length + 1) ((pre.length : Int) + 1) (by omega) (by omega)
  have hcells := hown.cells (g := g) rfl
  have hf : flat4 (pre ++ x :: post) = flat4 (pre ++ [x]) ++ flat4 post := by rw [← flat4_append]; simp
  have hfl := flat4_length (pre ++ [x])
  have fl := flat4_length pre
  have flp := flat4_length post
  have hn1 : ∀ a, some (⟨g, 0, none⟩ : Addr) = some a → ∀ j u, (flat4 pre)[j]? = some u → w.cell? (a.add j) = some u := by
    intro a ha j u hj
    injection ha with ha
    subst ha
    refine hcells j u ?_
    have : flat4 (pre ++ x :: post) = flat4 pre ++ flat4 (x :: post) := flat4_append _ _
    rw [this, List.getElem?_append_left (List.getElem?_eq_some_iff.1 hj).1]
    exact hj
  have hn2 : ∀ a, (if c = pre.length + 1 then some (⟨g, 0, none⟩ : Addr) else (some (⟨g, 0, none⟩ : Addr)).map (·.add ((pre.length + 1) * 4))) = some a → a.block = g ∧ ∀ j u, (flat4 post)[j]? = some u → w.cell? (a.add j) = some u := by
    intro a ha
    by_cases hc : c = pre.length + 1
    · rw [if_pos hc] at ha
      injection ha with ha
      subst ha
      have : post = [] := List.eq_nil_of_length_eq_zero (by omega)
      subst this
      exact ⟨rfl, fun j u hj => by simp [flat4] at hj⟩
    · rw [if_neg hc] at ha
      simp only [Option.map_some, Option.some.injEq] at ha
      subst ha
      refine ⟨by simp [Addr.add], fun j u hj => ?_⟩
      have := hcells ((pre.length + 1) * 4 + j) u (by
        rw [hf, List.getElem?_append_right (by simp at hfl; omega), hfl]
        simp only [List.length_append, List.length_cons, List.length_nil]
        rw [show (pre.length + 1) * 4 + j - (pre.length + (0 + 1)) * 4 = j by omega]
        exact hj)
      rw [Go.WideShapes.add_plain] at this
      rw [show ((⟨g, 0, none⟩ : Addr).add ((pre.length + 1) * 4)) = ⟨g, (pre.length + 1) * 4, none⟩ by rw [Go.WideShapes.add_plain]; simp, Go.WideShapes.add_plain]
      simpa using this
  obtain ⟨pp, hpp⟩ : ∃ pp, pp = (if c = pre.length + 1 then some (⟨g, 0, none⟩ : Addr) else (some (⟨g, 0, none⟩ : Addr)).map (·.add ((pre.length + 1) * 4))) := ⟨_, rfl⟩
  rw [← hpp] at hs2 hn2
  have hpn : pp = none → False := by
    intro h
    rw [h] at hpp
    split at hpp <;> simp at hpp
  have hm2 : L - (pre.length + 1) = post.length := by omega
  rw [hm2] at hs2
  have hlt1 : pre.length + 1 ≤ L := by omega
  have hE1 := ext_alloc w (.cells #[] 51)
  have hlit := World.ownsRow_made (base := 0) (e := 51) (size := 4) w #[] 0 (Nat.zero_le _) (by simp) rfl
  have hlen2 : pre.length + post.length ≤ 1000 := by omega
  clear hL hLn hpp hcells hf hfl hown hm2
  go_enter Try.func15, Try.ntmps15
  go_wp2_with fail
  have hne_ : Nonempty (Of (fun _ : World => True)) := trueOf_ne (W := by assumption)
  refine region_steps [1,2,3,5,6,7,8,0,4,9,10] [true,true,true,true,true,true,true,false,false,false,true] (fun _ : World => True) (by kernel_rfl) (by kernel_rfl) trivial ?_
  simp only [List.filterMap_cons, List.filterMap_nil, List.getElem?_cons_zero, List.getElem?_cons_succ]
  refine steps_quiet 7 (by kernel_rfl) ?_
  simp only [List.take_succ_cons, List.take_zero, List.drop_succ_cons, List.drop_zero]
  repeat (go_big_quiet_step (fail))
  refine wpQuiet_nil ?_
  refine steps_want rfl (fun K hK => ?_)
  go_simp
  refine hK _ _ (fun _ => True) trivial (fun _ _ => trivial) ?_
  clear hK K
  try simp only [Act.put, List.setIfInBounds_toArray, List.set_cons_succ, List.set_cons_zero]
  refine steps_want rfl (fun K hK => ?_)
  refine wp_append_new _ _ 46 rfl 51 i0 (.agg #[.int .i64 0, .int .i64 0, .int .i64 0, .int .i64 0]) 4 32 Try.underlying46 hi0 hz0 hz1 hz2 rfl (by decide) (.slice (some ⟨w.heap.size, 0, none⟩) 0 0) 0 [] rfl (World.ownsRow.drew hlit) (some ⟨g, 0, none⟩) pre.length c (flat4 pre) rfl fl (fun h => nomatch h) ?_ (flat4_one pre) (by unfold maxLen; omega) (by omega) ?_
  · intro a ha j u hj
    have hab : (a.add j).block = g := by injection ha with ha; subst ha; unfold Addr.add; first | rfl | (split <;> rfl)
    exact (World.cell?_of_block (w := w) (a := a.add j) (hE1.drew.block _ (by rw [hab]; exact hg2))).trans (hn1 a ha j u hj)
  intro v3 w3 hown3 hg3 hf3
  have hE3 : Ext w w3 := hE1.drew.grown hg3 (Nat.le_of_lt (by simp)) (fun k hk => Nat.le_of_eq (by simpa [Value.ownBlock] using hk))
  refine hK _ _ (fun _ => True) trivial (fun _ _ => trivial) ?_
  clear hK K
  try simp only [Act.put, List.setIfInBounds_toArray, List.set_cons_succ, List.set_cons_zero]
  refine steps_want rfl (fun K hK => ?_)
  refine wp_append_new _ _ 46 rfl 51 i0 (.agg #[.int .i64 0, .int .i64 0, .int .i64 0, .int .i64 0]) 4 32 Try.underlying46 hi0 hz0 hz1 hz2 rfl (by decide) v3 _ _ rfl hown3 pp post.length (c - (pre.length + 1)) (flat4 post) rfl flp (fun h => (hpn h).elim) ?_ (flat4_one post) (by unfold maxLen; omega) (by omega) ?_
  · intro a ha j u hj
    have hab : (a.add j).block = g := by rw [← (hn2 a ha).1]; unfold Addr.add; first | rfl | (split <;> rfl)
    exact (World.cell?_of_block (w := w) (a := a.add j) (hE3.block _ (by rw [hab]; exact hg2))).trans ((hn2 a ha).2 j u hj)
  intro v4 w4 hown4 hg4 hf4
  have hb3 : ∀ k, v3.ownBlock = some k → w.heap.size ≤ k := fun k hk => by
    rcases hf3.1 k hk with h1 | h1
    · simp [Value.ownBlock] at h1; omega
    · simp at h1; omega
  have hb4 : ∀ k, v4.ownBlock = some k → w.heap.size ≤ k := fun k hk => by
    rcases hf4.1 k hk with h1 | h1
    · exact hb3 k h1
    · exact Nat.le_trans hE3.le h1
  have hE4 : Ext w w4 := hE3.grown hg4 hE3.le hb3
  have hown5 : w4.ownsRow w.heap.size 51 4 v4 (pre ++ post).length (flat4 (pre ++ post)) := by
    have := ownsRow_base (b' := w.heap.size) hown4 hb4
    rw [flat4_append, List.length_append]
    simpa using this
  refine hK _ _ (fun _ => True) trivial (fun _ _ => trivial) ?_
  clear hK K
  try simp only [Act.put, List.setIfInBounds_toArray, List.set_cons_succ, List.set_cons_zero]
  refine steps_quiet 1 (by kernel_rfl) ?_
  simp only [List.take_succ_cons, List.take_zero, List.drop_succ_cons, List.drop_zero]
  repeat (go_big_quiet_step (fail))
  refine wpQuiet_nil ?_
  refine steps_nil ?_
  go_wp2_with fail
  go_ret
  exact ⟨⟨v4, rfl, hown5⟩, hE4⟩
theorem news_blk {X : World} {bb : Nat} {ty : TypeId} {cs : List Value} (h : Blk X bb ty cs.toArray) : ∀ a, some (⟨bb, 0, none⟩ : Addr) = some a → ∀ j u, cs[j]? = some u → X.cell? (a.add j) = some u := by
  intro a ha j u hj
  injection ha with ha
  subst ha
  rw [Go.WideShapes.add_plain, Nat.zero_add, h.cell]
  simpa using hj
theorem fresh_ext {W0 W X : World} {v v' : Value} (hE : Ext W0 W) (hv : ∀ k, v.ownBlock = some k → W0.heap.size ≤ k) (hg : W.grownBy X v.ownBlock) (hf : Fresh W v v') : Ext W0 X ∧ ∀ k, v'.ownBlock = some k → W0.heap.size ≤ k := by
  refine ⟨hE.grown hg hE.le hv, fun k hk => ?_⟩
  rcases hf.1 k hk with h1 | h1
  · exact hv k h1
  · exact Nat.le_trans hE.le h1
/-- the row grew -/
theorem row_next {W W2 W' : World} {F : Nat → Prop} {v v' : Value} {l l' : List It} (h : lA v l W F) (hE : Ext W W2) (hg : W2.grownBy W' v.ownBlock) (hf : Fresh W2 v v') (ho : W'.ownsRow 0 51 4 v' l'.length (flat4 l')) : Next F W W' (lA v' l') := by
  obtain ⟨h1, rfl⟩ := h
  refine ⟨_, ⟨ho, rfl⟩, (Tch.of_ext hE).trans (grownBy.tch hg) (fun _ h _ => h), fun k hk => ?_⟩
  rcases hf.1 k hk with h2 | h2
  · exact Or.inl h2
  · exact Or.inr (Nat.le_trans hE.le h2)
theorem others_none {l : List It} {r k i : Int} (h : l.any (isK · r k i) = false) : others l r k i = l :=
  List.filter_eq_self.2 fun a ha => by rw [Bool.eq_false_iff.2 ((List.any_eq_false.1 h) a ha)]; rfl
/-- a new row in the place of the one of old -/
theorem Has.newrow {w W W' : World} {ps : List Asr} {v v' : Value} {l l' : List It} (h : Has w W (lA v l :: ps)) (hl : Locs ps) (hE : Ext W W') (ho : W'.ownsRow W.heap.size 51 4 v' l'.length (flat4 l')) : Has w W' (lA v' l' :: ps) :=
  h.drop.add hl hE (F := fun k => v'.ownBlock = some k) ⟨ownsRow_base ho (fun _ _ => Nat.zero_le _), rfl⟩ (fun k hk => (ho.lt k hk).1)
theorem split_first {l : List It} {r k i : Int} (h : l.any (isK · r k i) = true) : ∃ pre x post, l = pre ++ x :: post ∧ pre.any (isK · r k i) = false ∧ isK x r k i = true := by
  induction l with
  | nil => simp at h
  | cons y l ih =>
    by_cases hy : isK y r k i = true
    · exact ⟨[], y, l, rfl, rfl, hy⟩
    · obtain ⟨pre, x, post, rfl, h1, h2⟩ := ih (by simpa [hy] using h)
      exact ⟨y :: pre, x, post, rfl, by simpa [hy] using h1, h2⟩
theorem findI_pos {l : List It} {r k i : Int} (h : l.any (isK · r k i) = true) : 0 ≤ findI l r k i := by
  unfold findI; rw [if_pos h]; omega
end Go.Proofs.Ytkpdhciomfanoaa
