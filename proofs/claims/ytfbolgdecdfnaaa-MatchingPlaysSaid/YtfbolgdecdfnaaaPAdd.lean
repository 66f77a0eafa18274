/- The document's matches: the tasks that wait but one; a task more. -/
import Derived.Test.YtfbolgdecdfnaaaPRef
import Derived.Lib.SliceRun
import Derived.Test.YtfbolgdecdfnaaaStepsZ
namespace Go.Proofs.Ytfbolgdecdfnaaa
set_option maxRecDepth 4000
set_option linter.unusedVariables false
set_option linter.unusedSimpArgs false
open Go Go.RowKit Go.Maps Go.ChangeMaps Go.MapKept
theorem slice_to5 (X : World) (p : Option Addr) (n c k : Nat) (m : Int) (hm : m = k) (h : k ≤ c) : (Instr.sliceAt 63 (.slice p n c) none (some (.int .i64 m)) none).run Try.prog X = .ok (.slice p k c) X := by
  subst hm
  have ht : Try.prog.underlying 63 = some (.slice (Try.prog.elem 63)) := by kernel_rfl
  have hs : (sizeOf (Try.prog.elem 63)).run Try.prog X = .ok 5 X := by kernel_rfl
  rw [run_sliceAt_slice (w := X) _ _ _ _ _ ht, run_slice_h (w := X) _ p n c ht .i64 k (by omega) (by omega), hs]
  have h0 : p.map (·.add (0 * 5)) = p := by cases p <;> simp [Addr.add]
  simp [sliced, h0, Result.andThen]
theorem slice_from5 (X : World) (p : Option Addr) (n c k : Nat) (m : Int) (hm : m = k) (h : k ≤ n) : (Instr.sliceAt 63 (.slice p n c) (some (.int .i64 m)) none none).run Try.prog X = .ok (.slice (if c = k then p else p.map (·.add (k * 5))) (n - k) (c - k)) X := by
  subst hm
  have ht : Try.prog.underlying 63 = some (.slice (Try.prog.elem 63)) := by kernel_rfl
  have hs : (sizeOf (Try.prog.elem 63)).run Try.prog X = .ok 5 X := by kernel_rfl
  rw [run_sliceAt_slice (w := X) _ _ _ _ _ ht, run_slice_l (w := X) _ p n c ht .i64 k (by omega) (by omega), hs]
  simp [sliced, Result.andThen]
set_option maxRecDepth 100000 in
set_option maxHeartbeats 4000000 in
theorem without_at {w : World} {v : Value} {pre post : List Hd} {x : Hd} {base : Nat} (hown : w.ownsRow base 95 5 v (pre ++ x :: post).length (flatH (pre ++ x :: post))) (hlen : (pre ++ x :: post).length ≤ 1000) :
    Calls Try.prog 41 #[v, .int .i64 pre.length] w fun e w' => (∃ v', e = .returned v' ∧ w'.ownsRow w.heap.size 95 5 v' (pre ++ post).length (flatH (pre ++ post))) ∧ Ext w w' := by
  obtain ⟨i0, hi0, hz0, hz1, hz2⟩ := info_parts6 hdInfo5
  obtain ⟨p, c, rfl⟩ := ownsRow_slice hown
  obtain ⟨L, hL⟩ : ∃ L, L = (pre ++ x :: post).length := ⟨_, rfl⟩
  rw [← hL] at hown hlen ⊢
  have hLn : L = pre.length + 1 + post.length := by rw [hL]; simp; omega
  obtain ⟨g, rfl, -, hg2, -⟩ := held_at hL hown
  have hcap : L ≤ c := by
    rcases hown.2 with ⟨hv, h0⟩ | ⟨g', cap, cur, hv, _, _, hc, _⟩
    · injection hv with h1; cases h1
    · injection hv with _ _ h3; rw [h3]; exact hc
  have hs1 := fun X => slice_to5 X (some ⟨g, 0, none⟩) L c pre.length (pre.length : Int) rfl (by omega)
  have hs2 := fun X => slice_from5 X (some ⟨g, 0, none⟩) L c (pre.length + 1) ((pre.length : Int) + 1) (by omega) (by omega)
  have hcells := hown.cells (g := g) rfl
  have hf : flatH (pre ++ x :: post) = flatH (pre ++ [x]) ++ flatH post := by rw [← flatH_append]; simp
  have hfl := flatH_length (pre ++ [x])
  have fl := flatH_length pre
  have flp := flatH_length post
  have hn1 : ∀ a, some (⟨g, 0, none⟩ : Addr) = some a → ∀ j u, (flatH pre)[j]? = some u → w.cell? (a.add j) = some u := by
    intro a ha j u hj
    injection ha with ha
    subst ha
    refine hcells j u ?_
    have : flatH (pre ++ x :: post) = flatH pre ++ flatH (x :: post) := flatH_append _ _
    rw [this, List.getElem?_append_left (List.getElem?_eq_some_iff.1 hj).1]
    exact hj
  have hn2 : ∀ a, (if c = pre.length + 1 then some (⟨g, 0, none⟩ : Addr) else (some (⟨g, 0, none⟩ : Addr)).map (·.add ((pre.length + 1) * 5))) = some a → a.block = g ∧ ∀ j u, (flatH post)[j]? = some u → w.cell? (a.add j) = some u := by
    intro a ha
    by_cases hc : c = pre.length + 1
    · rw [if_pos hc] at ha
      injection ha with ha
      subst ha
      have : post = [] := List.eq_nil_of_length_eq_zero (by omega)
      subst this
      exact ⟨rfl, fun j u hj => by simp [flatH] at hj⟩
    · rw [if_neg hc] at ha
      simp only [Option.map_some, Option.some.injEq] at ha
      subst ha
      refine ⟨by simp [Addr.add], fun j u hj => ?_⟩
      have := hcells ((pre.length + 1) * 5 + j) u (by
        rw [hf, List.getElem?_append_right (by simp at hfl; omega), hfl]
        simp only [List.length_append, List.length_cons, List.length_nil]
        rw [show (pre.length + 1) * 5 + j - (pre.length + (0 + 1)) * 5 = j by omega]
        exact hj)
      rw [Go.WideShapes.add_plain] at this
      rw [show ((⟨g, 0, none⟩ : Addr).add ((pre.length + 1) * 5)) = ⟨g, (pre.length + 1) * 5, none⟩ by rw [Go.WideShapes.add_plain]; simp, Go.WideShapes.add_plain]
      simpa using this
  obtain ⟨pp, hpp⟩ : ∃ pp, pp = (if c = pre.length + 1 then some (⟨g, 0, none⟩ : Addr) else (some (⟨g, 0, none⟩ : Addr)).map (·.add ((pre.length + 1) * 5))) := ⟨_, rfl⟩
  rw [← hpp] at hs2 hn2
  have hpn : pp = none → False := by
    intro h
    rw [h] at hpp
    split at hpp <;> simp at hpp
  have hm2 : L - (pre.length + 1) = post.length := by omega
  rw [hm2] at hs2
  have hlt1 : pre.length + 1 ≤ L := by omega
  have hE1 := ext_alloc w (.cells #[] 95)
  have hlit := World.ownsRow_made (base := 0) (e := 95) (size := 5) w #[] 0 (Nat.zero_le _) (by simp) rfl
  have hlen2 : pre.length + post.length ≤ 1000 := by omega
  clear hL hLn hpp hcells hf hfl hown hm2
  go_enter Try.func41, Try.ntmps41
  go_wp2_with fail
  have hne_ : Nonempty (Of (fun _ : World => True)) := trueOf_ne (W := by assumption)
  refine region_steps [1,2,3,5,6,7,8,0,4,9,10] [true,true,true,true,true,true,true,false,false,false,true] (fun _ : World => True) (by kernel_rfl) (by kernel_rfl) trivial ?_
  simp only [List.filterMap_cons, List.filterMap_nil, List.getElem?_cons_zero, List.getElem?_cons_succ]
  refine steps_quiet 7 (by kernel_rfl) ?_
  simp only [List.take_succ_cons, List.take_zero, List.drop_succ_cons, List.drop_zero]
  repeat (go_big_quiet_step (fail))
  refine wpQuiet_nil ?_
  refine steps_want rfl (fun K hK => ?_)
  go_simp
  refine hK _ _ (fun _ => True) trivial (fun _ _ => trivial) ?_
  clear hK K
  try simp only [Act.put, List.setIfInBounds_toArray, List.set_cons_succ, List.set_cons_zero]
  refine steps_want rfl (fun K hK => ?_)
  refine wp_append_new _ _ 63 rfl 95 i0 (.agg (hdA zeroH)) 5 40 Try.underlying63 hi0 hz0 hz1 hz2 rfl (by decide) (.slice (some ⟨w.heap.size, 0, none⟩) 0 0) 0 [] rfl (World.ownsRow.drew hlit) (some ⟨g, 0, none⟩) pre.length c (flatH pre) rfl fl (fun h => nomatch h) ?_ flatH_one (by unfold maxLen; omega) (by omega) ?_
  · intro a ha j u hj
    have hab : (a.add j).block = g := by injection ha with ha; subst ha; unfold Addr.add; first | rfl | (split <;> rfl)
    exact (World.cell?_of_block (w := w) (a := a.add j) (hE1.drew.block _ (by rw [hab]; exact hg2))).trans (hn1 a ha j u hj)
  intro v3 w3 hown3 hg3 hf3
  have hE3 : Ext w w3 := hE1.drew.grown hg3 (Nat.le_of_lt (by simp)) (fun k hk => Nat.le_of_eq (by simpa [Value.ownBlock] using hk))
  refine hK _ _ (fun _ => True) trivial (fun _ _ => trivial) ?_
  clear hK K
  try simp only [Act.put, List.setIfInBounds_toArray, List.set_cons_succ, List.set_cons_zero]
  refine steps_want rfl (fun K hK => ?_)
  refine wp_append_new _ _ 63 rfl 95 i0 (.agg (hdA zeroH)) 5 40 Try.underlying63 hi0 hz0 hz1 hz2 rfl (by decide) v3 _ _ rfl hown3 pp post.length (c - (pre.length + 1)) (flatH post) rfl flp (fun h => (hpn h).elim) ?_ flatH_one (by unfold maxLen; omega) (by omega) ?_
  · intro a ha j u hj
    have hab : (a.add j).block = g := by rw [← (hn2 a ha).1]; unfold Addr.add; first | rfl | (split <;> rfl)
    exact (World.cell?_of_block (w := w) (a := a.add j) (hE3.block _ (by rw [hab]; exact hg2))).trans ((hn2 a ha).2 j u hj)
  intro v4 w4 hown4 hg4 hf4
  have hb3 : ∀ k, v3.ownBlock = some k → w.heap.size ≤ k := fun k hk => by
    rcases hf3.1 k hk with h1 | h1
    · simp [Value.ownBlock] at h1; omega
    · simp at h1; omega
  have hb4 : ∀ k, v4.ownBlock = some k → w.heap.size ≤ k := fun k hk => by
    rcases hf4.1 k hk with h1 | h1
    · exact hb3 k h1
    · exact Nat.le_trans hE3.le h1
  have hE4 : Ext w w4 := hE3.grown hg4 hE3.le hb3
  have hown5 : w4.ownsRow w.heap.size 95 5 v4 (pre ++ post).length (flatH (pre ++ post)) := by
    have := ownsRow_base (b' := w.heap.size) hown4 hb4
    rw [flatH_append, List.length_append]
    simpa using this
  refine hK _ _ (fun _ => True) trivial (fun _ _ => trivial) ?_
  clear hK K
  try simp only [Act.put, List.setIfInBounds_toArray, List.set_cons_succ, List.set_cons_zero]
  refine steps_quiet 1 (by kernel_rfl) ?_
  simp only [List.take_succ_cons, List.take_zero, List.drop_succ_cons, List.drop_zero]
  repeat (go_big_quiet_step (fail))
  refine wpQuiet_nil ?_
  refine steps_nil ?_
  go_wp2_with fail
  go_ret
  exact ⟨⟨v4, rfl, hown5⟩, hE4⟩
theorem news_blk {X : World} {bb : Nat} {ty : TypeId} {cs : List Value} (h : Blk X bb ty cs.toArray) : ∀ a, some (⟨bb, 0, none⟩ : Addr) = some a → ∀ j u, cs[j]? = some u → X.cell? (a.add j) = some u := by
  intro a ha j u hj
  injection ha with ha
  subst ha
  rw [Go.WideShapes.add_plain, Nat.zero_add, h.cell]
  simpa using hj
theorem rwInfo : (Try.prog.info? 65).map (·.size) = some 3 := by kernel_rfl
abbrev rwA (vw vl : Value) (t : Int) : Array Value := #[vw, vl, .int .u64 t]
theorem rwA_all (pw pl : Option Addr) (a b c d : Nat) (t : Int) : (rwA (.slice pw a b) (.slice pl c d) t).all (·.oneCell') = true := by simp [Value.oneCell']
theorem results_cell2' {P : Program} {fn : Func} {p q : Tmp} {ty : TypeId} (h : fn.results = #[.cell p ty, .tmp q]) (tmps : Array Value) (w : World) (g : Nat) (t : TypeId) (cs : Array Value) (fr : Nat × Nat) (d : TypeDesc)
    (hp : tmps.getD p undef = .pointer (some ⟨g, 0, none⟩)) (hg : w.heap[g]? = some (.cells cs t fr))
    (hu : P.underlying ty = some d) (hd : (match d with | .struct _ | .array _ _ => true | _ => false) = true) (hi : (P.info? ty).map (·.size) = some cs.size) :
    (results fn tmps).run P w = .ok (.tuple #[.agg cs, tmps.getD q undef]) w := results_cell2 h tmps w g t cs fr d hp hg hu hd hi
def raddE (ws : List Hd) (ls : List Ls) (r k i z : Int) : Int := if rknown ws ls r k i = true then 5 else if z < 0 ∨ 64 < z then 1 else if 128 ≤ rcount ws z then 3 else 0
def radd (ws : List Hd) (ls : List Ls) (r k i z now : Int) : List Hd := if raddE ws ls r k i z = 0 then ws ++ [⟨r, k, i, z, now⟩] else ws
/-- the rows behind a call: those that were, or new ones -/
def Rows' (W W' : World) (vw vl vw' : Value) : Prop := ∀ g, vw'.ownBlock = some g → vw.ownBlock = some g ∨ vl.ownBlock = some g ∨ W.heap.size ≤ g
def RAdded (W : World) (vw vl : Value) (t : Int) (ws : List Hd) (ls : List Ls) (r k i z now : Int) (e : Ending) (W' : World) : Prop :=
  ∃ vw', e = .returned (.tuple #[rwV vw' vl t, .int .i64 (raddE ws ls r k i z)]) ∧ RRows W' vw' (radd ws ls r k i z now) vl ls ∧ Ext W W' ∧ Rows' W W' vw vl vw'
set_option maxRecDepth 100000 in
set_option maxHeartbeats 4000000 in
theorem radd_any (W : World) (vw vl : Value) (t : Int) (ws : List Hd) (ls : List Ls) (r k i z now : Int) (h : RRows W vw ws vl ls) (hw : ws.length ≤ 900) (hl : ls.length ≤ 1000) :
    Calls Try.prog 16 #[rwV vw vl t, taskV r k i, .int .i64 z, .int .i64 now] W fun e W' => RAdded W vw vl t ws ls r k i z now e W' := by
  have hR := h
  have hX := hm_blk (hm_blk (hm_blk (Has.nil (Ext.refl W)) .nil 65 #[vw, vl, .int .u64 t]) (by repeat first | exact Locs.nil | refine Locs.cons (mP_loc _ _) ?_ | refine Locs.cons (blkA_loc _ _ _) ?_ | refine Locs.cons (rowA_loc _ _ _ _ _) ?_) 42 #[.int .i64 r, .int .i64 k, .int .i64 i]) (by repeat first | exact Locs.nil | refine Locs.cons (mP_loc _ _) ?_ | refine Locs.cons (blkA_loc _ _ _) ?_ | refine Locs.cons (rowA_loc _ _ _ _ _) ?_) 65 #[.slice none 0 0, .slice none 0 0, .int .u64 0]
  have ea : ∀ (w : World) (o : Obj), (w.alloc o).heap.size = w.heap.size + 1 := fun w o => by simp
  rw [ea, ea] at hX
  clear ea
  obtain ⟨pw, cw, rfl⟩ := ownsRow_slice h.w
  obtain ⟨pl, cl, rfl⟩ := ownsRow_slice h.l
  obtain ⟨L, hL⟩ : ∃ n, ws.length = n := ⟨_, rfl⟩
  obtain ⟨M, hM⟩ : ∃ n, ls.length = n := ⟨_, rfl⟩
  rw [hL] at hX hw hR ⊢
  rw [hM] at hX hl hR ⊢
  have HL := Lib.hid hL
  have HM := Lib.hid hM
  obtain ⟨kn, hkn⟩ : ∃ b, rknown ws ls r k i = b := ⟨_, rfl⟩
  have HKN := Lib.hid hkn
  clear hL hM hkn h
  go_enter Try.func16, Try.ntmps16
  go_upto_region 1 with fail
  generalize hw0 : World.alloc (World.alloc (World.alloc W _) _) _ = w1 at *
  generalize hbxn : W.heap.size = bx at *
  have HBX := Lib.hid hbxn
  clear hw0 hbxn
  have hbw := hX.blk (g := bx) (T := 65) (cs := #[.slice pw L cw, .slice pl M cl, .int .u64 t]) (by simp)
  have hbt := hX.blk (g := bx + 1) (T := 42) (cs := #[.int .i64 r, .int .i64 k, .int .i64 i]) (by simp)
  have a0 : World.cell? w1 ⟨bx, 0, none⟩ = some (.slice pw L cw) := hbw.cell 0
  have a1 : World.cell? w1 ⟨bx, 1, none⟩ = some (.slice pl M cl) := hbw.cell 1
  have a2 : World.cell? w1 ⟨bx, 2, none⟩ = some (.int .u64 t) := hbw.cell 2
  have b0 : World.cell? w1 ⟨bx + 1, 0, none⟩ = some (.int .i64 r) := hbt.cell 0
  have b1 : World.cell? w1 ⟨bx + 1, 1, none⟩ = some (.int .i64 k) := hbt.cell 1
  have b2 : World.cell? w1 ⟨bx + 1, 2, none⟩ = some (.int .i64 i) := hbt.cell 2
  go_wp2_with fail
  refine (rknown_any w1 (.slice pw L cw) (.slice pl M cl) t ws ls r k i (hR.ext hX.base) (by have := HL.out; omega) (by have := HM.out; omega)).mono ?_
  clear a0 a1 a2 b0 b1 b2
  rintro e w2 ⟨rfl, hE2⟩
  replace hX := hX.ext (by repeat first | exact Locs.nil | refine Locs.cons (mP_loc _ _) ?_ | refine Locs.cons (blkA_loc _ _ _) ?_ | refine Locs.cons (rowA_loc _ _ _ _ _) ?_) hE2
  rw [HKN.out]
  clear hE2
  cases kn with
  | true =>
    have HE : Hid (raddE ws ls r k i z = 5) := Lib.hid (by rw [raddE, if_pos HKN.out])
    have hbw := hX.blk (g := bx) (T := 65) (cs := #[.slice pw L cw, .slice pl M cl, .int .u64 t]) (by simp)
    have hbt := hX.blk (g := bx + 1) (T := 42) (cs := #[.int .i64 r, .int .i64 k, .int .i64 i]) (by simp)
    have a0 : World.cell? w2 ⟨bx, 0, none⟩ = some (.slice pw L cw) := hbw.cell 0
    have a1 : World.cell? w2 ⟨bx, 1, none⟩ = some (.slice pl M cl) := hbw.cell 1
    have a2 : World.cell? w2 ⟨bx, 2, none⟩ = some (.int .u64 t) := hbw.cell 2
    have b0 : World.cell? w2 ⟨bx + 1, 0, none⟩ = some (.int .i64 r) := hbt.cell 0
    have b1 : World.cell? w2 ⟨bx + 1, 1, none⟩ = some (.int .i64 k) := hbt.cell 1
    have b2 : World.cell? w2 ⟨bx + 1, 2, none⟩ = some (.int .i64 i) := hbt.cell 2
    have hbr := hX.blk (g := (bx + 1 + 1)) (T := 65) (cs := #[.slice none 0 0, .slice none 0 0, .int .u64 0]) (by simp)
    have hbr' := setRow_blk (cs := rwA (.slice pw L cw) (.slice pl M cl) t) hbr
    go_wp2_with (refine wpList_store_row rfl _ _ _ rfl (bx + 1 + 1) (rwA (.slice pw L cw) (.slice pl M cl) t) rfl rfl _ _ hbr rwInfo rfl (rwA_all _ _ _ _ _ _ _) ?_)
    have hEf := setRow_ext' (cs := rwA (.slice pw L cw) (.slice pl M cl) t) hX.base (show W.heap.size ≤ bx + 1 + 1 by have := HBX.out; omega)
    refine bodyPost_ret (v := .tuple #[rwV (.slice pw L cw) (.slice pl M cl) t, .int .i64 5]) (results_cell2 Try.results16 _ _ (bx + 1 + 1) 65 (rwA (.slice pw L cw) (.slice pl M cl) t) _ _ rfl hbr' Try.underlying65 rfl rwInfo) rfl ⟨_, by rw [HE.out], ?_, hEf, fun g hg => Or.inl hg⟩
    rw [radd, if_neg (by rw [HE.out]; decide)]
    exact hR.ext hEf
  | false =>
    have hkf : ¬ rknown ws ls r k i = true := by rw [HKN.out]; decide
    have HKF := Lib.hid hkf
    clear hkf
    by_cases hz1 : z < 0
    · have HE : Hid (raddE ws ls r k i z = 1) := Lib.hid (by rw [raddE, if_neg HKF.out, if_pos (Or.inl hz1)])
      have hbw := hX.blk (g := bx) (T := 65) (cs := #[.slice pw L cw, .slice pl M cl, .int .u64 t]) (by simp)
      have hbt := hX.blk (g := bx + 1) (T := 42) (cs := #[.int .i64 r, .int .i64 k, .int .i64 i]) (by simp)
      have a0 : World.cell? w2 ⟨bx, 0, none⟩ = some (.slice pw L cw) := hbw.cell 0
      have a1 : World.cell? w2 ⟨bx, 1, none⟩ = some (.slice pl M cl) := hbw.cell 1
      have a2 : World.cell? w2 ⟨bx, 2, none⟩ = some (.int .u64 t) := hbw.cell 2
      have b0 : World.cell? w2 ⟨bx + 1, 0, none⟩ = some (.int .i64 r) := hbt.cell 0
      have b1 : World.cell? w2 ⟨bx + 1, 1, none⟩ = some (.int .i64 k) := hbt.cell 1
      have b2 : World.cell? w2 ⟨bx + 1, 2, none⟩ = some (.int .i64 i) := hbt.cell 2
      have hbr := hX.blk (g := (bx + 1 + 1)) (T := 65) (cs := #[.slice none 0 0, .slice none 0 0, .int .u64 0]) (by simp)
      have hbr' := setRow_blk (cs := rwA (.slice pw L cw) (.slice pl M cl) t) hbr
      go_wp2_with (refine wpList_store_row rfl _ _ _ rfl (bx + 1 + 1) (rwA (.slice pw L cw) (.slice pl M cl) t) rfl rfl _ _ hbr rwInfo rfl (rwA_all _ _ _ _ _ _ _) ?_)
      have hEf := setRow_ext' (cs := rwA (.slice pw L cw) (.slice pl M cl) t) hX.base (show W.heap.size ≤ bx + 1 + 1 by have := HBX.out; omega)
      refine bodyPost_ret (v := .tuple #[rwV (.slice pw L cw) (.slice pl M cl) t, .int .i64 1]) (results_cell2 Try.results16 _ _ (bx + 1 + 1) 65 (rwA (.slice pw L cw) (.slice pl M cl) t) _ _ rfl hbr' Try.underlying65 rfl rwInfo) rfl ⟨_, by rw [HE.out], ?_, hEf, fun g hg => Or.inl hg⟩
      rw [radd, if_neg (by rw [HE.out]; decide)]
      exact hR.ext hEf
    by_cases hz2 : 64 < z
    · have HE : Hid (raddE ws ls r k i z = 1) := Lib.hid (by rw [raddE, if_neg HKF.out, if_pos (Or.inr hz2)])
      have hbw := hX.blk (g := bx) (T := 65) (cs := #[.slice pw L cw, .slice pl M cl, .int .u64 t]) (by simp)
      have hbt := hX.blk (g := bx + 1) (T := 42) (cs := #[.int .i64 r, .int .i64 k, .int .i64 i]) (by simp)
      have a0 : World.cell? w2 ⟨bx, 0, none⟩ = some (.slice pw L cw) := hbw.cell 0
      have a1 : World.cell? w2 ⟨bx, 1, none⟩ = some (.slice pl M cl) := hbw.cell 1
      have a2 : World.cell? w2 ⟨bx, 2, none⟩ = some (.int .u64 t) := hbw.cell 2
      have b0 : World.cell? w2 ⟨bx + 1, 0, none⟩ = some (.int .i64 r) := hbt.cell 0
      have b1 : World.cell? w2 ⟨bx + 1, 1, none⟩ = some (.int .i64 k) := hbt.cell 1
      have b2 : World.cell? w2 ⟨bx + 1, 2, none⟩ = some (.int .i64 i) := hbt.cell 2
      have hbr := hX.blk (g := (bx + 1 + 1)) (T := 65) (cs := #[.slice none 0 0, .slice none 0 0, .int .u64 0]) (by simp)
      have hbr' := setRow_blk (cs := rwA (.slice pw L cw) (.slice pl M cl) t) hbr
      go_wp2_with (refine wpList_store_row rfl _ _ _ rfl (bx + 1 + 1) (rwA (.slice pw L cw) (.slice pl M cl) t) rfl rfl _ _ hbr rwInfo rfl (rwA_all _ _ _ _ _ _ _) ?_)
      have hEf := setRow_ext' (cs := rwA (.slice pw L cw) (.slice pl M cl) t) hX.base (show W.heap.size ≤ bx + 1 + 1 by have := HBX.out; omega)
      refine bodyPost_ret (v := .tuple #[rwV (.slice pw L cw) (.slice pl M cl) t, .int .i64 1]) (results_cell2 Try.results16 _ _ (bx + 1 + 1) 65 (rwA (.slice pw L cw) (.slice pl M cl) t) _ _ rfl hbr' Try.underlying65 rfl rwInfo) rfl ⟨_, by rw [HE.out], ?_, hEf, fun g hg => Or.inl hg⟩
      rw [radd, if_neg (by rw [HE.out]; decide)]
      exact hR.ext hEf
    have hbw := hX.blk (g := bx) (T := 65) (cs := #[.slice pw L cw, .slice pl M cl, .int .u64 t]) (by simp)
    have hbt := hX.blk (g := bx + 1) (T := 42) (cs := #[.int .i64 r, .int .i64 k, .int .i64 i]) (by simp)
    have a0 : World.cell? w2 ⟨bx, 0, none⟩ = some (.slice pw L cw) := hbw.cell 0
    have a1 : World.cell? w2 ⟨bx, 1, none⟩ = some (.slice pl M cl) := hbw.cell 1
    have a2 : World.cell? w2 ⟨bx, 2, none⟩ = some (.int .u64 t) := hbw.cell 2
    have b0 : World.cell? w2 ⟨bx + 1, 0, none⟩ = some (.int .i64 r) := hbt.cell 0
    have b1 : World.cell? w2 ⟨bx + 1, 1, none⟩ = some (.int .i64 k) := hbt.cell 1
    have b2 : World.cell? w2 ⟨bx + 1, 2, none⟩ = some (.int .i64 i) := hbt.cell 2
    go_wp2_with fail
    refine (rcount_any w2 (.slice pw L cw) (.slice pl M cl) t ws ls z (hR.ext hX.base) (by have := HL.out; omega)).mono ?_
    clear a0 a1 a2 b0 b1 b2
    rintro e w3 ⟨rfl, hE3⟩
    replace hX := hX.ext (by repeat first | exact Locs.nil | refine Locs.cons (mP_loc _ _) ?_ | refine Locs.cons (blkA_loc _ _ _) ?_ | refine Locs.cons (rowA_loc _ _ _ _ _) ?_) hE3
    clear hE3
    obtain ⟨n, hn⟩ : ∃ n, rcount ws z = n := ⟨_, rfl⟩
    have hnL : n ≤ L := by rw [← hn, ← HL.out]; exact List.countP_le_length
    have HN := Lib.hid hn
    rw [hn]
    clear hn
    have hzz : ¬ (z < 0 ∨ 64 < z) := by omega
    by_cases hc : (128 : Int) ≤ n
    · have HE : Hid (raddE ws ls r k i z = 3) := Lib.hid (by rw [raddE, if_neg HKF.out, if_neg hzz, if_pos (by rw [HN.out]; omega)])
      clear hzz
      have hbw := hX.blk (g := bx) (T := 65) (cs := #[.slice pw L cw, .slice pl M cl, .int .u64 t]) (by simp)
      have hbt := hX.blk (g := bx + 1) (T := 42) (cs := #[.int .i64 r, .int .i64 k, .int .i64 i]) (by simp)
      have a0 : World.cell? w3 ⟨bx, 0, none⟩ = some (.slice pw L cw) := hbw.cell 0
      have a1 : World.cell? w3 ⟨bx, 1, none⟩ = some (.slice pl M cl) := hbw.cell 1
      have a2 : World.cell? w3 ⟨bx, 2, none⟩ = some (.int .u64 t) := hbw.cell 2
      have b0 : World.cell? w3 ⟨bx + 1, 0, none⟩ = some (.int .i64 r) := hbt.cell 0
      have b1 : World.cell? w3 ⟨bx + 1, 1, none⟩ = some (.int .i64 k) := hbt.cell 1
      have b2 : World.cell? w3 ⟨bx + 1, 2, none⟩ = some (.int .i64 i) := hbt.cell 2
      have hbr := hX.blk (g := (bx + 1 + 1)) (T := 65) (cs := #[.slice none 0 0, .slice none 0 0, .int .u64 0]) (by simp)
      have hbr' := setRow_blk (cs := rwA (.slice pw L cw) (.slice pl M cl) t) hbr
      go_wp2_with (refine wpList_store_row rfl _ _ _ rfl (bx + 1 + 1) (rwA (.slice pw L cw) (.slice pl M cl) t) rfl rfl _ _ hbr rwInfo rfl (rwA_all _ _ _ _ _ _ _) ?_)
      have hEf := setRow_ext' (cs := rwA (.slice pw L cw) (.slice pl M cl) t) hX.base (show W.heap.size ≤ bx + 1 + 1 by have := HBX.out; omega)
      refine bodyPost_ret (v := .tuple #[rwV (.slice pw L cw) (.slice pl M cl) t, .int .i64 3]) (results_cell2 Try.results16 _ _ (bx + 1 + 1) 65 (rwA (.slice pw L cw) (.slice pl M cl) t) _ _ rfl hbr' Try.underlying65 rfl rwInfo) rfl ⟨_, by rw [HE.out], ?_, hEf, fun g hg => Or.inl hg⟩
      rw [radd, if_neg (by rw [HE.out]; decide)]
      exact hR.ext hEf
    have HE : Hid (raddE ws ls r k i z = 0) := Lib.hid (by rw [raddE, if_neg HKF.out, if_neg hzz, if_neg (by rw [HN.out]; omega)])
    clear hzz
    have hbw := hX.blk (g := bx) (T := 65) (cs := #[.slice pw L cw, .slice pl M cl, .int .u64 t]) (by simp)
    have hbt := hX.blk (g := bx + 1) (T := 42) (cs := #[.int .i64 r, .int .i64 k, .int .i64 i]) (by simp)
    have a0 : World.cell? w3 ⟨bx, 0, none⟩ = some (.slice pw L cw) := hbw.cell 0
    have a1 : World.cell? w3 ⟨bx, 1, none⟩ = some (.slice pl M cl) := hbw.cell 1
    have a2 : World.cell? w3 ⟨bx, 2, none⟩ = some (.int .u64 t) := hbw.cell 2
    have b0 : World.cell? w3 ⟨bx + 1, 0, none⟩ = some (.int .i64 r) := hbt.cell 0
    have b1 : World.cell? w3 ⟨bx + 1, 1, none⟩ = some (.int .i64 k) := hbt.cell 1
    have b2 : World.cell? w3 ⟨bx + 1, 2, none⟩ = some (.int .i64 i) := hbt.cell 2
    go_upto_region 7 with fail
    obtain ⟨i0, hi0, hi1, hi2, hi3⟩ := info_parts6 hdInfo5
    have hrow := (hR.ext hX.base).w
    have hlN := flatH_length ws
    rw [HL.out] at hlN hrow
    have hE5 := Ext.refl w3
    have d0 : ∀ x : Of (fun X => Ext w3 X), x.val.cell? ⟨bx, 0, none⟩ = some (.slice pw L cw) := fun x => (x.property.cell _ _ hbw.lt).trans a0
    have d1 : ∀ x : Of (fun X => Ext w3 X), x.val.cell? ⟨bx + 1, 0, none⟩ = some (.int .i64 r) := fun x => (x.property.cell _ _ hbt.lt).trans b0
    have d2 : ∀ x : Of (fun X => Ext w3 X), x.val.cell? ⟨bx + 1, 1, none⟩ = some (.int .i64 k) := fun x => (x.property.cell _ _ hbt.lt).trans b1
    have d3 : ∀ x : Of (fun X => Ext w3 X), x.val.cell? ⟨bx + 1, 2, none⟩ = some (.int .i64 i) := fun x => (x.property.cell _ _ hbt.lt).trans b2
    have hFd := (Ext.refl w3).drew
    have hne_ : Nonempty (Of ((fun X => Ext w3 X))) := ⟨⟨_, hFd⟩⟩
    refine region_planZ 11 (.seg [1,2,4,5,6,7] [true,true,true,true,true,true] (.fork 0 (.fork 3 (.seg [8,9,10] [false,false,true] .done) 8 (.seg [3,9,10] [false,false,true] .done)) 8 (.seg [0,3,9,10] [false,false,false,true] .done))) ((fun X => Ext w3 X)) (by kernel_rfl) (by kernel_rfl) hFd ?_
    refine walkZ_seg ?_
    simp only [List.filterMap_cons, List.filterMap_nil, List.getElem?_cons_zero, List.getElem?_cons_succ]
    refine steps_quiet 6 (by kernel_rfl) ?_
    simp only [List.take_succ_cons, List.take_zero, List.drop_succ_cons, List.drop_zero]
    repeat (go_big_quiet_step (fail))
    refine wpQuiet_nil ?_
    clear d0 d1 d2 d3 a0 a1 a2 b0 b1 b2
    refine steps_end ?_
    refine walkZ_fork ?_ ?_
    all_goals simp only [List.filterMap_cons, List.filterMap_nil, List.getElem?_cons_zero, List.getElem?_cons_succ]
    · refine steps_want rfl (fun K hK => ?_)
      go_simp
      have hlit := World.ownsRow_made (base := 0) (e := 95) (size := 5) w3 #[] 0 (Nat.zero_le _) (by simp) rfl
      have hE6 : Ext w3 ((w3).alloc (.cells #[] 95)).drew := (ext_alloc _ _).drew
      have hlb : ∀ k, (Value.slice (some ⟨(w3).heap.size, 0, none⟩) 0 0).ownBlock = some k → (w3).heap.size ≤ k := fun k hk => Nat.le_of_eq (by simpa [Value.ownBlock] using hk)
      refine hK _ _ (fun X => Ext w3 X) (hE6) (fun _ h => h) ?_
      clear hK K
      try simp only [Act.put, List.setIfInBounds_toArray, List.set_cons_succ, List.set_cons_zero]
      refine steps_end ?_
      refine walkZ_fork ?_ ?_
      all_goals simp only [List.filterMap_cons, List.filterMap_nil, List.getElem?_cons_zero, List.getElem?_cons_succ]
      · refine steps_want rfl (fun K hK => ?_)
        refine wp_append_new _ _ 63 rfl 95 i0 (.agg (hdA zeroH)) 5 40 Try.underlying63 hi0 hi1 hi2 hi3 rfl (by decide) (.slice (some ⟨(w3).heap.size, 0, none⟩) 0 0) 0 [] rfl (World.ownsRow.drew hlit) pw L cw (flatH ws) rfl hlN (row_nil hrow) (row_news (ownsRow_ext hrow hE6)) flatH_one (by unfold maxLen; omega) (by omega) ?_
        intro v7 w7 hown7 hg7 hf7
        obtain ⟨hE7, hb7⟩ := fresh_ext hE6 hlb hg7 hf7
        refine hK _ _ (fun X => Ext w3 X) (hE7) (fun _ h => h) ?_
        clear hK K
        try simp only [Act.put, List.setIfInBounds_toArray, List.set_cons_succ, List.set_cons_zero]
        refine steps_end ?_
        refine walkZ_seg ?_
        simp only [List.filterMap_cons, List.filterMap_nil, List.getElem?_cons_zero, List.getElem?_cons_succ]
        refine steps_want rfl (fun K hK => ?_)
        go_simp
        have hE8 : Ext w3 (w7.alloc (.cells ((flatH [⟨r, k, i, z, now⟩])).toArray 95)) := hE7.alloc _
        have hB8 : Blk (w7.alloc (.cells ((flatH [⟨r, k, i, z, now⟩])).toArray 95)) w7.heap.size 95 ((flatH [⟨r, k, i, z, now⟩])).toArray := Blk.new _ _ _
        refine hK _ _ (fun X => Ext w3 X) (hE8) (fun _ h => h) ?_
        clear hK K
        try simp only [Act.put, List.setIfInBounds_toArray, List.set_cons_succ, List.set_cons_zero]
        refine steps_want rfl (fun K hK => ?_)
        refine wp_append_new _ _ 63 rfl 95 i0 (.agg (hdA zeroH)) 5 40 Try.underlying63 hi0 hi1 hi2 hi3 rfl (by decide) v7 _ _ rfl (hown7.alloc _) (some ⟨w7.heap.size, 0, none⟩) 1 1 (flatH [⟨r, k, i, z, now⟩]) rfl rfl (fun h => nomatch h) (news_blk hB8) flatH_one (by unfold maxLen; omega) (by omega) ?_
        intro v9 w9 hown9 hg9 hf9
        obtain ⟨hE9, hb9⟩ := fresh_ext hE8 hb7 hg9 hf9
        refine hK _ _ (fun X => Ext w3 X) (hE9) (fun _ h => h) ?_
        clear hK K
        try simp only [Act.put, List.setIfInBounds_toArray, List.set_cons_succ, List.set_cons_zero]
        obtain ⟨p9, c9, rfl⟩ := ownsRow_slice hown9
        refine steps_quiet 1 (by kernel_rfl) ?_
        simp only [List.take_succ_cons, List.take_zero, List.drop_succ_cons, List.drop_zero]
        repeat (go_big_quiet_step (fail))
        refine wpQuiet_nil ?_
        have hbw9 := hbw.of_eq (hE9.block bx hbw.lt)
        have s0 : w9.cell? ⟨bx, 0, none⟩ = some (.slice pw L cw) := hbw9.cell 0
        have s1 : w9.frozen? ⟨bx, 0, none⟩ = false := hbw9.frozen 0
        have s2 := hbw9.lt
        clear hbw hbt
        refine steps_end ?_
        refine walkZ_done rfl rfl (fun K hK => ?_)
        go_simp
        refine hK _ _ ?_
        clear hK K
        try simp only [Act.put, List.setIfInBounds_toArray, List.set_cons_succ, List.set_cons_zero]
        simp only [Nat.zero_add] at hb9 hown9
        have hlo9 : ∀ g, (Value.slice p9 (L + 1) c9).ownBlock = some g → W.heap.size ≤ g ∧ g ≠ bx ∧ g ≠ bx + 1 + 1 := fun g hg => by
          have h1 := hb9 g hg
          have h2 := hX.base.le
          have h3 : bx + 1 + 1 < w3.heap.size := by have := hX.blk (g := bx + 1 + 1) (T := 65) (cs := #[.slice none 0 0, .slice none 0 0, .int .u64 0]) (by simp); exact this.lt
          exact ⟨by omega, by omega, by omega⟩
        have f1 : Ext W (w9.setCell ⟨bx, 0, none⟩ (.slice p9 (L + 1) c9)) := (hX.base.trans hE9).setCell (show W.heap.size ≤ bx by have := HBX.out; omega) _
        have f2 : Blk (w9.setCell ⟨bx, 0, none⟩ (.slice p9 (L + 1) c9)) bx 65 #[.slice p9 (L + 1) c9, .slice pl M cl, .int .u64 t] := hbw9.set_ 0 _
        have f3 : Blk (w9.setCell ⟨bx, 0, none⟩ (.slice p9 (L + 1) c9)) (bx + 1 + 1) 65 #[.slice none 0 0, .slice none 0 0, .int .u64 0] := by
          have h1 := hX.blk (g := bx + 1 + 1) (T := 65) (cs := #[.slice none 0 0, .slice none 0 0, .int .u64 0]) (by simp)
          have h2 := h1.of_eq (hE9.block _ h1.lt)
          exact h2.of_eq (Below.heap_setCell _ _ _ _ (show bx + 1 + 1 ≠ bx by omega))
        have f4 : (w9.setCell ⟨bx, 0, none⟩ (.slice p9 (L + 1) c9)).ownsRow 0 95 5 (.slice p9 (L + 1) c9) (ws ++ [(⟨r, k, i, z, now⟩ : Hd)]).length (flatH (ws ++ [(⟨r, k, i, z, now⟩ : Hd)])) := by
          refine ownsRow_setCell_other ?_ (a := ⟨bx, 0, none⟩) (fun h9 => (hlo9 bx h9).2.1 rfl) _
          rw [flatH_append, List.length_append, HL.out]
          simpa using hown9
        generalize hw10 : World.setCell w9 _ _ = w10 at *
        clear hw10 hown9 hg9 hf9 hown7 hg7 hf7 hB8 hrow s0 s1 s2 hbw9 hE9 hE7 hE8 hb7 hb9
        have a0 : w10.cell? ⟨bx, 0, none⟩ = some (.slice p9 (L + 1) c9) := f2.cell 0
        have a1 : w10.cell? ⟨bx, 1, none⟩ = some (.slice pl M cl) := f2.cell 1
        have a2 : w10.cell? ⟨bx, 2, none⟩ = some (.int .u64 t) := f2.cell 2
        have hbr' := setRow_blk (cs := rwA (.slice p9 (L + 1) c9) (.slice pl M cl) t) f3
        go_wp2_with (refine wpList_store_row rfl _ _ _ rfl (bx + 1 + 1) (rwA (.slice p9 (L + 1) c9) (.slice pl M cl) t) rfl rfl _ _ f3 rwInfo rfl (rwA_all _ _ _ _ _ _ _) ?_)
        have hEf := setRow_ext' (cs := rwA (.slice p9 (L + 1) c9) (.slice pl M cl) t) f1 (show W.heap.size ≤ bx + 1 + 1 by have := HBX.out; omega)
        refine bodyPost_ret (v := .tuple #[rwV (.slice p9 (L + 1) c9) (.slice pl M cl) t, .int .i64 0]) (results_cell2 Try.results16 _ _ (bx + 1 + 1) 65 (rwA (.slice p9 (L + 1) c9) (.slice pl M cl) t) _ _ rfl hbr' Try.underlying65 rfl rwInfo) rfl ⟨_, by rw [HE.out], ?_, hEf, fun g hg => Or.inr (Or.inr (hlo9 g hg).1)⟩
        rw [radd, if_pos HE.out]
        refine ⟨ownsRow_same f4 fun g hg => setRow_other _ _ _ _ ?_, (hR.ext hEf).l⟩
        exact (hlo9 g hg).2.2
      · refine steps_want rfl (fun K hK => ?_)
        go_simp
        have hE8 : Ext w3 (((w3).alloc (.cells #[] 95)).alloc (.cells ((flatH [⟨r, k, i, z, now⟩])).toArray 95)).drew := ((ext_alloc _ _).alloc _).drew
        have hB8' : Blk (((w3).alloc (.cells #[] 95)).alloc (.cells ((flatH [⟨r, k, i, z, now⟩])).toArray 95)).drew ((w3).heap.size + 1) 95 ((flatH [⟨r, k, i, z, now⟩])).toArray := by
          have := Blk.new ((w3).alloc (.cells #[] 95)) 95 ((flatH [⟨r, k, i, z, now⟩])).toArray
          exact Blk.drew (by simpa using this)
        refine hK _ _ (fun X => Ext w3 X) (hE8) (fun _ h => h) ?_
        clear hK K
        try simp only [Act.put, List.setIfInBounds_toArray, List.set_cons_succ, List.set_cons_zero]
        refine steps_end ?_
        refine walkZ_seg ?_
        simp only [List.filterMap_cons, List.filterMap_nil, List.getElem?_cons_zero, List.getElem?_cons_succ]
        refine steps_want rfl (fun K hK => ?_)
        refine wp_append_new _ _ 63 rfl 95 i0 (.agg (hdA zeroH)) 5 40 Try.underlying63 hi0 hi1 hi2 hi3 rfl (by decide) (.slice (some ⟨(w3).heap.size, 0, none⟩) 0 0) 0 [] rfl (World.ownsRow.drew (hlit.alloc _)) pw L cw (flatH ws) rfl hlN (row_nil hrow) (row_news (ownsRow_ext hrow hE8)) flatH_one (by unfold maxLen; omega) (by omega) ?_
        intro v7 w7 hown7 hg7 hf7
        obtain ⟨hE7, hb7⟩ := fresh_ext hE8 hlb hg7 hf7
        have hB8 := hB8'.of_eq (hg7.block _ hB8'.lt (by simp [Value.ownBlock]))
        clear hB8'
        refine hK _ _ (fun X => Ext w3 X) (hE7) (fun _ h => h) ?_
        clear hK K
        try simp only [Act.put, List.setIfInBounds_toArray, List.set_cons_succ, List.set_cons_zero]
        refine steps_want rfl (fun K hK => ?_)
        refine wp_append_new _ _ 63 rfl 95 i0 (.agg (hdA zeroH)) 5 40 Try.underlying63 hi0 hi1 hi2 hi3 rfl (by decide) v7 _ _ rfl hown7 (some ⟨((w3).heap.size + 1), 0, none⟩) 1 1 (flatH [⟨r, k, i, z, now⟩]) rfl rfl (fun h => nomatch h) (news_blk hB8) flatH_one (by unfold maxLen; omega) (by omega) ?_
        intro v9 w9 hown9 hg9 hf9
        obtain ⟨hE9, hb9⟩ := fresh_ext hE7 hb7 hg9 hf9
        refine hK _ _ (fun X => Ext w3 X) (hE9) (fun _ h => h) ?_
        clear hK K
        try simp only [Act.put, List.setIfInBounds_toArray, List.set_cons_succ, List.set_cons_zero]
        obtain ⟨p9, c9, rfl⟩ := ownsRow_slice hown9
        refine steps_quiet 1 (by kernel_rfl) ?_
        simp only [List.take_succ_cons, List.take_zero, List.drop_succ_cons, List.drop_zero]
        repeat (go_big_quiet_step (fail))
        refine wpQuiet_nil ?_
        have hbw9 := hbw.of_eq (hE9.block bx hbw.lt)
        have s0 : w9.cell? ⟨bx, 0, none⟩ = some (.slice pw L cw) := hbw9.cell 0
        have s1 : w9.frozen? ⟨bx, 0, none⟩ = false := hbw9.frozen 0
        have s2 := hbw9.lt
        clear hbw hbt
        refine steps_end ?_
        refine walkZ_done rfl rfl (fun K hK => ?_)
        go_simp
        refine hK _ _ ?_
        clear hK K
        try simp only [Act.put, List.setIfInBounds_toArray, List.set_cons_succ, List.set_cons_zero]
        simp only [Nat.zero_add] at hb9 hown9
        have hlo9 : ∀ g, (Value.slice p9 (L + 1) c9).ownBlock = some g → W.heap.size ≤ g ∧ g ≠ bx ∧ g ≠ bx + 1 + 1 := fun g hg => by
          have h1 := hb9 g hg
          have h2 := hX.base.le
          have h3 : bx + 1 + 1 < w3.heap.size := by have := hX.blk (g := bx + 1 + 1) (T := 65) (cs := #[.slice none 0 0, .slice none 0 0, .int .u64 0]) (by simp); exact this.lt
          exact ⟨by omega, by omega, by omega⟩
        have f1 : Ext W (w9.setCell ⟨bx, 0, none⟩ (.slice p9 (L + 1) c9)) := (hX.base.trans hE9).setCell (show W.heap.size ≤ bx by have := HBX.out; omega) _
        have f2 : Blk (w9.setCell ⟨bx, 0, none⟩ (.slice p9 (L + 1) c9)) bx 65 #[.slice p9 (L + 1) c9, .slice pl M cl, .int .u64 t] := hbw9.set_ 0 _
        have f3 : Blk (w9.setCell ⟨bx, 0, none⟩ (.slice p9 (L + 1) c9)) (bx + 1 + 1) 65 #[.slice none 0 0, .slice none 0 0, .int .u64 0] := by
          have h1 := hX.blk (g := bx + 1 + 1) (T := 65) (cs := #[.slice none 0 0, .slice none 0 0, .int .u64 0]) (by simp)
          have h2 := h1.of_eq (hE9.block _ h1.lt)
          exact h2.of_eq (Below.heap_setCell _ _ _ _ (show bx + 1 + 1 ≠ bx by omega))
        have f4 : (w9.setCell ⟨bx, 0, none⟩ (.slice p9 (L + 1) c9)).ownsRow 0 95 5 (.slice p9 (L + 1) c9) (ws ++ [(⟨r, k, i, z, now⟩ : Hd)]).length (flatH (ws ++ [(⟨r, k, i, z, now⟩ : Hd)])) := by
          refine ownsRow_setCell_other ?_ (a := ⟨bx, 0, none⟩) (fun h9 => (hlo9 bx h9).2.1 rfl) _
          rw [flatH_append, List.length_append, HL.out]
          simpa using hown9
        generalize hw10 : World.setCell w9 _ _ = w10 at *
        clear hw10 hown9 hg9 hf9 hown7 hg7 hf7 hB8 hrow s0 s1 s2 hbw9 hE9 hE7 hE8 hb7 hb9
        have a0 : w10.cell? ⟨bx, 0, none⟩ = some (.slice p9 (L + 1) c9) := f2.cell 0
        have a1 : w10.cell? ⟨bx, 1, none⟩ = some (.slice pl M cl) := f2.cell 1
        have a2 : w10.cell? ⟨bx, 2, none⟩ = some (.int .u64 t) := f2.cell 2
        have hbr' := setRow_blk (cs := rwA (.slice p9 (L + 1) c9) (.slice pl M cl) t) f3
        go_wp2_with (refine wpList_store_row rfl _ _ _ rfl (bx + 1 + 1) (rwA (.slice p9 (L + 1) c9) (.slice pl M cl) t) rfl rfl _ _ f3 rwInfo rfl (rwA_all _ _ _ _ _ _ _) ?_)
        have hEf := setRow_ext' (cs := rwA (.slice p9 (L + 1) c9) (.slice pl M cl) t) f1 (show W.heap.size ≤ bx + 1 + 1 by have := HBX.out; omega)
        refine bodyPost_ret (v := .tuple #[rwV (.slice p9 (L + 1) c9) (.slice pl M cl) t, .int .i64 0]) (results_cell2 Try.results16 _ _ (bx + 1 + 1) 65 (rwA (.slice p9 (L + 1) c9) (.slice pl M cl) t) _ _ rfl hbr' Try.underlying65 rfl rwInfo) rfl ⟨_, by rw [HE.out], ?_, hEf, fun g hg => Or.inr (Or.inr (hlo9 g hg).1)⟩
        rw [radd, if_pos HE.out]
        refine ⟨ownsRow_same f4 fun g hg => setRow_other _ _ _ _ ?_, (hR.ext hEf).l⟩
        exact (hlo9 g hg).2.2
    · refine steps_want rfl (fun K hK => ?_)
      go_simp
      refine hK _ _ (fun X => Ext w3 X) ((show Ext w3 ((w3).alloc (.cells ((flatH [⟨r, k, i, z, now⟩])).toArray 95)).drew from (ext_alloc _ _).drew)) (fun _ h => h) ?_
      clear hK K
      try simp only [Act.put, List.setIfInBounds_toArray, List.set_cons_succ, List.set_cons_zero]
      refine steps_end ?_
      refine walkZ_seg ?_
      simp only [List.filterMap_cons, List.filterMap_nil, List.getElem?_cons_zero, List.getElem?_cons_succ]
      refine steps_want rfl (fun K hK => ?_)
      go_simp
      have hlit : (((w3).alloc (.cells ((flatH [⟨r, k, i, z, now⟩])).toArray 95)).alloc (.cells #[] 95)).drew.ownsRow 0 95 5 (.slice (some ⟨(w3).heap.size + 1, 0, none⟩) 0 0) 0 [] := by
        have := World.ownsRow_made (base := 0) (e := 95) (size := 5) ((w3).alloc (.cells ((flatH [⟨r, k, i, z, now⟩])).toArray 95)) #[] 0 (Nat.zero_le _) (by simp) rfl
        exact World.ownsRow.drew (by simpa using this)
      have hlb : ∀ k, (Value.slice (some ⟨(w3).heap.size + 1, 0, none⟩) 0 0).ownBlock = some k → (w3).heap.size ≤ k := fun k hk => by
        have : (w3).heap.size + 1 = k := by simpa [Value.ownBlock] using hk
        omega
      have hE8 : Ext w3 (((w3).alloc (.cells ((flatH [⟨r, k, i, z, now⟩])).toArray 95)).alloc (.cells #[] 95)).drew := ((ext_alloc _ _).alloc _).drew
      have hB8' : Blk (((w3).alloc (.cells ((flatH [⟨r, k, i, z, now⟩])).toArray 95)).alloc (.cells #[] 95)).drew (w3).heap.size 95 ((flatH [⟨r, k, i, z, now⟩])).toArray := ((Blk.new _ _ _).alloc _).drew
      refine hK _ _ (fun X => Ext w3 X) (hE8) (fun _ h => h) ?_
      clear hK K
      try simp only [Act.put, List.setIfInBounds_toArray, List.set_cons_succ, List.set_cons_zero]
      refine steps_want rfl (fun K hK => ?_)
      refine wp_append_new _ _ 63 rfl 95 i0 (.agg (hdA zeroH)) 5 40 Try.underlying63 hi0 hi1 hi2 hi3 rfl (by decide) (.slice (some ⟨(w3).heap.size + 1, 0, none⟩) 0 0) 0 [] rfl hlit pw L cw (flatH ws) rfl hlN (row_nil hrow) (row_news (ownsRow_ext hrow hE8)) flatH_one (by unfold maxLen; omega) (by omega) ?_
      intro v7 w7 hown7 hg7 hf7
      obtain ⟨hE7, hb7⟩ := fresh_ext hE8 hlb hg7 hf7
      have hB8 := hB8'.of_eq (hg7.block _ hB8'.lt (by simp [Value.ownBlock]))
      clear hB8'
      refine hK _ _ (fun X => Ext w3 X) (hE7) (fun _ h => h) ?_
      clear hK K
      try simp only [Act.put, List.setIfInBounds_toArray, List.set_cons_succ, List.set_cons_zero]
      refine steps_want rfl (fun K hK => ?_)
      refine wp_append_new _ _ 63 rfl 95 i0 (.agg (hdA zeroH)) 5 40 Try.underlying63 hi0 hi1 hi2 hi3 rfl (by decide) v7 _ _ rfl hown7 (some ⟨(w3).heap.size, 0, none⟩) 1 1 (flatH [⟨r, k, i, z, now⟩]) rfl rfl (fun h => nomatch h) (news_blk hB8) flatH_one (by unfold maxLen; omega) (by omega) ?_
      intro v9 w9 hown9 hg9 hf9
      obtain ⟨hE9, hb9⟩ := fresh_ext hE7 hb7 hg9 hf9
      refine hK _ _ (fun X => Ext w3 X) (hE9) (fun _ h => h) ?_
      clear hK K
      try simp only [Act.put, List.setIfInBounds_toArray, List.set_cons_succ, List.set_cons_zero]
      obtain ⟨p9, c9, rfl⟩ := ownsRow_slice hown9
      refine steps_quiet 1 (by kernel_rfl) ?_
      simp only [List.take_succ_cons, List.take_zero, List.drop_succ_cons, List.drop_zero]
      repeat (go_big_quiet_step (fail))
      refine wpQuiet_nil ?_
      have hbw9 := hbw.of_eq (hE9.block bx hbw.lt)
      have s0 : w9.cell? ⟨bx, 0, none⟩ = some (.slice pw L cw) := hbw9.cell 0
      have s1 : w9.frozen? ⟨bx, 0, none⟩ = false := hbw9.frozen 0
      have s2 := hbw9.lt
      clear hbw hbt
      refine steps_end ?_
      refine walkZ_done rfl rfl (fun K hK => ?_)
      go_simp
      refine hK _ _ ?_
      clear hK K
      try simp only [Act.put, List.setIfInBounds_toArray, List.set_cons_succ, List.set_cons_zero]
      simp only [Nat.zero_add] at hb9 hown9
      have hlo9 : ∀ g, (Value.slice p9 (L + 1) c9).ownBlock = some g → W.heap.size ≤ g ∧ g ≠ bx ∧ g ≠ bx + 1 + 1 := fun g hg => by
        have h1 := hb9 g hg
        have h2 := hX.base.le
        have h3 : bx + 1 + 1 < w3.heap.size := by have := hX.blk (g := bx + 1 + 1) (T := 65) (cs := #[.slice none 0 0, .slice none 0 0, .int .u64 0]) (by simp); exact this.lt
        exact ⟨by omega, by omega, by omega⟩
      have f1 : Ext W (w9.setCell ⟨bx, 0, none⟩ (.slice p9 (L + 1) c9)) := (hX.base.trans hE9).setCell (show W.heap.size ≤ bx by have := HBX.out; omega) _
      have f2 : Blk (w9.setCell ⟨bx, 0, none⟩ (.slice p9 (L + 1) c9)) bx 65 #[.slice p9 (L + 1) c9, .slice pl M cl, .int .u64 t] := hbw9.set_ 0 _
      have f3 : Blk (w9.setCell ⟨bx, 0, none⟩ (.slice p9 (L + 1) c9)) (bx + 1 + 1) 65 #[.slice none 0 0, .slice none 0 0, .int .u64 0] := by
        have h1 := hX.blk (g := bx + 1 + 1) (T := 65) (cs := #[.slice none 0 0, .slice none 0 0, .int .u64 0]) (by simp)
        have h2 := h1.of_eq (hE9.block _ h1.lt)
        exact h2.of_eq (Below.heap_setCell _ _ _ _ (show bx + 1 + 1 ≠ bx by omega))
      have f4 : (w9.setCell ⟨bx, 0, none⟩ (.slice p9 (L + 1) c9)).ownsRow 0 95 5 (.slice p9 (L + 1) c9) (ws ++ [(⟨r, k, i, z, now⟩ : Hd)]).length (flatH (ws ++ [(⟨r, k, i, z, now⟩ : Hd)])) := by
        refine ownsRow_setCell_other ?_ (a := ⟨bx, 0, none⟩) (fun h9 => (hlo9 bx h9).2.1 rfl) _
        rw [flatH_append, List.length_append, HL.out]
        simpa using hown9
      generalize hw10 : World.setCell w9 _ _ = w10 at *
      clear hw10 hown9 hg9 hf9 hown7 hg7 hf7 hB8 hrow s0 s1 s2 hbw9 hE9 hE7 hE8 hb7 hb9
      have a0 : w10.cell? ⟨bx, 0, none⟩ = some (.slice p9 (L + 1) c9) := f2.cell 0
      have a1 : w10.cell? ⟨bx, 1, none⟩ = some (.slice pl M cl) := f2.cell 1
      have a2 : w10.cell? ⟨bx, 2, none⟩ = some (.int .u64 t) := f2.cell 2
      have hbr' := setRow_blk (cs := rwA (.slice p9 (L + 1) c9) (.slice pl M cl) t) f3
      go_wp2_with (refine wpList_store_row rfl _ _ _ rfl (bx + 1 + 1) (rwA (.slice p9 (L + 1) c9) (.slice pl M cl) t) rfl rfl _ _ f3 rwInfo rfl (rwA_all _ _ _ _ _ _ _) ?_)
      have hEf := setRow_ext' (cs := rwA (.slice p9 (L + 1) c9) (.slice pl M cl) t) f1 (show W.heap.size ≤ bx + 1 + 1 by have := HBX.out; omega)
      refine bodyPost_ret (v := .tuple #[rwV (.slice p9 (L + 1) c9) (.slice pl M cl) t, .int .i64 0]) (results_cell2 Try.results16 _ _ (bx + 1 + 1) 65 (rwA (.slice p9 (L + 1) c9) (.slice pl M cl) t) _ _ rfl hbr' Try.underlying65 rfl rwInfo) rfl ⟨_, by rw [HE.out], ?_, hEf, fun g hg => Or.inr (Or.inr (hlo9 g hg).1)⟩
      rw [radd, if_pos HE.out]
      refine ⟨ownsRow_same f4 fun g hg => setRow_other _ _ _ _ ?_, (hR.ext hEf).l⟩
      exact (hlo9 g hg).2.2
end Go.Proofs.Ytfbolgdecdfnaaa
