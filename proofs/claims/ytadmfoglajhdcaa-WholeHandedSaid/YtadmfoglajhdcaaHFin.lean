/- The walks of the hall's methods: finish, again. -/
import Derived.Test.YtadmfoglajhdcaaHall
import Derived.Deep.LoopGhost
namespace Go.Proofs.Ytadmfoglajhdcaa
set_option maxRecDepth 4000
set_option linter.unusedVariables false
set_option linter.unusedSimpArgs false
open Go Go.RowKit Go.Maps Go.ChangeMaps Go.MapKept
theorem Has.set {w W : World} {g : Nat} {T : TypeId} {cs : Array Value} {ps : List Asr} (h : Has w W (blkA g T cs :: ps)) (hl : Locs ps) (i : Nat) (v : Value) : Has w (W.setCell ⟨g, i, none⟩ v) (blkA g T (cs.setIfInBounds i v) :: ps) :=
  h.next hl fun F hF => by
    obtain ⟨hb, rfl⟩ := hF
    exact Next.mk (F' := fun k => k = g) ⟨hb.set_ i v, rfl⟩ ((Tch.refl (fun k => k = g) W).setCell (p := ⟨g, i, none⟩) (fun _ => rfl) v : Tch (fun k => k = g) W _) (fun k hk => Or.inl hk)
theorem Has.row {w W : World} {g : Nat} {T : TypeId} {old cs : Array Value} {ps : List Asr} (h : Has w W (blkA g T old :: ps)) (hl : Locs ps) : Has w (W.setRow g cs) (blkA g T cs :: ps) :=
  h.next hl fun F hF => by
    obtain ⟨hb, rfl⟩ := hF
    exact Next.mk (F' := fun k => k = g) ⟨setRow_blk hb, rfl⟩ ⟨rfl, rfl, rfl, by simp, fun k hk hn => setRow_other _ _ _ _ (fun e => hn e)⟩ (fun k hk => Or.inl hk)
def finS (s : MS) (tok now : Int) : MS := if getE s tok now = 0 then s.done tok else s
def finD (s : MS) (D : List Int) (tok now : Int) : List Int := if getE s tok now = 0 then D ++ [(getL s tok now).run] else D
def FinOut (w : World) (hb g : Nat) (s : MS) (now : Int) (D : List Int) (ps : List Asr) (tok : Int) (e : Ending) (W' : World) : Prop :=
  e = .returned (.bool true) ∧ Has w W' (hallP hb (finS s tok now) now g :: doneA g (finD s D tok now) :: ps)
theorem i64_small {r : Int} (h1 : 0 ≤ r) (h2 : r < 1000) : I64 r := ⟨by omega, by omega⟩
set_option maxRecDepth 100000 in
set_option maxHeartbeats 4000000 in
theorem finish_any (w W : World) (hb g : Nat) (s : MS) (D : List Int) (n : Nat) (N now : Int) (ps : List Asr) (hl : Locs ps) (hH : Has w W (hallP hb s now g :: doneA g D :: ps)) (hI : HI s D [] n N now) (hn : n ≤ 40) (tok : Int) :
    Calls Try.prog 9 #[.pointer (some ⟨hb, 0, none⟩), .int .u64 tok] W fun e W' => FinOut w hb g s now D ps tok e W' := by
  have L1 : Locs (doneA g D :: ps) := .cons (doneA_loc _ _) hl
  have L2 : Locs (hallP hb s now g :: doneA g D :: ps) := .cons (hallP_loc _ _ _ _) L1
  obtain ⟨x197, x198, -, hlt⟩ := hh_now hH
  obtain ⟨gl, hgl⟩ : ∃ l, getL s tok now = l := ⟨_, rfl⟩
  obtain ⟨ge, hge⟩ : ∃ l, getE s tok now = l := ⟨_, rfl⟩
  have HGL := Lib.hid hgl
  have HGE := Lib.hid hge
  clear hgl hge
  go_enter Try.func9, Try.ntmps9
  go_upto_region 1 with fail
  have d0 : ∀ x : Of (fun X => Ext W X), x.val.cell? ⟨hb, 197, none⟩ = some (.int .i64 now) := fun x => (x.property.cell _ _ hlt).trans x197
  have hFd := (Ext.refl W).drew
  have hne_ : Nonempty (Of ((fun X => Ext W X))) := ⟨⟨_, hFd⟩⟩
  refine region_plan (.seg [0,1,2,3,4,5,6,7] [true,true,true,true,true,true,true,true] (.fork 8 (.seg [9,10,11,12,13,14] [true,true,true,false,false,true] .done) 12 (.seg [8,9,10,11,13,14] [false,true,true,true,false,true] .done))) ((fun X => Ext W X)) (by kernel_rfl) (by kernel_rfl) hFd ?_
  refine walkP_seg ?_
  simp only [List.filterMap_cons, List.filterMap_nil, List.getElem?_cons_zero, List.getElem?_cons_succ]
  refine steps_quiet 8 (by kernel_rfl) ?_
  simp only [List.take_succ_cons, List.take_zero, List.drop_succ_cons, List.drop_zero]
  repeat (go_big_quiet_step (fail))
  refine wpQuiet_nil ?_
  clear d0 x197 x198 hFd
  have hH0 := hH.ext L2 (Ext.refl W).drew
  have hE0 : Ext W W.drew := (Ext.refl W).drew
  clear hH
  generalize World.drew W = W0 at *
  refine steps_end ?_
  refine walkP_fork ?_ ?_
  all_goals simp only [List.filterMap_cons, List.filterMap_nil, List.getElem?_cons_zero, List.getElem?_cons_succ]
  · refine steps_want rfl (fun K hK => ?_)
    go_simp
    refine (hh_get hH0 tok now).mono ?_
    rintro e w2 ⟨rfl, hE2⟩
    rw [HGL.out, HGE.out]
    obtain ⟨lt, lr, lk, li, lw, lu⟩ := gl
    unfold lsV
    have hX := hH0.ext L2 hE2
    have hEX := hE0.trans hE2
    clear hH0 hE2 hE0
    refine hK _ _ (fun X => Ext W X) hEX (fun _ h => h) ?_
    clear hK K
    refine steps_end ?_
    refine walkP_seg ?_
    simp only [List.filterMap_cons, List.filterMap_nil, List.getElem?_cons_zero, List.getElem?_cons_succ]
    refine steps_quiet 3 (by kernel_rfl) ?_
    simp only [List.take_succ_cons, List.take_zero, List.drop_succ_cons, List.drop_zero]
    repeat (go_big_quiet_step (fail))
    refine wpQuiet_nil ?_
    have hX2 := hX.add L2 (ext_alloc w2 (.cells #[.int .u64 0, .int .i64 0, .int .i64 0, .int .i64 0, .int .i64 0, .int .i64 0] 56)) (p := blkA w2.heap.size 56 (lsA zeroL)) (F := fun k => k = w2.heap.size) ⟨Blk.new _ _ _, rfl⟩ (fun k hk => by omega)
    have hE3 := hEX.trans (ext_alloc w2 (.cells (lsA zeroL) 56))
    have hbl0 := Blk.new w2 56 (lsA zeroL)
    have hsz := hEX.le
    refine steps_want rfl (fun K hK => ?_)
    go_simp
    refine hK _ _ (fun X => Ext W X) hE3 (fun _ h => h) ?_
    clear hK K
    refine steps_want rfl (fun K hK => ?_)
    refine wp_store_row _ _ _ rfl w2.heap.size (lsA ⟨lt, lr, lk, li, lw, lu⟩) rfl rfl _ _ hbl0 (leaseInfo' _) rfl (lsA_all _) ?_
    refine hK _ _ (fun X => Ext W X) (setRow_ext' hE3 hsz) (fun _ h => h) ?_
    clear hK K
    try simp only [Act.put, List.setIfInBounds_toArray, List.set_cons_succ, List.set_cons_zero]
    refine steps_quiet 1 (by kernel_rfl) ?_
    simp only [List.take_succ_cons, List.take_zero, List.drop_succ_cons, List.drop_zero]
    repeat (go_big_quiet_step (fail))
    refine wpQuiet_nil ?_
    refine steps_end ?_
    refine walkP_done ?_
    try simp only [Act.put]
    replace hX2 := hX2.row (cs := lsA ⟨lt, lr, lk, li, lw, lu⟩) L2
    clear hX hE3 hbl0 hsz hEX
    generalize w2.heap.size = lb at *
    generalize World.setRow _ _ _ = w3 at *
    have L3 : Locs (blkA lb 56 (lsA ⟨lt, lr, lk, li, lw, lu⟩) :: hallP hb s now g :: doneA g D :: ps) := .cons (blkA_loc _ _ _) L2
    by_cases hz : ge = 0
    · subst hz
      have hgE := HGE.out
      have hk : lk = 1 ∧ li = 0 ∧ 0 ≤ lr ∧ lr < n := by
        have := hI.lkey (get_mem hgE).1
        rw [HGL.out] at this
        exact this
      obtain ⟨f1, f2, f3⟩ := hI.fin hgE
      replace f1 : D.contains lr = false := by rw [HGL.out] at f1; exact f1
      have hrI := i64_small hk.2.2.1 (show lr < 1000 by omega)
      obtain ⟨F_, hF_⟩ := Has.mem hX2 (p := doneA g D) (by simp)
      have hlk : ∀ nq, (Instr.lookup 51 (.map (some g)) (.int .i64 lr) false).run Try.prog (w3.drewN nq) = .ok (.bool false) (w3.drewN nq) := fun nq => by
        have := hd_look F_ ((doneA_loc g D).ext hF_ (Ext.drewN (Ext.refl w3) nq)) lr hrI
        rwa [f1] at this
      obtain ⟨x197, x198, -, hlt2⟩ := hh_now hX2.drop
      have hbl := hX2.blk (g := lb) (T := 56) (cs := lsA ⟨lt, lr, lk, li, lw, lu⟩) (by simp)
      have y1 : w3.cell? ⟨lb, 1, none⟩ = some (.int .i64 lr) := hbl.cell 1
      have F1 := Lib.hid f1
      have F2 := Lib.hid f2
      have F3 := Lib.hid f3
      have HK_ := Lib.hid hk
      have HE_ := Lib.hid hgE
      clear hF_ f1 f2 f3 hk hgE
      go_upto_region 4 with fail
      refine region_drew_tail 13 (by kernel_rfl) (by kernel_rfl) ?_
      simp only [List.take_succ_cons, List.take_zero, List.drop_succ_cons, List.drop_zero]
      repeat (go_big_quiet_step (fail))
      refine wpQuiet_nil ?_
      intro _ hw'
      obtain ⟨nq, hw''⟩ := hw'
      subst hw''
      clear hlk x197 x198 hbl y1
      have hX3 := (hX2.ext L3 (Ext.drewN (Ext.refl w3) nq)).swap
      clear hX2
      generalize World.drewN w3 nq = w4 at *
      go_wp2_with fail
      refine (hh_done hX3 (.cons (blkA_loc _ _ _) L1) tok).mono ?_
      rintro e w5 ⟨rfl, hX4⟩
      rw [decide_eq_true F2.out]
      clear hX3
      obtain ⟨x197, x198, -, hlt3⟩ := hh_now hX4
      have hbl := hX4.blk (g := lb) (T := 56) (cs := lsA ⟨lt, lr, lk, li, lw, lu⟩) (by simp)
      have y1 : w5.cell? ⟨lb, 1, none⟩ = some (.int .i64 lr) := hbl.cell 1
      go_upto_region 6 with fail
      refine region_drew_tail 7 (by kernel_rfl) (by kernel_rfl) ?_
      simp only [List.take_succ_cons, List.take_zero, List.drop_succ_cons, List.drop_zero]
      repeat (go_big_quiet_step (fail))
      refine wpQuiet_nil ?_
      intro _ hw'
      obtain ⟨nq, hw''⟩ := hw'
      subst hw''
      clear x197 x198 hbl y1
      have L4 : Locs (hallP hb (s.done tok) now g :: blkA lb 56 (lsA ⟨lt, lr, lk, li, lw, lu⟩) :: doneA g D :: ps) := .cons (hallP_loc _ _ _ _) (.cons (blkA_loc _ _ _) L1)
      have hX5 := (hX4.ext L4 (Ext.drewN (Ext.refl w5) nq)).third
      clear hX4
      have hDn : D.length < 100000 := by
        have := hI.tot_eq
        omega
      generalize World.drewN w5 nq = w6 at *
      go_wp2_with (refine wpList_plain rfl fun K hK => ?_; refine hd_put hX5 (.cons (hallP_loc _ _ _ _) (.cons (blkA_loc _ _ _) hl)) lr hrI F1.out hDn _ _ _ rfl rfl rfl rfl ?_; intro w7 hX6 _; refine hK _ _ ?_; clear hK K)
      clear hX5
      try simp only [Act.put, List.setIfInBounds_toArray, List.set_cons_succ, List.set_cons_zero]
      go_wp2_with fail
      go_ret
      refine ⟨rfl, ?_⟩
      unfold finS finD
      rw [if_pos HE_.out, if_pos HE_.out, HGL.out]
      exact hX6.third.drop.swap
    · have hzb : (ge != 0) = true := by simpa using hz
      go_wp2_with fail
      go_ret
      refine ⟨rfl, ?_⟩
      unfold finS finD
      rw [if_neg (by rw [HGE.out]; exact hz), if_neg (by rw [HGE.out]; exact hz)]
      exact hX2.drop
  · refine steps_want rfl (fun K hK => ?_)
    go_simp
    have hE1 := ext_alloc W0 (.cells (lsA zeroL) 56)
    have hX := hH0.add L2 hE1 (p := blkA W0.heap.size 56 (lsA zeroL)) (F := fun k => k = W0.heap.size) ⟨Blk.new _ _ _, rfl⟩ (fun k hk => by omega)
    have hEX := hE0.trans hE1
    have hsz := hE0.le
    refine hK _ _ (fun X => Ext W X) hEX (fun _ h => h) ?_
    clear hK K hE1 hH0
    refine steps_end ?_
    refine walkP_seg ?_
    simp only [List.filterMap_cons, List.filterMap_nil, List.getElem?_cons_zero, List.getElem?_cons_succ]
    have L3 : Locs (blkA W0.heap.size 56 (lsA zeroL) :: hallP hb s now g :: doneA g D :: ps) := .cons (blkA_loc _ _ _) L2
    refine steps_want rfl (fun K hK => ?_)
    go_simp
    refine (hh_get hX.drop tok now).mono ?_
    rintro e w2 ⟨rfl, hE2⟩
    rw [HGL.out, HGE.out]
    obtain ⟨lt, lr, lk, li, lw, lu⟩ := gl
    unfold lsV
    have hX2 := hX.ext L3 hE2
    have hE3 := hEX.trans hE2
    clear hX hE2 hEX
    refine hK _ _ (fun X => Ext W X) hE3 (fun _ h => h) ?_
    clear hK K
    refine steps_quiet 3 (by kernel_rfl) ?_
    simp only [List.take_succ_cons, List.take_zero, List.drop_succ_cons, List.drop_zero]
    repeat (go_big_quiet_step (fail))
    refine wpQuiet_nil ?_
    have hbl0 := hX2.blk (g := W0.heap.size) (T := 56) (cs := lsA zeroL) (by simp)
    refine steps_want rfl (fun K hK => ?_)
    refine wp_store_row _ _ _ rfl W0.heap.size (lsA ⟨lt, lr, lk, li, lw, lu⟩) rfl rfl _ _ hbl0 (leaseInfo' _) rfl (lsA_all _) ?_
    refine hK _ _ (fun X => Ext W X) (setRow_ext' hE3 hsz) (fun _ h => h) ?_
    clear hK K
    try simp only [Act.put, List.setIfInBounds_toArray, List.set_cons_succ, List.set_cons_zero]
    refine steps_quiet 1 (by kernel_rfl) ?_
    simp only [List.take_succ_cons, List.take_zero, List.drop_succ_cons, List.drop_zero]
    repeat (go_big_quiet_step (fail))
    refine wpQuiet_nil ?_
    refine steps_end ?_
    refine walkP_done ?_
    try simp only [Act.put]
    replace hX2 := hX2.row (cs := lsA ⟨lt, lr, lk, li, lw, lu⟩) L2
    clear hE3 hbl0 hsz hE0
    generalize W0.heap.size = lb at *
    generalize World.setRow _ _ _ = w3 at *
    have L3 : Locs (blkA lb 56 (lsA ⟨lt, lr, lk, li, lw, lu⟩) :: hallP hb s now g :: doneA g D :: ps) := .cons (blkA_loc _ _ _) L2
    by_cases hz : ge = 0
    · subst hz
      have hgE := HGE.out
      have hk : lk = 1 ∧ li = 0 ∧ 0 ≤ lr ∧ lr < n := by
        have := hI.lkey (get_mem hgE).1
        rw [HGL.out] at this
        exact this
      obtain ⟨f1, f2, f3⟩ := hI.fin hgE
      replace f1 : D.contains lr = false := by rw [HGL.out] at f1; exact f1
      have hrI := i64_small hk.2.2.1 (show lr < 1000 by omega)
      obtain ⟨F_, hF_⟩ := Has.mem hX2 (p := doneA g D) (by simp)
      have hlk : ∀ nq, (Instr.lookup 51 (.map (some g)) (.int .i64 lr) false).run Try.prog (w3.drewN nq) = .ok (.bool false) (w3.drewN nq) := fun nq => by
        have := hd_look F_ ((doneA_loc g D).ext hF_ (Ext.drewN (Ext.refl w3) nq)) lr hrI
        rwa [f1] at this
      obtain ⟨x197, x198, -, hlt2⟩ := hh_now hX2.drop
      have hbl := hX2.blk (g := lb) (T := 56) (cs := lsA ⟨lt, lr, lk, li, lw, lu⟩) (by simp)
      have y1 : w3.cell? ⟨lb, 1, none⟩ = some (.int .i64 lr) := hbl.cell 1
      have F1 := Lib.hid f1
      have F2 := Lib.hid f2
      have F3 := Lib.hid f3
      have HK_ := Lib.hid hk
      have HE_ := Lib.hid hgE
      clear hF_ f1 f2 f3 hk hgE
      go_upto_region 4 with fail
      refine region_drew_tail 13 (by kernel_rfl) (by kernel_rfl) ?_
      simp only [List.take_succ_cons, List.take_zero, List.drop_succ_cons, List.drop_zero]
      repeat (go_big_quiet_step (fail))
      refine wpQuiet_nil ?_
      intro _ hw'
      obtain ⟨nq, hw''⟩ := hw'
      subst hw''
      clear hlk x197 x198 hbl y1
      have hX3 := (hX2.ext L3 (Ext.drewN (Ext.refl w3) nq)).swap
      clear hX2
      generalize World.drewN w3 nq = w4 at *
      go_wp2_with fail
      refine (hh_done hX3 (.cons (blkA_loc _ _ _) L1) tok).mono ?_
      rintro e w5 ⟨rfl, hX4⟩
      rw [decide_eq_true F2.out]
      clear hX3
      obtain ⟨x197, x198, -, hlt3⟩ := hh_now hX4
      have hbl := hX4.blk (g := lb) (T := 56) (cs := lsA ⟨lt, lr, lk, li, lw, lu⟩) (by simp)
      have y1 : w5.cell? ⟨lb, 1, none⟩ = some (.int .i64 lr) := hbl.cell 1
      go_upto_region 6 with fail
      refine region_drew_tail 7 (by kernel_rfl) (by kernel_rfl) ?_
      simp only [List.take_succ_cons, List.take_zero, List.drop_succ_cons, List.drop_zero]
      repeat (go_big_quiet_step (fail))
      refine wpQuiet_nil ?_
      intro _ hw'
      obtain ⟨nq, hw''⟩ := hw'
      subst hw''
      clear x197 x198 hbl y1
      have L4 : Locs (hallP hb (s.done tok) now g :: blkA lb 56 (lsA ⟨lt, lr, lk, li, lw, lu⟩) :: doneA g D :: ps) := .cons (hallP_loc _ _ _ _) (.cons (blkA_loc _ _ _) L1)
      have hX5 := (hX4.ext L4 (Ext.drewN (Ext.refl w5) nq)).third
      clear hX4
      have hDn : D.length < 100000 := by
        have := hI.tot_eq
        omega
      generalize World.drewN w5 nq = w6 at *
      go_wp2_with (refine wpList_plain rfl fun K hK => ?_; refine hd_put hX5 (.cons (hallP_loc _ _ _ _) (.cons (blkA_loc _ _ _) hl)) lr hrI F1.out hDn _ _ _ rfl rfl rfl rfl ?_; intro w7 hX6 _; refine hK _ _ ?_; clear hK K)
      clear hX5
      try simp only [Act.put, List.setIfInBounds_toArray, List.set_cons_succ, List.set_cons_zero]
      go_wp2_with fail
      go_ret
      refine ⟨rfl, ?_⟩
      unfold finS finD
      rw [if_pos HE_.out, if_pos HE_.out, HGL.out]
      exact hX6.third.drop.swap
    · have hzb : (ge != 0) = true := by simpa using hz
      go_wp2_with fail
      go_ret
      refine ⟨rfl, ?_⟩
      unfold finS finD
      rw [if_neg (by rw [HGE.out]; exact hz), if_neg (by rw [HGE.out]; exact hz)]
      exact hX2.drop
/-! ### again -/
def AgOut (w : World) (hb g : Nat) (D : List Int) (n : Nat) (N now : Int) (ls0 : List Ls) (ps : List Asr) (e : Ending) (W' : World) : Prop :=
  ∃ s', e = .returned (.tuple #[]) ∧ HI s' D [] n N now ∧ s'.ls = ls0 ∧ Has w W' (hallP hb s' now g :: ps)
def AgRel (w : World) (hb g : Nat) (D : List Int) (n : Nat) (N now : Int) (ls0 : List Ls) (v : Value) (L : Nat) (out : List Ls) (ps : List Asr) (vi : Value) (wr : World) : Prop :=
  ∃ pre post s', out = pre ++ post ∧ vi = .int .i64 pre.length ∧ HI s' D (post.map (·.run)) n N now ∧ s'.ls = ls0 ∧ Has w wr (rowA 56 6 v L (flatL out) :: hallP hb s' now g :: ps)
theorem HI.m_range {s : MS} {D M : List Int} {n : Nat} {N now r : Int} (h : HI s D (r :: M) n N now) : 0 ≤ r ∧ r < n := by
  have hc := h.cov (fun a b c => a == r && b == 1 && c == 0)
  have h4 : 0 < dn (fun a b c => a == r && b == 1 && c == 0) (r :: M) := dn_mem (r := r) (by simp) (by simp)
  obtain ⟨x, hx, hf⟩ := dn_pos (f := fun a b c => a == r && b == 1 && c == 0) (D := rng n) (by omega)
  simp only [Bool.and_eq_true, beq_iff_eq] at hf
  obtain ⟨⟨rfl, -⟩, -⟩ := hf
  simp only [rng, List.mem_map, List.mem_range] at hx
  obtain ⟨j, hj, rfl⟩ := hx
  exact ⟨by omega, by omega⟩
set_option maxRecDepth 100000 in
set_option maxHeartbeats 4000000 in
theorem again_any (w W : World) (hb g : Nat) (s : MS) (D : List Int) (n : Nat) (N now : Int) (ps : List Asr) (hl : Locs ps) (v : Value) (out : List Ls) (hH : Has w W (rowA 56 6 v out.length (flatL out) :: hallP hb s now g :: ps))
    (hI : HI s D (out.map (·.run)) n N now) (hk : ∀ l ∈ out, l.kind = 1 ∧ l.id = 0) (hn : n ≤ 40) (hn2 : now ≤ 100000) :
    Calls Try.prog 10 #[.pointer (some ⟨hb, 0, none⟩), v] W fun e W' => AgOut w hb g D n N now s.ls ps e W' := by
  obtain ⟨F_, hF_⟩ := hH.head
  obtain ⟨p, c, rfl⟩ := ownsRow_slice hF_.1
  clear hF_
  obtain ⟨L, hL⟩ : ∃ L, out.length = L := ⟨_, rfl⟩
  have hLb : L ≤ 40 := by
    have := hI.tot_eq
    simp at this; omega
  rw [hL] at hH ⊢
  have HL := Lib.hid hL
  clear hL
  go_enter Try.func10, Try.ntmps10
  go_wp2_with fail
  go_loopw [8] (fun vi wr => AgRel w hb g D n N now s.ls (.slice p L c) L out ps vi wr) (fun vi _ => ((L : Int) + 1 - intOf vi).toNat)
  case atStart => exact ⟨[], out, s, rfl, rfl, hI, rfl, hH⟩
  case round =>
    clear hH hI
    obtain ⟨pre, post, s1, hx, rfl, hI, hls, hH⟩ := hrel
    have HLS := Lib.hid hls
    clear hls
    cases post with
    | nil =>
      have hl2 : ¬ ((pre.length : Int) < L) := by rw [← HL.out, hx]; simp
      clear hx
      go_wp2_with fail
      go_end0
      exact ⟨s1, rfl, hI, HLS.out, hH.drop⟩
    | cons l post =>
      have hl2 : (pre.length : Int) < L := by rw [← HL.out, hx]; simp; omega
      obtain ⟨F_, hF_⟩ := hH.head
      have hrw := hF_.1
      rw [hx] at hrw
      obtain ⟨gr, rfl, -, hg, x0, x1, x2, x3, x4, x5⟩ := lease_at (by rw [← HL.out, hx]) hrw
      have hlk := hk l (by rw [hx]; simp)
      have HX := Lib.hid hx
      clear hx hrw hF_
      obtain ⟨lt, lr, lk, li, lw, lu⟩ := l
      obtain ⟨rfl, rfl⟩ : lk = 1 ∧ li = 0 := hlk
      have hr := hI.m_range
      replace hr : 0 ≤ lr ∧ lr < n := hr
      obtain ⟨-, hI2, hls2⟩ := hI.add hn (z := 0) (by omega) (by omega)
      have hnw := hI.now0
      have HI2 := Lib.hid hI2
      have HLS2 := Lib.hid hls2
      clear hI2 hls2 hI
      have hlt : pre.length + 1 ≤ 40 := by omega
      have L1 : Locs (rowA 56 6 (.slice (some ⟨gr, 0, none⟩) L c) L (flatL out) :: hallP hb s1 now g :: ps) := .cons (rowA_loc _ _ _ _ _) (.cons (hallP_loc _ _ _ _) hl)
      go_upto_region 3 with fail
      have hX := hm_blk hH L1 56 #[.int .u64 lt, .int .i64 lr, .int .i64 1, .int .i64 0, .int .i64 lw, .int .i64 lu]
      generalize hw : World.alloc wr _ = w2 at *
      generalize wr.heap.size = bt at *
      clear hw x0 x1 x2 x3 x4 x5 hH
      have hbl := hX.blk (g := bt) (T := 56) (cs := #[.int .u64 lt, .int .i64 lr, .int .i64 1, .int .i64 0, .int .i64 lw, .int .i64 lu]) (by simp)
      have y1 : w2.cell? ⟨bt, 1, none⟩ = some (.int .i64 lr) := hbl.cell 1
      have y2 : w2.cell? ⟨bt, 2, none⟩ = some (.int .i64 1) := hbl.cell 2
      have y3 : w2.cell? ⟨bt, 3, none⟩ = some (.int .i64 0) := hbl.cell 3
      obtain ⟨x197, -, -, hlt2⟩ := hh_now hX.drop.drop
      refine region_drew_tail 9 (by kernel_rfl) (by kernel_rfl) ?_
      simp only [List.take_succ_cons, List.take_zero, List.drop_succ_cons, List.drop_zero]
      repeat (go_big_quiet_step (fail))
      refine wpQuiet_nil ?_
      intro _ hw'
      obtain ⟨nq, hw''⟩ := hw'
      subst hw''
      clear hbl y1 y2 y3 x197 hlt2
      replace hX := (hX.ext (.cons (blkA_loc _ _ _) L1) (Ext.drewN (Ext.refl w2) nq)).drop.swap
      generalize World.drewN w2 nq = w3 at *
      go_wp2_with fail
      refine (hh_add hX (.cons (rowA_loc _ _ _ _ _) hl) lr 1 0 0 now ⟨⟨by show _ ≤ lr; omega, by show lr ≤ _; omega, by show _ ≤ (1 : Int); omega, by show (1 : Int) ≤ _; omega, by show _ ≤ (0 : Int); omega, by show (0 : Int) ≤ _; omega⟩, by show _ ≤ now; omega, by show now ≤ _; omega⟩).mono ?_
      rintro e w4 ⟨rfl, hX4⟩
      clear hX
      go_wp2_with fail
      exact ⟨⟨pre ++ [⟨lt, lr, 1, 0, lw, lu⟩], post, madd s1 lr 1 0 0 now, by rw [HX.out]; simp, by simp, HI2.out, by rw [HLS2.out, HLS.out], hX4.swap⟩, by simp [intOf]; omega⟩
end Go.Proofs.Ytadmfoglajhdcaa
