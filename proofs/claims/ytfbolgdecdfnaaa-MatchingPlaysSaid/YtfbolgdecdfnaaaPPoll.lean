/- The document's matches: poll. -/
import Derived.Test.YtfbolgdecdfnaaaPAdd
namespace Go.Proofs.Ytfbolgdecdfnaaa
set_option maxRecDepth 4000
set_option linter.unusedVariables false
set_option linter.unusedSimpArgs false
open Go Go.RowKit Go.Maps Go.ChangeMaps Go.MapKept
def splitH (p : Hd → Bool) : List Hd → Option (List Hd × Hd × List Hd)
  | [] => none
  | x :: xs => if p x = true then some ([], x, xs) else (splitH p xs).map fun r => (x :: r.1, r.2.1, r.2.2)
theorem splitH_none {p : Hd → Bool} : ∀ {ws : List Hd}, (∀ h ∈ ws, p h = false) → splitH p ws = none
  | [], _ => rfl
  | x :: xs, h => by
    rw [splitH, if_neg (by rw [h x (by simp)]; decide), splitH_none (fun y hy => h y (by simp [hy]))]; rfl
theorem splitH_some {p : Hd → Bool} {x : Hd} {post : List Hd} : ∀ {pre : List Hd}, (∀ h ∈ pre, p h = false) → p x = true → splitH p (pre ++ x :: post) = some (pre, x, post)
  | [], _, hx => by rw [List.nil_append, splitH, if_pos hx]
  | y :: pre, h, hx => by
    rw [List.cons_append, splitH, if_neg (by rw [h y (by simp)]; decide), splitH_some (fun y hy => h y (by simp [hy])) hx]; rfl
def wants (who kind : Int) (h : Hd) : Bool := h.worker == who && h.kind == kind
def rpick (ws : List Hd) (z kind : Int) : Option (List Hd × Hd × List Hd) := match splitH (wants z kind) ws with
  | some r => some r
  | none => splitH (wants 0 kind) ws
def rpollE (ws : List Hd) (ls : List Ls) (z kind : Int) : Int := if z < 1 ∨ 64 < z then 1 else if 256 ≤ ls.length then 3 else if (rpick ws z kind).isSome = true then 0 else 4
def rpollO (ws : List Hd) (ls : List Ls) (z kind : Int) : Option (List Hd × Hd × List Hd) := if z < 1 ∨ 64 < z then none else if 256 ≤ ls.length then none else rpick ws z kind
def rpollL (o : Option (List Hd × Hd × List Hd)) (t z now : Int) : Ls := match o with
  | some (_, x, _) => ⟨t + 1, x.run, x.kind, x.id, z, now + 20⟩
  | none => zeroL
def rpollW (o : Option (List Hd × Hd × List Hd)) (ws : List Hd) : List Hd := match o with
  | some (a, _, b) => a ++ b
  | none => ws
def rpollLs (o : Option (List Hd × Hd × List Hd)) (ls : List Ls) (t z now : Int) : List Ls := match o with
  | some (_, x, _) => ls ++ [⟨t + 1, x.run, x.kind, x.id, z, now + 20⟩]
  | none => ls
def rpollT (o : Option (List Hd × Hd × List Hd)) (t : Int) : Int := match o with
  | some _ => t + 1
  | none => t
def RPolled (W : World) (vw vl : Value) (t : Int) (ws : List Hd) (ls : List Ls) (z kind now : Int) (e : Ending) (W' : World) : Prop :=
  ∃ vw' vl', e = .returned (.tuple #[rwV vw' vl' (rpollT (rpollO ws ls z kind) t), lsV (rpollL (rpollO ws ls z kind) t z now), .int .i64 (rpollE ws ls z kind)]) ∧ RRows W' vw' (rpollW (rpollO ws ls z kind) ws) vl' (rpollLs (rpollO ws ls z kind) ls t z now) ∧ Ext W W' ∧ Rows' W W' vw vl vw' ∧ Rows' W W' vw vl vl'
theorem index_2 {W : World} (a b : Int) : (Instr.index 96 (.agg #[.int .i64 a, .int .i64 b]) (.int .i64 0)).run Try.prog W = .ok (.int .i64 a) W ∧ (Instr.index 96 (.agg #[.int .i64 a, .int .i64 b]) (.int .i64 1)).run Try.prog W = .ok (.int .i64 b) W := by
  have hu : (Try.prog.info? 3).map (·.size) = some 1 := by kernel_rfl
  cases hq : Try.prog.info? 3 with
  | none => rw [hq] at hu; cases hu
  | some t =>
    have ht : t.size = 1 := by rw [hq] at hu; simpa using hu
    simp only [Instr.index, asIntOf, Sem.run_bind, Sem.run_pure, Result.andThen_ok, run_underlying Try.underlying96]
    constructor <;> simp [sizeOf, typeInfo, hq, ht, part, Sem.run_bind, Result.andThen]
theorem results_cell3 {P : Program} {fn : Func} {p q r : Tmp} {ty ty2 : TypeId} (h : fn.results = #[.cell p ty, .cell q ty2, .tmp r]) (tmps : Array Value) (w : World) (g g2 : Nat) (t t2 : TypeId) (cs cs2 : Array Value) (fr fr2 : Nat × Nat) (d d2 : TypeDesc)
    (hp : tmps.getD p undef = .pointer (some ⟨g, 0, none⟩)) (hg : w.heap[g]? = some (.cells cs t fr)) (hu : P.underlying ty = some d) (hd : (match d with | .struct _ | .array _ _ => true | _ => false) = true) (hi : (P.info? ty).map (·.size) = some cs.size)
    (hp2 : tmps.getD q undef = .pointer (some ⟨g2, 0, none⟩)) (hg2 : w.heap[g2]? = some (.cells cs2 t2 fr2)) (hu2 : P.underlying ty2 = some d2) (hd2 : (match d2 with | .struct _ | .array _ _ => true | _ => false) = true) (hi2 : (P.info? ty2).map (·.size) = some cs2.size) :
    (results fn tmps).run P w = .ok (.tuple #[.agg cs, .agg cs2, tmps.getD r undef]) w := by
  have hp' : tmps[p]?.getD undef = .pointer (some ⟨g, 0, none⟩) := by simpa using hp
  have hp2' : tmps[q]?.getD undef = .pointer (some ⟨g2, 0, none⟩) := by simpa using hp2
  simp [results, h, hp', hp2', asAddr, run_loadVar_row w g t ty cs fr d hg hu hd hi, run_loadVar_row w g2 t2 ty2 cs2 fr2 d2 hg2 hu2 hd2 hi2]
theorem Has.set {w W : World} {g : Nat} {T : TypeId} {cs : Array Value} {ps : List Asr} (h : Has w W (blkA g T cs :: ps)) (hl : Locs ps) (i : Nat) (v : Value) : Has w (W.setCell ⟨g, i, none⟩ v) (blkA g T (cs.setIfInBounds i v) :: ps) :=
  h.next hl fun F hF => by
    obtain ⟨hb, rfl⟩ := hF
    exact Next.mk (F' := fun k => k = g) ⟨hb.set_ i v, rfl⟩ ((Tch.refl (fun k => k = g) W).setCell (p := ⟨g, i, none⟩) (fun _ => rfl) v : Tch (fun k => k = g) W _) (fun k hk => Or.inl hk)
theorem Has.row {w W : World} {g : Nat} {T : TypeId} {old cs : Array Value} {ps : List Asr} (h : Has w W (blkA g T old :: ps)) (hl : Locs ps) : Has w (W.setRow g cs) (blkA g T cs :: ps) :=
  h.next hl fun F hF => by
    obtain ⟨hb, rfl⟩ := hF
    exact Next.mk (F' := fun k => k = g) ⟨setRow_blk hb, rfl⟩ ⟨rfl, rfl, rfl, by simp, fun k hk hn => setRow_other _ _ _ _ (fun e => hn e)⟩ (fun k hk => Or.inl hk)
theorem Has.fourth {w W : World} {p q r s : Asr} {ps : List Asr} (h : Has w W (p :: q :: r :: s :: ps)) : Has w W (s :: p :: q :: r :: ps) := by
  have h1 : Has w W (p :: q :: s :: r :: ps) := h.perm (List.Perm.cons _ (List.Perm.cons _ (List.Perm.swap _ _ _)))
  exact h1.third
theorem Has.fifth {w W : World} {p q r s t : Asr} {ps : List Asr} (h : Has w W (p :: q :: r :: s :: t :: ps)) : Has w W (t :: p :: q :: r :: s :: ps) := by
  have h1 : Has w W (p :: q :: r :: t :: s :: ps) := h.perm (List.Perm.cons _ (List.Perm.cons _ (List.Perm.cons _ (List.Perm.swap _ _ _))))
  exact h1.fourth
theorem Has.last7 {w W : World} {p q r s t u v : Asr} (h : Has w W [p, q, r, s, t, u, v]) : Has w W [v, p, q, r, s, t, u] :=
  h.perm (show List.Perm [p, q, r, s, t, u, v] ([v] ++ [p, q, r, s, t, u]) from (List.perm_append_comm (l₁ := [p, q, r, s, t, u]) (l₂ := [v])))
theorem Has.memlo {w W : World} : ∀ {ps : List Asr} {X : Nat → Prop}, Side w W ps X → ∀ {p : Asr}, p ∈ ps → ∃ F, p W F ∧ ∀ k, F k → w.heap.size ≤ k
  | [], _, _, _, h => by simp at h
  | q :: ps, _, ⟨F, h1, h2, h3⟩, p, h => by
    rcases List.mem_cons.1 h with rfl | h
    · exact ⟨F, h1, fun k hk => (h2 k hk).1⟩
    · exact Has.memlo h3 h
theorem Has.owned {w W : World} {ps : List Asr} {e : TypeId} {size n : Nat} {v : Value} {xs : List Value} (h : Has w W ps) (hp : rowA e size v n xs ∈ ps) : W.ownsRow 0 e size v n xs ∧ ∀ g, v.ownBlock = some g → w.heap.size ≤ g := by
  obtain ⟨F, ⟨h1, rfl⟩, h2⟩ := Has.memlo h hp
  exact ⟨h1, h2⟩
def PoutRel (w : World) (ws : List Hd) (z kind : Int) (v : Value) (wr : World) : Prop :=
  ∃ j : Nat, j ≤ 2 ∧ v = .int .i64 j ∧ (1 ≤ j → ∀ h ∈ ws, wants z kind h = false) ∧ (2 ≤ j → ∀ h ∈ ws, wants 0 kind h = false) ∧ Ext w wr
def PinRel (w : World) (ws : List Hd) (who kind : Int) (v : Value) (wr : World) : Prop :=
  ∃ pre post, ws = pre ++ post ∧ v = .int .i64 pre.length ∧ (∀ h ∈ pre, wants who kind h = false) ∧ Ext w wr
set_option maxRecDepth 100000 in
set_option maxHeartbeats 40000000 in
theorem rpoll_any (W : World) (vw vl : Value) (t : Int) (ws : List Hd) (ls : List Ls) (z kind now : Int) (h : RRows W vw ws vl ls) (hw : ws.length ≤ 900) (hl : ls.length ≤ 900) (ht1 : 0 ≤ t) (ht2 : t < 1000000) (hn1 : 0 ≤ now) (hn2 : now ≤ 1000000) :
    Calls Try.prog 17 #[rwV vw vl t, .int .i64 z, .int .i64 kind, .int .i64 now] W fun e W' => RPolled W vw vl t ws ls z kind now e W' := by
  have hR := h
  have hX := hm_blk (hm_blk (hm_blk (Has.nil (Ext.refl W)) .nil 65 #[vw, vl, .int .u64 t]) (by repeat first | exact Locs.nil | refine Locs.cons (mP_loc _ _) ?_ | refine Locs.cons (blkA_loc _ _ _) ?_ | refine Locs.cons (rowA_loc _ _ _ _ _) ?_) 65 #[.slice none 0 0, .slice none 0 0, .int .u64 0]) (by repeat first | exact Locs.nil | refine Locs.cons (mP_loc _ _) ?_ | refine Locs.cons (blkA_loc _ _ _) ?_ | refine Locs.cons (rowA_loc _ _ _ _ _) ?_) 46 #[.int .u64 0, .int .i64 0, .int .i64 0, .int .i64 0, .int .i64 0, .int .i64 0]
  have ea : ∀ (w : World) (o : Obj), (w.alloc o).heap.size = w.heap.size + 1 := fun w o => by simp
  rw [ea, ea] at hX
  clear ea
  obtain ⟨pw, cw, rfl⟩ := ownsRow_slice h.w
  obtain ⟨pl, cl, rfl⟩ := ownsRow_slice h.l
  obtain ⟨L, hL⟩ : ∃ n, ws.length = n := ⟨_, rfl⟩
  obtain ⟨M, hM⟩ : ∃ n, ls.length = n := ⟨_, rfl⟩
  rw [hL] at hX hw hR ⊢
  rw [hM] at hX hl hR ⊢
  have HL := Lib.hid hL
  have HM := Lib.hid hM
  clear hL hM h
  go_enter Try.func17, Try.ntmps17
  go_upto_region 1 with fail
  generalize hw0 : World.alloc (World.alloc (World.alloc W _) _) _ = w1 at *
  generalize hbxn : W.heap.size = bx at *
  have HBX := Lib.hid hbxn
  clear hw0 hbxn
  replace hX : Has W w1 [blkA (bx + 1 + 1) 46 (lsA zeroL), blkA (bx + 1) 65 #[.slice none 0 0, .slice none 0 0, .int .u64 0], blkA bx 65 #[.slice pw L cw, .slice pl M cl, .int .u64 t]] := hX
  by_cases hz1 : z < 1
  · have HO : Hid (rpollO ws ls z kind = none) := Lib.hid (by rw [rpollO, if_pos (Or.inl hz1)])
    have HE : Hid (rpollE ws ls z kind = 1) := Lib.hid (by rw [rpollE, if_pos (Or.inl hz1)])
    have hbw := hX.blk (g := bx) (T := 65) (cs := #[(.slice pw L cw), (.slice pl M cl), .int .u64 t]) (by simp)
    have a0 : World.cell? w1 ⟨bx, 0, none⟩ = some (.slice pw L cw) := hbw.cell 0
    have a1 : World.cell? w1 ⟨bx, 1, none⟩ = some (.slice pl M cl) := hbw.cell 1
    have a2 : World.cell? w1 ⟨bx, 2, none⟩ = some (.int .u64 t) := hbw.cell 2
    have hb8 := hX.blk (g := bx + 1) (T := 65) (cs := #[.slice none 0 0, .slice none 0 0, .int .u64 0]) (by simp)
    have hX2 := ((hX.swap).row (cs := rwA (.slice pw L cw) (.slice pl M cl) t) (by repeat first | exact Locs.nil | refine Locs.cons (mP_loc _ _) ?_ | refine Locs.cons (blkA_loc _ _ _) ?_ | refine Locs.cons (rowA_loc _ _ _ _ _) ?_)).swap
    have hb9 := hX2.blk (g := bx + 1 + 1) (T := 46) (cs := lsA zeroL) (by simp)
    have hX3 := hX2.row (cs := lsA zeroL) (by repeat first | exact Locs.nil | refine Locs.cons (mP_loc _ _) ?_ | refine Locs.cons (blkA_loc _ _ _) ?_ | refine Locs.cons (rowA_loc _ _ _ _ _) ?_)
    have hbr := hX3.blk (g := bx + 1) (T := 65) (cs := rwA (.slice pw L cw) (.slice pl M cl) t) (by simp)
    have hbl := hX3.blk (g := bx + 1 + 1) (T := 46) (cs := lsA zeroL) (by simp)
    go_wp2_with (first | (refine wpList_store_row rfl _ _ _ rfl (bx + 1) (rwA (.slice pw L cw) (.slice pl M cl) t) rfl rfl _ _ hb8 rwInfo rfl (rwA_all _ _ _ _ _ _ _) ?_) | (refine wpList_store_row rfl _ _ _ rfl (bx + 1 + 1) (lsA zeroL) rfl rfl _ _ hb9 (leaseInfo' zeroL) rfl (lsA_all _) ?_))
    refine bodyPost_ret (v := .tuple #[rwV (.slice pw L cw) (.slice pl M cl) t, lsV zeroL, .int .i64 1]) (results_cell3 Try.results17 _ _ (bx + 1) (bx + 1 + 1) 65 46 (rwA (.slice pw L cw) (.slice pl M cl) t) (lsA zeroL) _ _ _ _ rfl hbr Try.underlying65 rfl rwInfo rfl hbl Try.underlying46 rfl (leaseInfo' _)) rfl ?_
    refine ⟨_, _, by rw [HO.out, HE.out]; rfl, ?_, hX3.base, fun g hg => Or.inl hg, fun g hg => Or.inr (Or.inl hg)⟩
    rw [HO.out]
    exact hR.ext hX3.base
  by_cases hz2 : 64 < z
  · have HO : Hid (rpollO ws ls z kind = none) := Lib.hid (by rw [rpollO, if_pos (Or.inr hz2)])
    have HE : Hid (rpollE ws ls z kind = 1) := Lib.hid (by rw [rpollE, if_pos (Or.inr hz2)])
    have hbw := hX.blk (g := bx) (T := 65) (cs := #[(.slice pw L cw), (.slice pl M cl), .int .u64 t]) (by simp)
    have a0 : World.cell? w1 ⟨bx, 0, none⟩ = some (.slice pw L cw) := hbw.cell 0
    have a1 : World.cell? w1 ⟨bx, 1, none⟩ = some (.slice pl M cl) := hbw.cell 1
    have a2 : World.cell? w1 ⟨bx, 2, none⟩ = some (.int .u64 t) := hbw.cell 2
    have hb8 := hX.blk (g := bx + 1) (T := 65) (cs := #[.slice none 0 0, .slice none 0 0, .int .u64 0]) (by simp)
    have hX2 := ((hX.swap).row (cs := rwA (.slice pw L cw) (.slice pl M cl) t) (by repeat first | exact Locs.nil | refine Locs.cons (mP_loc _ _) ?_ | refine Locs.cons (blkA_loc _ _ _) ?_ | refine Locs.cons (rowA_loc _ _ _ _ _) ?_)).swap
    have hb9 := hX2.blk (g := bx + 1 + 1) (T := 46) (cs := lsA zeroL) (by simp)
    have hX3 := hX2.row (cs := lsA zeroL) (by repeat first | exact Locs.nil | refine Locs.cons (mP_loc _ _) ?_ | refine Locs.cons (blkA_loc _ _ _) ?_ | refine Locs.cons (rowA_loc _ _ _ _ _) ?_)
    have hbr := hX3.blk (g := bx + 1) (T := 65) (cs := rwA (.slice pw L cw) (.slice pl M cl) t) (by simp)
    have hbl := hX3.blk (g := bx + 1 + 1) (T := 46) (cs := lsA zeroL) (by simp)
    go_wp2_with (first | (refine wpList_store_row rfl _ _ _ rfl (bx + 1) (rwA (.slice pw L cw) (.slice pl M cl) t) rfl rfl _ _ hb8 rwInfo rfl (rwA_all _ _ _ _ _ _ _) ?_) | (refine wpList_store_row rfl _ _ _ rfl (bx + 1 + 1) (lsA zeroL) rfl rfl _ _ hb9 (leaseInfo' zeroL) rfl (lsA_all _) ?_))
    refine bodyPost_ret (v := .tuple #[rwV (.slice pw L cw) (.slice pl M cl) t, lsV zeroL, .int .i64 1]) (results_cell3 Try.results17 _ _ (bx + 1) (bx + 1 + 1) 65 46 (rwA (.slice pw L cw) (.slice pl M cl) t) (lsA zeroL) _ _ _ _ rfl hbr Try.underlying65 rfl rwInfo rfl hbl Try.underlying46 rfl (leaseInfo' _)) rfl ?_
    refine ⟨_, _, by rw [HO.out, HE.out]; rfl, ?_, hX3.base, fun g hg => Or.inl hg, fun g hg => Or.inr (Or.inl hg)⟩
    rw [HO.out]
    exact hR.ext hX3.base
  by_cases hz3 : (256 : Int) ≤ M
  · have HO : Hid (rpollO ws ls z kind = none) := Lib.hid (by rw [rpollO, if_neg (by omega), if_pos (by rw [HM.out]; omega)])
    have HE : Hid (rpollE ws ls z kind = 3) := Lib.hid (by rw [rpollE, if_neg (by omega), if_pos (by rw [HM.out]; omega)])
    have hbw := hX.blk (g := bx) (T := 65) (cs := #[(.slice pw L cw), (.slice pl M cl), .int .u64 t]) (by simp)
    have a0 : World.cell? w1 ⟨bx, 0, none⟩ = some (.slice pw L cw) := hbw.cell 0
    have a1 : World.cell? w1 ⟨bx, 1, none⟩ = some (.slice pl M cl) := hbw.cell 1
    have a2 : World.cell? w1 ⟨bx, 2, none⟩ = some (.int .u64 t) := hbw.cell 2
    have hb8 := hX.blk (g := bx + 1) (T := 65) (cs := #[.slice none 0 0, .slice none 0 0, .int .u64 0]) (by simp)
    have hX2 := ((hX.swap).row (cs := rwA (.slice pw L cw) (.slice pl M cl) t) (by repeat first | exact Locs.nil | refine Locs.cons (mP_loc _ _) ?_ | refine Locs.cons (blkA_loc _ _ _) ?_ | refine Locs.cons (rowA_loc _ _ _ _ _) ?_)).swap
    have hb9 := hX2.blk (g := bx + 1 + 1) (T := 46) (cs := lsA zeroL) (by simp)
    have hX3 := hX2.row (cs := lsA zeroL) (by repeat first | exact Locs.nil | refine Locs.cons (mP_loc _ _) ?_ | refine Locs.cons (blkA_loc _ _ _) ?_ | refine Locs.cons (rowA_loc _ _ _ _ _) ?_)
    have hbr := hX3.blk (g := bx + 1) (T := 65) (cs := rwA (.slice pw L cw) (.slice pl M cl) t) (by simp)
    have hbl := hX3.blk (g := bx + 1 + 1) (T := 46) (cs := lsA zeroL) (by simp)
    go_wp2_with (first | (refine wpList_store_row rfl _ _ _ rfl (bx + 1) (rwA (.slice pw L cw) (.slice pl M cl) t) rfl rfl _ _ hb8 rwInfo rfl (rwA_all _ _ _ _ _ _ _) ?_) | (refine wpList_store_row rfl _ _ _ rfl (bx + 1 + 1) (lsA zeroL) rfl rfl _ _ hb9 (leaseInfo' zeroL) rfl (lsA_all _) ?_))
    refine bodyPost_ret (v := .tuple #[rwV (.slice pw L cw) (.slice pl M cl) t, lsV zeroL, .int .i64 3]) (results_cell3 Try.results17 _ _ (bx + 1) (bx + 1 + 1) 65 46 (rwA (.slice pw L cw) (.slice pl M cl) t) (lsA zeroL) _ _ _ _ rfl hbr Try.underlying65 rfl rwInfo rfl hbl Try.underlying46 rfl (leaseInfo' _)) rfl ?_
    refine ⟨_, _, by rw [HO.out, HE.out]; rfl, ?_, hX3.base, fun g hg => Or.inl hg, fun g hg => Or.inr (Or.inl hg)⟩
    rw [HO.out]
    exact hR.ext hX3.base
  have hzz : ¬ (z < 1 ∨ 64 < z) := by omega
  have hMM : ¬ 256 ≤ ls.length := by rw [HM.out]; omega
  have HZ := Lib.hid hzz
  have HMM := Lib.hid hMM
  have hix0 := fun W => (index_2 (W := W) z 0).1
  have hix1 := fun W => (index_2 (W := W) z 0).2
  have a1 : w1.cell? ⟨bx, 1, none⟩ = some (.slice pl M cl) := (hX.blk (g := bx) (T := 65) (cs := #[.slice pw L cw, .slice pl M cl, .int .u64 t]) (by simp)).cell 1
  clear hzz hMM
  go_wp2_with fail
  clear a1
  go_loopw [32] (fun v wr => PoutRel w1 ws z kind v wr) (fun v _ => (3 - intOf v).toNat)
  case atStart => exact ⟨0, by omega, rfl, by omega, by omega, Ext.refl _⟩
  case round =>
    obtain ⟨j, hj, rfl, hj1, hj2, hE⟩ := hrel
    replace hX := hX.ext (by repeat first | exact Locs.nil | refine Locs.cons (mP_loc _ _) ?_ | refine Locs.cons (blkA_loc _ _ _) ?_ | refine Locs.cons (rowA_loc _ _ _ _ _) ?_) hE
    rcases (show j = 0 ∨ j = 1 ∨ j = 2 by omega) with hjj | hjj | hjj
    · clear hj1 hj2
      rw [show (j : Int) = 0 by omega]
      have HN1 := trivial
      obtain ⟨wo, hwo⟩ : ∃ wo : World, wo = wr := ⟨_, rfl⟩
      rw [← hwo] at hX hE ⊢
      clear hwo
      have hbw := hX.blk (g := bx) (T := 65) (cs := #[(.slice pw L cw), (.slice pl M cl), .int .u64 t]) (by simp)
      have a0 : World.cell? wo ⟨bx, 0, none⟩ = some (.slice pw L cw) := hbw.cell 0
      have a1 : World.cell? wo ⟨bx, 1, none⟩ = some (.slice pl M cl) := hbw.cell 1
      have a2 : World.cell? wo ⟨bx, 2, none⟩ = some (.int .u64 t) := hbw.cell 2
      go_wp2_with fail
      clear a0 a1 a2 hbw
      go_loopw [38] (fun v wr => PinRel wo ws z kind v wr) (fun v _ => ((L : Int) + 1 - intOf v).toNat)
      case atStart => exact ⟨[], ws, rfl, rfl, by simp, Ext.refl _⟩
      case round =>
        obtain ⟨pre, post, hx, rfl, hno, hE2⟩ := hrel
        cases post with
        | nil =>
          obtain rfl : ws = pre := by simpa using hx
          have hl2 : ¬ ((ws.length : Int) < L) := by rw [← HL.out]; omega
          have HNO := Lib.hid hno
          clear hx hno
          go_wp2_with fail
          exact ⟨(⟨1, by omega, rfl, fun _ => HNO.out, by omega, hE.trans hE2⟩), by simp [intOf]⟩
        | cons x post =>
          have hl2 : (pre.length : Int) < L := by rw [← HL.out, hx]; simp; omega
          have hrw := ownsRow_ext (hR.ext hX.base).w hE2
          rw [HL.out, hx] at hrw
          obtain ⟨g, rfl, -, hg, x0, x1, x2, x3, x4⟩ := held_at (by rw [← HL.out, hx]) hrw
          have HX := Lib.hid hx
          have HNO := Lib.hid hno
          clear hx hno hrw
          obtain ⟨xr, xk, xi, xw, xs⟩ := x
          obtain ⟨bw, hbw⟩ : ∃ b, (xw == z) = b := ⟨_, rfl⟩
          obtain ⟨bk, hbk⟩ : ∃ b, (xk == kind) = b := ⟨_, rfl⟩
          cases bw with
          | false =>
            have HBW : Hid (wants z kind ⟨xr, xk, xi, xw, xs⟩ = false) := Lib.hid (by rw [wants, hbw]; rfl)
            clear hbk
            go_wp2_with fail
            refine ⟨⟨pre ++ [⟨xr, xk, xi, xw, xs⟩], post, by rw [HX.out]; simp, by simp, ?_, hE2.trans (ext_alloc _ _)⟩, by simp [intOf]; omega⟩
            intro h hh
            rcases List.mem_append.1 hh with h1 | h1
            · exact HNO.out h h1
            · simp at h1; subst h1; exact HBW.out
          | true =>
            cases bk with
            | false =>
              have HBW : Hid (wants z kind ⟨xr, xk, xi, xw, xs⟩ = false) := Lib.hid (by rw [wants, hbk]; simp)
              go_wp2_with fail
              refine ⟨⟨pre ++ [⟨xr, xk, xi, xw, xs⟩], post, by rw [HX.out]; simp, by simp, ?_, hE2.trans (ext_alloc _ _)⟩, by simp [intOf]; omega⟩
              intro h hh
              rcases List.mem_append.1 hh with h1 | h1
              · exact HNO.out h h1
              · simp at h1; subst h1; exact HBW.out
            | true =>
              have HBW : Hid (wants z kind ⟨xr, xk, xi, xw, xs⟩ = true) := Lib.hid (by rw [wants, hbw, hbk]; rfl)
              have HPK : Hid (rpick ws z kind = some (pre, ⟨xr, xk, xi, xw, xs⟩, post)) := Lib.hid (by (rw [rpick, HX.out, splitH_some HNO.out HBW.out]))
              have HO : Hid (rpollO ws ls z kind = some (pre, ⟨xr, xk, xi, xw, xs⟩, post)) := Lib.hid (by rw [rpollO, if_neg HZ.out, if_neg HMM.out, HPK.out])
              have HE : Hid (rpollE ws ls z kind = 0) := Lib.hid (by rw [rpollE, if_neg HZ.out, if_neg HMM.out, HPK.out]; rfl)
              replace hX := hX.ext (by repeat first | exact Locs.nil | refine Locs.cons (mP_loc _ _) ?_ | refine Locs.cons (blkA_loc _ _ _) ?_ | refine Locs.cons (rowA_loc _ _ _ _ _) ?_) hE2
              clear hE2
              go_upto_region 12 with fail
              replace hX := hm_blk hX (by repeat first | exact Locs.nil | refine Locs.cons (mP_loc _ _) ?_ | refine Locs.cons (blkA_loc _ _ _) ?_ | refine Locs.cons (rowA_loc _ _ _ _ _) ?_) 95 #[.int .i64 xr, .int .i64 xk, .int .i64 xi, .int .i64 xw, .int .i64 xs]
              generalize hw : World.alloc wr _ = w2 at *
              generalize wr.heap.size = hb at *
              clear hw x0 x1 x2 x3 x4
              have hbw := hX.blk (g := bx) (T := 65) (cs := #[(.slice (some ⟨g, 0, none⟩) L cw), (.slice pl M cl), .int .u64 t]) (by simp)
              have a0 : World.cell? w2 ⟨bx, 0, none⟩ = some (.slice (some ⟨g, 0, none⟩) L cw) := hbw.cell 0
              have a1 : World.cell? w2 ⟨bx, 1, none⟩ = some (.slice pl M cl) := hbw.cell 1
              have a2 : World.cell? w2 ⟨bx, 2, none⟩ = some (.int .u64 t) := hbw.cell 2
              have fz : w2.frozen? ⟨bx, 2, none⟩ = false := hbw.frozen 2
              have hlt := hbw.lt
              go_upto_region 13 with fail
              clear a0 a1 a2 fz hlt hbw
              replace hX := hX.fourth.set (by repeat first | exact Locs.nil | refine Locs.cons (mP_loc _ _) ?_ | refine Locs.cons (blkA_loc _ _ _) ?_ | refine Locs.cons (rowA_loc _ _ _ _ _) ?_) 2 (.int .u64 (t + 1))
              generalize hw : World.setCell w2 _ _ = w3 at *
              clear hw
              replace hX : Has W w3 [blkA bx 65 #[.slice (some ⟨g, 0, none⟩) L cw, .slice pl M cl, .int .u64 (t + 1)], blkA hb 95 #[.int .i64 xr, .int .i64 xk, .int .i64 xi, .int .i64 xw, .int .i64 xs], blkA (bx + 1 + 1) 46 (lsA zeroL), blkA (bx + 1) 65 #[.slice none 0 0, .slice none 0 0, .int .u64 0]] := hX
              have hbw := hX.blk (g := bx) (T := 65) (cs := #[(.slice (some ⟨g, 0, none⟩) L cw), (.slice pl M cl), .int .u64 (t + 1)]) (by simp)
              have a0 : World.cell? w3 ⟨bx, 0, none⟩ = some (.slice (some ⟨g, 0, none⟩) L cw) := hbw.cell 0
              have a1 : World.cell? w3 ⟨bx, 1, none⟩ = some (.slice pl M cl) := hbw.cell 1
              have a2 : World.cell? w3 ⟨bx, 2, none⟩ = some (.int .u64 (t + 1)) := hbw.cell 2
              have hbh := hX.blk (g := hb) (T := 95) (cs := #[.int .i64 xr, .int .i64 xk, .int .i64 xi, .int .i64 xw, .int .i64 xs]) (by simp)
              have y0 : w3.cell? ⟨hb, 0, none⟩ = some (.int .i64 xr) := hbh.cell 0
              have y1 : w3.cell? ⟨hb, 1, none⟩ = some (.int .i64 xk) := hbh.cell 1
              have y2 : w3.cell? ⟨hb, 2, none⟩ = some (.int .i64 xi) := hbh.cell 2
              go_upto_region 14 with fail
              clear a0 a1 a2 hbw hbh y0 y1 y2
              replace hX := hm_blk hX (by repeat first | exact Locs.nil | refine Locs.cons (mP_loc _ _) ?_ | refine Locs.cons (blkA_loc _ _ _) ?_ | refine Locs.cons (rowA_loc _ _ _ _ _) ?_) 46 #[.int .u64 (t + 1), .int .i64 xr, .int .i64 xk, .int .i64 xi, .int .i64 z, .int .i64 (now + 20)]
              generalize hw : World.alloc w3 _ = w4 at *
              generalize w3.heap.size = lb at *
              clear hw
              have hbw := hX.blk (g := bx) (T := 65) (cs := #[(.slice (some ⟨g, 0, none⟩) L cw), (.slice pl M cl), .int .u64 (t + 1)]) (by simp)
              have a0 : World.cell? w4 ⟨bx, 0, none⟩ = some (.slice (some ⟨g, 0, none⟩) L cw) := hbw.cell 0
              have a1 : World.cell? w4 ⟨bx, 1, none⟩ = some (.slice pl M cl) := hbw.cell 1
              have a2 : World.cell? w4 ⟨bx, 2, none⟩ = some (.int .u64 (t + 1)) := hbw.cell 2
              have hrw := (hR.ext hX.base).w
              rw [HX.out] at hrw
              have hHL : Hid ((pre ++ (⟨xr, xk, xi, xw, xs⟩ : Hd) :: post).length = L) := Lib.hid (by rw [← HX.out]; exact HL.out)
              go_wp2_with fail
              refine (without_at (pre := pre) (x := ⟨xr, xk, xi, xw, xs⟩) (post := post) (base := 0) (by rw [hHL.out] at hrw ⊢; exact hrw) (by rw [hHL.out]; omega)).mono ?_
              rintro e w5 ⟨⟨v5, rfl, hown5⟩, hE5⟩
              clear a0 a1 a2 hbw hrw
              replace hX := hX.add (by repeat first | exact Locs.nil | refine Locs.cons (mP_loc _ _) ?_ | refine Locs.cons (blkA_loc _ _ _) ?_ | refine Locs.cons (rowA_loc _ _ _ _ _) ?_) hE5 (p := rowA 95 5 v5 (pre ++ post).length (flatH (pre ++ post))) ⟨ownsRow_base hown5 (fun _ _ => Nat.zero_le _), rfl⟩ (fun k hk => (hown5.lt k hk).1)
              obtain ⟨p5, c5, rfl⟩ := ownsRow_slice hown5
              obtain ⟨K5, hK5⟩ : ∃ n, (pre ++ post).length = n := ⟨_, rfl⟩
              rw [hK5] at hX ⊢
              have HK5 := Lib.hid hK5
              clear hK5 hown5
              have hbw := hX.blk (g := bx) (T := 65) (cs := #[(.slice (some ⟨g, 0, none⟩) L cw), (.slice pl M cl), .int .u64 (t + 1)]) (by simp)
              have a0 : World.cell? w5 ⟨bx, 0, none⟩ = some (.slice (some ⟨g, 0, none⟩) L cw) := hbw.cell 0
              have a1 : World.cell? w5 ⟨bx, 1, none⟩ = some (.slice pl M cl) := hbw.cell 1
              have a2 : World.cell? w5 ⟨bx, 2, none⟩ = some (.int .u64 (t + 1)) := hbw.cell 2
              have fz : w5.frozen? ⟨bx, 0, none⟩ = false := hbw.frozen 0
              have hlt := hbw.lt
              go_upto_region 15 with fail
              clear a0 a1 a2 fz hlt hbw hE5
              replace hX := hX.third.set (by repeat first | exact Locs.nil | refine Locs.cons (mP_loc _ _) ?_ | refine Locs.cons (blkA_loc _ _ _) ?_ | refine Locs.cons (rowA_loc _ _ _ _ _) ?_) 0 (.slice p5 K5 c5)
              generalize hw : World.setCell w5 _ _ = w6 at *
              clear hw
              replace hX : Has W w6 [blkA bx 65 #[.slice p5 K5 c5, .slice pl M cl, .int .u64 (t + 1)], rowA 95 5 (.slice p5 K5 c5) K5 (flatH (pre ++ post)), blkA lb 46 #[.int .u64 (t + 1), .int .i64 xr, .int .i64 xk, .int .i64 xi, .int .i64 z, .int .i64 (now + 20)], blkA hb 95 #[.int .i64 xr, .int .i64 xk, .int .i64 xi, .int .i64 xw, .int .i64 xs], blkA (bx + 1 + 1) 46 (lsA zeroL), blkA (bx + 1) 65 #[.slice none 0 0, .slice none 0 0, .int .u64 0]] := hX
              obtain ⟨i0, hi0, hi1, hi2, hi3⟩ := info_parts6 lsInfo
              have hrow := (hR.ext hX.base).l
              have hlN := flatL_length ls
              rw [HM.out] at hlN hrow
              have hbw := hX.blk (g := bx) (T := 65) (cs := #[(.slice p5 K5 c5), (.slice pl M cl), .int .u64 (t + 1)]) (by simp)
              have a0 : World.cell? w6 ⟨bx, 0, none⟩ = some (.slice p5 K5 c5) := hbw.cell 0
              have a1 : World.cell? w6 ⟨bx, 1, none⟩ = some (.slice pl M cl) := hbw.cell 1
              have a2 : World.cell? w6 ⟨bx, 2, none⟩ = some (.int .u64 (t + 1)) := hbw.cell 2
              have hbl := hX.blk (g := lb) (T := 46) (cs := #[.int .u64 (t + 1), .int .i64 xr, .int .i64 xk, .int .i64 xi, .int .i64 z, .int .i64 (now + 20)]) (by simp)
              have d0 : ∀ x : Of (fun X => Ext w6 X), x.val.cell? ⟨bx, 1, none⟩ = some (.slice pl M cl) := fun x => (x.property.cell _ _ hbw.lt).trans a1
              have d1 : ∀ x : Of (fun X => Ext w6 X), x.val.cell? ⟨lb, 0, none⟩ = some (.int .u64 (t + 1)) := fun x => (x.property.cell _ _ hbl.lt).trans (hbl.cell 0)
              have d2 : ∀ x : Of (fun X => Ext w6 X), x.val.cell? ⟨lb, 1, none⟩ = some (.int .i64 xr) := fun x => (x.property.cell _ _ hbl.lt).trans (hbl.cell 1)
              have d3 : ∀ x : Of (fun X => Ext w6 X), x.val.cell? ⟨lb, 2, none⟩ = some (.int .i64 xk) := fun x => (x.property.cell _ _ hbl.lt).trans (hbl.cell 2)
              have d4 : ∀ x : Of (fun X => Ext w6 X), x.val.cell? ⟨lb, 3, none⟩ = some (.int .i64 xi) := fun x => (x.property.cell _ _ hbl.lt).trans (hbl.cell 3)
              have d5 : ∀ x : Of (fun X => Ext w6 X), x.val.cell? ⟨lb, 4, none⟩ = some (.int .i64 z) := fun x => (x.property.cell _ _ hbl.lt).trans (hbl.cell 4)
              have d6 : ∀ x : Of (fun X => Ext w6 X), x.val.cell? ⟨lb, 5, none⟩ = some (.int .i64 (now + 20)) := fun x => (x.property.cell _ _ hbl.lt).trans (hbl.cell 5)
              have hFd := (Ext.refl w6).drew
              have hne_ : Nonempty (Of ((fun X => Ext w6 X))) := ⟨⟨_, hFd⟩⟩
              refine region_planZ 8 (.seg [1,2,4] [true,true,true] (.fork 0 (.fork 3 (.seg [5,6,7] [false,false,true] .done) 5 (.seg [3,6,7] [false,false,true] .done)) 5 (.seg [0,3,6,7] [false,false,false,true] .done))) ((fun X => Ext w6 X)) (by kernel_rfl) (by kernel_rfl) hFd ?_
              refine walkZ_seg ?_
              simp only [List.filterMap_cons, List.filterMap_nil, List.getElem?_cons_zero, List.getElem?_cons_succ]
              refine steps_quiet 3 (by kernel_rfl) ?_
              simp only [List.take_succ_cons, List.take_zero, List.drop_succ_cons, List.drop_zero]
              repeat (go_big_quiet_step (fail))
              refine wpQuiet_nil ?_
              clear d0 d1 d2 d3 d4 d5 d6 a0 a1 a2 hbw hbl
              refine steps_end ?_
              refine walkZ_fork ?_ ?_
              all_goals simp only [List.filterMap_cons, List.filterMap_nil, List.getElem?_cons_zero, List.getElem?_cons_succ]
              · refine steps_want rfl (fun K hK => ?_)
                go_simp
                have hlit := World.ownsRow_made (base := 0) (e := 46) (size := 6) w6 #[] 0 (Nat.zero_le _) (by simp) rfl
                have hE6 : Ext w6 ((w6).alloc (.cells #[] 46)).drew := (ext_alloc _ _).drew
                have hlb : ∀ k, (Value.slice (some ⟨(w6).heap.size, 0, none⟩) 0 0).ownBlock = some k → (w6).heap.size ≤ k := fun k hk => Nat.le_of_eq (by simpa [Value.ownBlock] using hk)
                refine hK _ _ (fun X => Ext w6 X) (hE6) (fun _ h => h) ?_
                clear hK K
                try simp only [Act.put, List.setIfInBounds_toArray, List.set_cons_succ, List.set_cons_zero]
                refine steps_end ?_
                refine walkZ_fork ?_ ?_
                all_goals simp only [List.filterMap_cons, List.filterMap_nil, List.getElem?_cons_zero, List.getElem?_cons_succ]
                · refine steps_want rfl (fun K hK => ?_)
                  refine wp_append_new _ _ 38 rfl 46 i0 (.agg (lsA zeroL)) 6 48 Try.underlying38 hi0 hi1 hi2 hi3 rfl (by decide) (.slice (some ⟨(w6).heap.size, 0, none⟩) 0 0) 0 [] rfl (World.ownsRow.drew hlit) pl M cl (flatL ls) rfl hlN (row_nil hrow) (row_news (ownsRow_ext hrow hE6)) flatL_one (by unfold maxLen; omega) (by omega) ?_
                  intro v7 w7 hown7 hg7 hf7
                  obtain ⟨hE7, hb7⟩ := fresh_ext hE6 hlb hg7 hf7
                  refine hK _ _ (fun X => Ext w6 X) (hE7) (fun _ h => h) ?_
                  clear hK K
                  try simp only [Act.put, List.setIfInBounds_toArray, List.set_cons_succ, List.set_cons_zero]
                  refine steps_end ?_
                  refine walkZ_seg ?_
                  simp only [List.filterMap_cons, List.filterMap_nil, List.getElem?_cons_zero, List.getElem?_cons_succ]
                  refine steps_want rfl (fun K hK => ?_)
                  go_simp
                  have hE8 : Ext w6 (w7.alloc (.cells ((flatL [⟨t + 1, xr, xk, xi, z, now + 20⟩])).toArray 46)) := hE7.alloc _
                  have hB8 : Blk (w7.alloc (.cells ((flatL [⟨t + 1, xr, xk, xi, z, now + 20⟩])).toArray 46)) w7.heap.size 46 ((flatL [⟨t + 1, xr, xk, xi, z, now + 20⟩])).toArray := Blk.new _ _ _
                  refine hK _ _ (fun X => Ext w6 X) (hE8) (fun _ h => h) ?_
                  clear hK K
                  try simp only [Act.put, List.setIfInBounds_toArray, List.set_cons_succ, List.set_cons_zero]
                  refine steps_want rfl (fun K hK => ?_)
                  refine wp_append_new _ _ 38 rfl 46 i0 (.agg (lsA zeroL)) 6 48 Try.underlying38 hi0 hi1 hi2 hi3 rfl (by decide) v7 _ _ rfl (hown7.alloc _) (some ⟨w7.heap.size, 0, none⟩) 1 1 (flatL [⟨t + 1, xr, xk, xi, z, now + 20⟩]) rfl rfl (fun h => nomatch h) (news_blk hB8) flatL_one (by unfold maxLen; omega) (by omega) ?_
                  intro v9 w9 hown9 hg9 hf9
                  obtain ⟨hE9, hb9⟩ := fresh_ext hE8 hb7 hg9 hf9
                  refine hK _ _ (fun X => Ext w6 X) (hE9) (fun _ h => h) ?_
                  clear hK K
                  try simp only [Act.put, List.setIfInBounds_toArray, List.set_cons_succ, List.set_cons_zero]
                  obtain ⟨p9, c9, rfl⟩ := ownsRow_slice hown9
                  simp only [Nat.zero_add] at hb9 hown9
                  refine steps_quiet 1 (by kernel_rfl) ?_
                  simp only [List.take_succ_cons, List.take_zero, List.drop_succ_cons, List.drop_zero]
                  repeat (go_big_quiet_step (fail))
                  refine wpQuiet_nil ?_
                  replace hX := (hX.add (by repeat first | exact Locs.nil | refine Locs.cons (mP_loc _ _) ?_ | refine Locs.cons (blkA_loc _ _ _) ?_ | refine Locs.cons (rowA_loc _ _ _ _ _) ?_) hE9 (p := rowA 46 6 (.slice p9 (M + 1) c9) (M + 1) (flatL (ls ++ [⟨t + 1, xr, xk, xi, z, now + 20⟩]))) ⟨by rw [flatL_append]; simpa using hown9, rfl⟩ hb9).swap
                  clear hown9 hg9 hf9 hown7 hg7 hf7 hB8 hrow hE9 hE7 hE8 hb7 hb9
                  have hbw := hX.blk (g := bx) (T := 65) (cs := #[(.slice p5 K5 c5), (.slice pl M cl), .int .u64 (t + 1)]) (by simp)
                  have a0 : World.cell? w9 ⟨bx, 0, none⟩ = some (.slice p5 K5 c5) := hbw.cell 0
                  have a1 : World.cell? w9 ⟨bx, 1, none⟩ = some (.slice pl M cl) := hbw.cell 1
                  have a2 : World.cell? w9 ⟨bx, 2, none⟩ = some (.int .u64 (t + 1)) := hbw.cell 2
                  have fz : w9.frozen? ⟨bx, 1, none⟩ = false := hbw.frozen 1
                  have hlt := hbw.lt
                  refine steps_end ?_
                  refine walkZ_done rfl rfl (fun K hK => ?_)
                  go_simp
                  refine hK _ _ ?_
                  clear hK K
                  try simp only [Act.put, List.setIfInBounds_toArray, List.set_cons_succ, List.set_cons_zero]
                  clear a0 a1 a2 fz hlt hbw
                  replace hX := hX.set (by repeat first | exact Locs.nil | refine Locs.cons (mP_loc _ _) ?_ | refine Locs.cons (blkA_loc _ _ _) ?_ | refine Locs.cons (rowA_loc _ _ _ _ _) ?_) 1 (.slice p9 (M + 1) c9)
                  generalize hw : World.setCell w9 _ _ = w10 at *
                  clear hw
                  replace hX : Has W w10 [blkA bx 65 #[.slice p5 K5 c5, .slice p9 (M + 1) c9, .int .u64 (t + 1)], rowA 46 6 (.slice p9 (M + 1) c9) (M + 1) (flatL (ls ++ [⟨t + 1, xr, xk, xi, z, now + 20⟩])), rowA 95 5 (.slice p5 K5 c5) K5 (flatH (pre ++ post)), blkA lb 46 #[.int .u64 (t + 1), .int .i64 xr, .int .i64 xk, .int .i64 xi, .int .i64 z, .int .i64 (now + 20)], blkA hb 95 #[.int .i64 xr, .int .i64 xk, .int .i64 xi, .int .i64 xw, .int .i64 xs], blkA (bx + 1 + 1) 46 (lsA zeroL), blkA (bx + 1) 65 #[.slice none 0 0, .slice none 0 0, .int .u64 0]] := hX
                  go_upto_region 16 with fail
                  have hbw := hX.blk (g := bx) (T := 65) (cs := #[.slice p5 K5 c5, .slice p9 (M + 1) c9, .int .u64 (t + 1)]) (by simp)
                  have hbl := hX.blk (g := lb) (T := 46) (cs := #[.int .u64 (t + 1), .int .i64 xr, .int .i64 xk, .int .i64 xi, .int .i64 z, .int .i64 (now + 20)]) (by simp)
                  have d0 : ∀ x : Of (fun X => Blk X bx 65 #[.slice p5 K5 c5, .slice p9 (M + 1) c9, .int .u64 (t + 1)] ∧ Blk X lb 46 #[.int .u64 (t + 1), .int .i64 xr, .int .i64 xk, .int .i64 xi, .int .i64 z, .int .i64 (now + 20)]), x.val.cell? ⟨bx, 0, none⟩ = some (.slice p5 K5 c5) := fun x => x.property.1.cell 0
                  have d1 : ∀ x : Of (fun X => Blk X bx 65 #[.slice p5 K5 c5, .slice p9 (M + 1) c9, .int .u64 (t + 1)] ∧ Blk X lb 46 #[.int .u64 (t + 1), .int .i64 xr, .int .i64 xk, .int .i64 xi, .int .i64 z, .int .i64 (now + 20)]), x.val.cell? ⟨bx, 1, none⟩ = some (.slice p9 (M + 1) c9) := fun x => x.property.1.cell 1
                  have d2 : ∀ x : Of (fun X => Blk X bx 65 #[.slice p5 K5 c5, .slice p9 (M + 1) c9, .int .u64 (t + 1)] ∧ Blk X lb 46 #[.int .u64 (t + 1), .int .i64 xr, .int .i64 xk, .int .i64 xi, .int .i64 z, .int .i64 (now + 20)]), x.val.cell? ⟨bx, 2, none⟩ = some (.int .u64 (t + 1)) := fun x => x.property.1.cell 2
                  have e0 : ∀ x : Of (fun X => Blk X bx 65 #[.slice p5 K5 c5, .slice p9 (M + 1) c9, .int .u64 (t + 1)] ∧ Blk X lb 46 #[.int .u64 (t + 1), .int .i64 xr, .int .i64 xk, .int .i64 xi, .int .i64 z, .int .i64 (now + 20)]), x.val.cell? ⟨lb, 0, none⟩ = some (.int .u64 (t + 1)) := fun x => x.property.2.cell 0
                  have e1 : ∀ x : Of (fun X => Blk X bx 65 #[.slice p5 K5 c5, .slice p9 (M + 1) c9, .int .u64 (t + 1)] ∧ Blk X lb 46 #[.int .u64 (t + 1), .int .i64 xr, .int .i64 xk, .int .i64 xi, .int .i64 z, .int .i64 (now + 20)]), x.val.cell? ⟨lb, 1, none⟩ = some (.int .i64 xr) := fun x => x.property.2.cell 1
                  have e2 : ∀ x : Of (fun X => Blk X bx 65 #[.slice p5 K5 c5, .slice p9 (M + 1) c9, .int .u64 (t + 1)] ∧ Blk X lb 46 #[.int .u64 (t + 1), .int .i64 xr, .int .i64 xk, .int .i64 xi, .int .i64 z, .int .i64 (now + 20)]), x.val.cell? ⟨lb, 2, none⟩ = some (.int .i64 xk) := fun x => x.property.2.cell 2
                  have e3 : ∀ x : Of (fun X => Blk X bx 65 #[.slice p5 K5 c5, .slice p9 (M + 1) c9, .int .u64 (t + 1)] ∧ Blk X lb 46 #[.int .u64 (t + 1), .int .i64 xr, .int .i64 xk, .int .i64 xi, .int .i64 z, .int .i64 (now + 20)]), x.val.cell? ⟨lb, 3, none⟩ = some (.int .i64 xi) := fun x => x.property.2.cell 3
                  have e4 : ∀ x : Of (fun X => Blk X bx 65 #[.slice p5 K5 c5, .slice p9 (M + 1) c9, .int .u64 (t + 1)] ∧ Blk X lb 46 #[.int .u64 (t + 1), .int .i64 xr, .int .i64 xk, .int .i64 xi, .int .i64 z, .int .i64 (now + 20)]), x.val.cell? ⟨lb, 4, none⟩ = some (.int .i64 z) := fun x => x.property.2.cell 4
                  have e5 : ∀ x : Of (fun X => Blk X bx 65 #[.slice p5 K5 c5, .slice p9 (M + 1) c9, .int .u64 (t + 1)] ∧ Blk X lb 46 #[.int .u64 (t + 1), .int .i64 xr, .int .i64 xk, .int .i64 xi, .int .i64 z, .int .i64 (now + 20)]), x.val.cell? ⟨lb, 5, none⟩ = some (.int .i64 (now + 20)) := fun x => x.property.2.cell 5
                  have hFd := (show Blk w10.drew bx 65 #[.slice p5 K5 c5, .slice p9 (M + 1) c9, .int .u64 (t + 1)] ∧ Blk w10.drew lb 46 #[.int .u64 (t + 1), .int .i64 xr, .int .i64 xk, .int .i64 xi, .int .i64 z, .int .i64 (now + 20)] from ⟨hbw.of_eq rfl, hbl.of_eq rfl⟩)
                  have hne_ : Nonempty (Of ((fun X => Blk X bx 65 #[.slice p5 K5 c5, .slice p9 (M + 1) c9, .int .u64 (t + 1)] ∧ Blk X lb 46 #[.int .u64 (t + 1), .int .i64 xr, .int .i64 xk, .int .i64 xi, .int .i64 z, .int .i64 (now + 20)]))) := ⟨⟨_, hFd⟩⟩
                  refine region_steps [0,1,2,3,4] [true,true,false,false,true] ((fun X => Blk X bx 65 #[.slice p5 K5 c5, .slice p9 (M + 1) c9, .int .u64 (t + 1)] ∧ Blk X lb 46 #[.int .u64 (t + 1), .int .i64 xr, .int .i64 xk, .int .i64 xi, .int .i64 z, .int .i64 (now + 20)])) (by kernel_rfl) (by kernel_rfl) hFd ?_
                  simp only [List.filterMap_cons, List.filterMap_nil, List.getElem?_cons_zero, List.getElem?_cons_succ]
                  refine steps_quiet 2 (by kernel_rfl) ?_
                  simp only [List.take_succ_cons, List.take_zero, List.drop_succ_cons, List.drop_zero]
                  repeat (go_big_quiet_step (fail))
                  refine wpQuiet_nil ?_
                  clear d0 d1 d2 e0 e1 e2 e3 e4 e5 hbw hbl hFd
                  replace hX := hX.ext (by repeat first | exact Locs.nil | refine Locs.cons (mP_loc _ _) ?_ | refine Locs.cons (blkA_loc _ _ _) ?_ | refine Locs.cons (rowA_loc _ _ _ _ _) ?_) (Ext.refl w10).drew
                  generalize World.drew w10 = w11 at *
                  have hb8 := hX.blk (g := bx + 1) (T := 65) (cs := #[.slice none 0 0, .slice none 0 0, .int .u64 0]) (by simp)
                  replace hX := (Has.last7 hX).row (cs := rwA (.slice p5 K5 c5) (.slice p9 (M + 1) c9) (t + 1)) (by repeat first | exact Locs.nil | refine Locs.cons (mP_loc _ _) ?_ | refine Locs.cons (blkA_loc _ _ _) ?_ | refine Locs.cons (rowA_loc _ _ _ _ _) ?_)
                  refine steps_want rfl (fun K hK => ?_)
                  refine wp_store_row _ _ _ rfl (bx + 1) (rwA (.slice p5 K5 c5) (.slice p9 (M + 1) c9) (t + 1)) rfl rfl _ _ hb8 rwInfo rfl (rwA_all _ _ _ _ _ _ _) ?_
                  refine hK _ _ _ ⟨hX.blk (by simp), hX.blk (by simp)⟩ (fun _ h => h) ?_
                  clear hK K hb8
                  try simp only [Act.put, List.setIfInBounds_toArray, List.set_cons_succ, List.set_cons_zero]
                  generalize World.setRow w11 _ _ = w12 at *
                  have hb9 := hX.blk (g := bx + 1 + 1) (T := 46) (cs := lsA zeroL) (by simp)
                  replace hX := (Has.last7 hX).row (cs := lsA ⟨t + 1, xr, xk, xi, z, now + 20⟩) (by repeat first | exact Locs.nil | refine Locs.cons (mP_loc _ _) ?_ | refine Locs.cons (blkA_loc _ _ _) ?_ | refine Locs.cons (rowA_loc _ _ _ _ _) ?_)
                  refine steps_want rfl (fun K hK => ?_)
                  refine wp_store_row _ _ _ rfl (bx + 1 + 1) (lsA ⟨t + 1, xr, xk, xi, z, now + 20⟩) rfl rfl _ _ hb9 (leaseInfo' _) rfl (lsA_all _) ?_
                  refine hK _ _ _ ⟨hX.blk (by simp), hX.blk (by simp)⟩ (fun _ h => h) ?_
                  clear hK K hb9
                  try simp only [Act.put, List.setIfInBounds_toArray, List.set_cons_succ, List.set_cons_zero]
                  generalize World.setRow w12 _ _ = w13 at *
                  refine steps_quiet 1 (by kernel_rfl) ?_
                  simp only [List.take_succ_cons, List.take_zero, List.drop_succ_cons, List.drop_zero]
                  repeat (go_big_quiet_step (fail))
                  refine wpQuiet_nil ?_
                  refine steps_nil ?_
                  try simp only [Act.put]
                  have hbr := hX.blk (g := bx + 1) (T := 65) (cs := rwA (.slice p5 K5 c5) (.slice p9 (M + 1) c9) (t + 1)) (by simp)
                  have hbl := hX.blk (g := bx + 1 + 1) (T := 46) (cs := lsA ⟨t + 1, xr, xk, xi, z, now + 20⟩) (by simp)
                  obtain ⟨ow, olo⟩ := hX.owned (e := 95) (size := 5) (v := .slice p5 K5 c5) (n := K5) (xs := flatH (pre ++ post)) (by simp)
                  obtain ⟨ow2, olo2⟩ := hX.owned (e := 46) (size := 6) (v := .slice p9 (M + 1) c9) (n := M + 1) (xs := flatL (ls ++ [⟨t + 1, xr, xk, xi, z, now + 20⟩])) (by simp)
                  have hEf := hX.base
                  clear hX
                  go_wp2_with fail
                  refine bodyPost_ret (v := .tuple #[rwV (.slice p5 K5 c5) (.slice p9 (M + 1) c9) (t + 1), lsV ⟨t + 1, xr, xk, xi, z, now + 20⟩, .int .i64 0]) (results_cell3 Try.results17 _ _ (bx + 1) (bx + 1 + 1) 65 46 (rwA (.slice p5 K5 c5) (.slice p9 (M + 1) c9) (t + 1)) (lsA ⟨t + 1, xr, xk, xi, z, now + 20⟩) _ _ _ _ rfl hbr Try.underlying65 rfl rwInfo rfl hbl Try.underlying46 rfl (leaseInfo' _)) rfl ?_
                  refine ⟨_, _, by rw [HO.out, HE.out]; rfl, ?_, hEf, fun g hg => Or.inr (Or.inr (olo g hg)), fun g hg => Or.inr (Or.inr (olo2 g hg))⟩
                  rw [HO.out]
                  refine ⟨?_, ?_⟩
                  · show w13.ownsRow 0 95 5 (.slice p5 K5 c5) (pre ++ post).length (flatH (pre ++ post))
                    rw [HK5.out]; exact ow
                  · show w13.ownsRow 0 46 6 (.slice p9 (M + 1) c9) (ls ++ [(⟨t + 1, xr, xk, xi, z, now + 20⟩ : Ls)]).length (flatL (ls ++ [(⟨t + 1, xr, xk, xi, z, now + 20⟩ : Ls)]))
                    rw [List.length_append, HM.out]; exact ow2
                · refine steps_want rfl (fun K hK => ?_)
                  go_simp
                  have hE8 : Ext w6 (((w6).alloc (.cells #[] 46)).alloc (.cells ((flatL [⟨t + 1, xr, xk, xi, z, now + 20⟩])).toArray 46)).drew := ((ext_alloc _ _).alloc _).drew
                  have hB8' : Blk (((w6).alloc (.cells #[] 46)).alloc (.cells ((flatL [⟨t + 1, xr, xk, xi, z, now + 20⟩])).toArray 46)).drew ((w6).heap.size + 1) 46 ((flatL [⟨t + 1, xr, xk, xi, z, now + 20⟩])).toArray := by
                    have := Blk.new ((w6).alloc (.cells #[] 46)) 46 ((flatL [⟨t + 1, xr, xk, xi, z, now + 20⟩])).toArray
                    exact Blk.drew (by simpa using this)
                  refine hK _ _ (fun X => Ext w6 X) (hE8) (fun _ h => h) ?_
                  clear hK K
                  try simp only [Act.put, List.setIfInBounds_toArray, List.set_cons_succ, List.set_cons_zero]
                  refine steps_end ?_
                  refine walkZ_seg ?_
                  simp only [List.filterMap_cons, List.filterMap_nil, List.getElem?_cons_zero, List.getElem?_cons_succ]
                  refine steps_want rfl (fun K hK => ?_)
                  refine wp_append_new _ _ 38 rfl 46 i0 (.agg (lsA zeroL)) 6 48 Try.underlying38 hi0 hi1 hi2 hi3 rfl (by decide) (.slice (some ⟨(w6).heap.size, 0, none⟩) 0 0) 0 [] rfl (World.ownsRow.drew (hlit.alloc _)) pl M cl (flatL ls) rfl hlN (row_nil hrow) (row_news (ownsRow_ext hrow hE8)) flatL_one (by unfold maxLen; omega) (by omega) ?_
                  intro v7 w7 hown7 hg7 hf7
                  obtain ⟨hE7, hb7⟩ := fresh_ext hE8 hlb hg7 hf7
                  have hB8 := hB8'.of_eq (hg7.block _ hB8'.lt (by simp [Value.ownBlock]))
                  clear hB8'
                  refine hK _ _ (fun X => Ext w6 X) (hE7) (fun _ h => h) ?_
                  clear hK K
                  try simp only [Act.put, List.setIfInBounds_toArray, List.set_cons_succ, List.set_cons_zero]
                  refine steps_want rfl (fun K hK => ?_)
                  refine wp_append_new _ _ 38 rfl 46 i0 (.agg (lsA zeroL)) 6 48 Try.underlying38 hi0 hi1 hi2 hi3 rfl (by decide) v7 _ _ rfl hown7 (some ⟨((w6).heap.size + 1), 0, none⟩) 1 1 (flatL [⟨t + 1, xr, xk, xi, z, now + 20⟩]) rfl rfl (fun h => nomatch h) (news_blk hB8) flatL_one (by unfold maxLen; omega) (by omega) ?_
                  intro v9 w9 hown9 hg9 hf9
                  obtain ⟨hE9, hb9⟩ := fresh_ext hE7 hb7 hg9 hf9
                  refine hK _ _ (fun X => Ext w6 X) (hE9) (fun _ h => h) ?_
                  clear hK K
                  try simp only [Act.put, List.setIfInBounds_toArray, List.set_cons_succ, List.set_cons_zero]
                  obtain ⟨p9, c9, rfl⟩ := ownsRow_slice hown9
                  simp only [Nat.zero_add] at hb9 hown9
                  refine steps_quiet 1 (by kernel_rfl) ?_
                  simp only [List.take_succ_cons, List.take_zero, List.drop_succ_cons, List.drop_zero]
                  repeat (go_big_quiet_step (fail))
                  refine wpQuiet_nil ?_
                  replace hX := (hX.add (by repeat first | exact Locs.nil | refine Locs.cons (mP_loc _ _) ?_ | refine Locs.cons (blkA_loc _ _ _) ?_ | refine Locs.cons (rowA_loc _ _ _ _ _) ?_) hE9 (p := rowA 46 6 (.slice p9 (M + 1) c9) (M + 1) (flatL (ls ++ [⟨t + 1, xr, xk, xi, z, now + 20⟩]))) ⟨by rw [flatL_append]; simpa using hown9, rfl⟩ hb9).swap
                  clear hown9 hg9 hf9 hown7 hg7 hf7 hB8 hrow hE9 hE7 hE8 hb7 hb9
                  have hbw := hX.blk (g := bx) (T := 65) (cs := #[(.slice p5 K5 c5), (.slice pl M cl), .int .u64 (t + 1)]) (by simp)
                  have a0 : World.cell? w9 ⟨bx, 0, none⟩ = some (.slice p5 K5 c5) := hbw.cell 0
                  have a1 : World.cell? w9 ⟨bx, 1, none⟩ = some (.slice pl M cl) := hbw.cell 1
                  have a2 : World.cell? w9 ⟨bx, 2, none⟩ = some (.int .u64 (t + 1)) := hbw.cell 2
                  have fz : w9.frozen? ⟨bx, 1, none⟩ = false := hbw.frozen 1
                  have hlt := hbw.lt
                  refine steps_end ?_
                  refine walkZ_done rfl rfl (fun K hK => ?_)
                  go_simp
                  refine hK _ _ ?_
                  clear hK K
                  try simp only [Act.put, List.setIfInBounds_toArray, List.set_cons_succ, List.set_cons_zero]
                  clear a0 a1 a2 fz hlt hbw
                  replace hX := hX.set (by repeat first | exact Locs.nil | refine Locs.cons (mP_loc _ _) ?_ | refine Locs.cons (blkA_loc _ _ _) ?_ | refine Locs.cons (rowA_loc _ _ _ _ _) ?_) 1 (.slice p9 (M + 1) c9)
                  generalize hw : World.setCell w9 _ _ = w10 at *
                  clear hw
                  replace hX : Has W w10 [blkA bx 65 #[.slice p5 K5 c5, .slice p9 (M + 1) c9, .int .u64 (t + 1)], rowA 46 6 (.slice p9 (M + 1) c9) (M + 1) (flatL (ls ++ [⟨t + 1, xr, xk, xi, z, now + 20⟩])), rowA 95 5 (.slice p5 K5 c5) K5 (flatH (pre ++ post)), blkA lb 46 #[.int .u64 (t + 1), .int .i64 xr, .int .i64 xk, .int .i64 xi, .int .i64 z, .int .i64 (now + 20)], blkA hb 95 #[.int .i64 xr, .int .i64 xk, .int .i64 xi, .int .i64 xw, .int .i64 xs], blkA (bx + 1 + 1) 46 (lsA zeroL), blkA (bx + 1) 65 #[.slice none 0 0, .slice none 0 0, .int .u64 0]] := hX
                  go_upto_region 16 with fail
                  have hbw := hX.blk (g := bx) (T := 65) (cs := #[.slice p5 K5 c5, .slice p9 (M + 1) c9, .int .u64 (t + 1)]) (by simp)
                  have hbl := hX.blk (g := lb) (T := 46) (cs := #[.int .u64 (t + 1), .int .i64 xr, .int .i64 xk, .int .i64 xi, .int .i64 z, .int .i64 (now + 20)]) (by simp)
                  have d0 : ∀ x : Of (fun X => Blk X bx 65 #[.slice p5 K5 c5, .slice p9 (M + 1) c9, .int .u64 (t + 1)] ∧ Blk X lb 46 #[.int .u64 (t + 1), .int .i64 xr, .int .i64 xk, .int .i64 xi, .int .i64 z, .int .i64 (now + 20)]), x.val.cell? ⟨bx, 0, none⟩ = some (.slice p5 K5 c5) := fun x => x.property.1.cell 0
                  have d1 : ∀ x : Of (fun X => Blk X bx 65 #[.slice p5 K5 c5, .slice p9 (M + 1) c9, .int .u64 (t + 1)] ∧ Blk X lb 46 #[.int .u64 (t + 1), .int .i64 xr, .int .i64 xk, .int .i64 xi, .int .i64 z, .int .i64 (now + 20)]), x.val.cell? ⟨bx, 1, none⟩ = some (.slice p9 (M + 1) c9) := fun x => x.property.1.cell 1
                  have d2 : ∀ x : Of (fun X => Blk X bx 65 #[.slice p5 K5 c5, .slice p9 (M + 1) c9, .int .u64 (t + 1)] ∧ Blk X lb 46 #[.int .u64 (t + 1), .int .i64 xr, .int .i64 xk, .int .i64 xi, .int .i64 z, .int .i64 (now + 20)]), x.val.cell? ⟨bx, 2, none⟩ = some (.int .u64 (t + 1)) := fun x => x.property.1.cell 2
                  have e0 : ∀ x : Of (fun X => Blk X bx 65 #[.slice p5 K5 c5, .slice p9 (M + 1) c9, .int .u64 (t + 1)] ∧ Blk X lb 46 #[.int .u64 (t + 1), .int .i64 xr, .int .i64 xk, .int .i64 xi, .int .i64 z, .int .i64 (now + 20)]), x.val.cell? ⟨lb, 0, none⟩ = some (.int .u64 (t + 1)) := fun x => x.property.2.cell 0
                  have e1 : ∀ x : Of (fun X => Blk X bx 65 #[.slice p5 K5 c5, .slice p9 (M + 1) c9, .int .u64 (t + 1)] ∧ Blk X lb 46 #[.int .u64 (t + 1), .int .i64 xr, .int .i64 xk, .int .i64 xi, .int .i64 z, .int .i64 (now + 20)]), x.val.cell? ⟨lb, 1, none⟩ = some (.int .i64 xr) := fun x => x.property.2.cell 1
                  have e2 : ∀ x : Of (fun X => Blk X bx 65 #[.slice p5 K5 c5, .slice p9 (M + 1) c9, .int .u64 (t + 1)] ∧ Blk X lb 46 #[.int .u64 (t + 1), .int .i64 xr, .int .i64 xk, .int .i64 xi, .int .i64 z, .int .i64 (now + 20)]), x.val.cell? ⟨lb, 2, none⟩ = some (.int .i64 xk) := fun x => x.property.2.cell 2
                  have e3 : ∀ x : Of (fun X => Blk X bx 65 #[.slice p5 K5 c5, .slice p9 (M + 1) c9, .int .u64 (t + 1)] ∧ Blk X lb 46 #[.int .u64 (t + 1), .int .i64 xr, .int .i64 xk, .int .i64 xi, .int .i64 z, .int .i64 (now + 20)]), x.val.cell? ⟨lb, 3, none⟩ = some (.int .i64 xi) := fun x => x.property.2.cell 3
                  have e4 : ∀ x : Of (fun X => Blk X bx 65 #[.slice p5 K5 c5, .slice p9 (M + 1) c9, .int .u64 (t + 1)] ∧ Blk X lb 46 #[.int .u64 (t + 1), .int .i64 xr, .int .i64 xk, .int .i64 xi, .int .i64 z, .int .i64 (now + 20)]), x.val.cell? ⟨lb, 4, none⟩ = some (.int .i64 z) := fun x => x.property.2.cell 4
                  have e5 : ∀ x : Of (fun X => Blk X bx 65 #[.slice p5 K5 c5, .slice p9 (M + 1) c9, .int .u64 (t + 1)] ∧ Blk X lb 46 #[.int .u64 (t + 1), .int .i64 xr, .int .i64 xk, .int .i64 xi, .int .i64 z, .int .i64 (now + 20)]), x.val.cell? ⟨lb, 5, none⟩ = some (.int .i64 (now + 20)) := fun x => x.property.2.cell 5
                  have hFd := (show Blk w10.drew bx 65 #[.slice p5 K5 c5, .slice p9 (M + 1) c9, .int .u64 (t + 1)] ∧ Blk w10.drew lb 46 #[.int .u64 (t + 1), .int .i64 xr, .int .i64 xk, .int .i64 xi, .int .i64 z, .int .i64 (now + 20)] from ⟨hbw.of_eq rfl, hbl.of_eq rfl⟩)
                  have hne_ : Nonempty (Of ((fun X => Blk X bx 65 #[.slice p5 K5 c5, .slice p9 (M + 1) c9, .int .u64 (t + 1)] ∧ Blk X lb 46 #[.int .u64 (t + 1), .int .i64 xr, .int .i64 xk, .int .i64 xi, .int .i64 z, .int .i64 (now + 20)]))) := ⟨⟨_, hFd⟩⟩
                  refine region_steps [0,1,2,3,4] [true,true,false,false,true] ((fun X => Blk X bx 65 #[.slice p5 K5 c5, .slice p9 (M + 1) c9, .int .u64 (t + 1)] ∧ Blk X lb 46 #[.int .u64 (t + 1), .int .i64 xr, .int .i64 xk, .int .i64 xi, .int .i64 z, .int .i64 (now + 20)])) (by kernel_rfl) (by kernel_rfl) hFd ?_
                  simp only [List.filterMap_cons, List.filterMap_nil, List.getElem?_cons_zero, List.getElem?_cons_succ]
                  refine steps_quiet 2 (by kernel_rfl) ?_
                  simp only [List.take_succ_cons, List.take_zero, List.drop_succ_cons, List.drop_zero]
                  repeat (go_big_quiet_step (fail))
                  refine wpQuiet_nil ?_
                  clear d0 d1 d2 e0 e1 e2 e3 e4 e5 hbw hbl hFd
                  replace hX := hX.ext (by repeat first | exact Locs.nil | refine Locs.cons (mP_loc _ _) ?_ | refine Locs.cons (blkA_loc _ _ _) ?_ | refine Locs.cons (rowA_loc _ _ _ _ _) ?_) (Ext.refl w10).drew
                  generalize World.drew w10 = w11 at *
                  have hb8 := hX.blk (g := bx + 1) (T := 65) (cs := #[.slice none 0 0, .slice none 0 0, .int .u64 0]) (by simp)
                  replace hX := (Has.last7 hX).row (cs := rwA (.slice p5 K5 c5) (.slice p9 (M + 1) c9) (t + 1)) (by repeat first | exact Locs.nil | refine Locs.cons (mP_loc _ _) ?_ | refine Locs.cons (blkA_loc _ _ _) ?_ | refine Locs.cons (rowA_loc _ _ _ _ _) ?_)
                  refine steps_want rfl (fun K hK => ?_)
                  refine wp_store_row _ _ _ rfl (bx + 1) (rwA (.slice p5 K5 c5) (.slice p9 (M + 1) c9) (t + 1)) rfl rfl _ _ hb8 rwInfo rfl (rwA_all _ _ _ _ _ _ _) ?_
                  refine hK _ _ _ ⟨hX.blk (by simp), hX.blk (by simp)⟩ (fun _ h => h) ?_
                  clear hK K hb8
                  try simp only [Act.put, List.setIfInBounds_toArray, List.set_cons_succ, List.set_cons_zero]
                  generalize World.setRow w11 _ _ = w12 at *
                  have hb9 := hX.blk (g := bx + 1 + 1) (T := 46) (cs := lsA zeroL) (by simp)
                  replace hX := (Has.last7 hX).row (cs := lsA ⟨t + 1, xr, xk, xi, z, now + 20⟩) (by repeat first | exact Locs.nil | refine Locs.cons (mP_loc _ _) ?_ | refine Locs.cons (blkA_loc _ _ _) ?_ | refine Locs.cons (rowA_loc _ _ _ _ _) ?_)
                  refine steps_want rfl (fun K hK => ?_)
                  refine wp_store_row _ _ _ rfl (bx + 1 + 1) (lsA ⟨t + 1, xr, xk, xi, z, now + 20⟩) rfl rfl _ _ hb9 (leaseInfo' _) rfl (lsA_all _) ?_
                  refine hK _ _ _ ⟨hX.blk (by simp), hX.blk (by simp)⟩ (fun _ h => h) ?_
                  clear hK K hb9
                  try simp only [Act.put, List.setIfInBounds_toArray, List.set_cons_succ, List.set_cons_zero]
                  generalize World.setRow w12 _ _ = w13 at *
                  refine steps_quiet 1 (by kernel_rfl) ?_
                  simp only [List.take_succ_cons, List.take_zero, List.drop_succ_cons, List.drop_zero]
                  repeat (go_big_quiet_step (fail))
                  refine wpQuiet_nil ?_
                  refine steps_nil ?_
                  try simp only [Act.put]
                  have hbr := hX.blk (g := bx + 1) (T := 65) (cs := rwA (.slice p5 K5 c5) (.slice p9 (M + 1) c9) (t + 1)) (by simp)
                  have hbl := hX.blk (g := bx + 1 + 1) (T := 46) (cs := lsA ⟨t + 1, xr, xk, xi, z, now + 20⟩) (by simp)
                  obtain ⟨ow, olo⟩ := hX.owned (e := 95) (size := 5) (v := .slice p5 K5 c5) (n := K5) (xs := flatH (pre ++ post)) (by simp)
                  obtain ⟨ow2, olo2⟩ := hX.owned (e := 46) (size := 6) (v := .slice p9 (M + 1) c9) (n := M + 1) (xs := flatL (ls ++ [⟨t + 1, xr, xk, xi, z, now + 20⟩])) (by simp)
                  have hEf := hX.base
                  clear hX
                  go_wp2_with fail
                  refine bodyPost_ret (v := .tuple #[rwV (.slice p5 K5 c5) (.slice p9 (M + 1) c9) (t + 1), lsV ⟨t + 1, xr, xk, xi, z, now + 20⟩, .int .i64 0]) (results_cell3 Try.results17 _ _ (bx + 1) (bx + 1 + 1) 65 46 (rwA (.slice p5 K5 c5) (.slice p9 (M + 1) c9) (t + 1)) (lsA ⟨t + 1, xr, xk, xi, z, now + 20⟩) _ _ _ _ rfl hbr Try.underlying65 rfl rwInfo rfl hbl Try.underlying46 rfl (leaseInfo' _)) rfl ?_
                  refine ⟨_, _, by rw [HO.out, HE.out]; rfl, ?_, hEf, fun g hg => Or.inr (Or.inr (olo g hg)), fun g hg => Or.inr (Or.inr (olo2 g hg))⟩
                  rw [HO.out]
                  refine ⟨?_, ?_⟩
                  · show w13.ownsRow 0 95 5 (.slice p5 K5 c5) (pre ++ post).length (flatH (pre ++ post))
                    rw [HK5.out]; exact ow
                  · show w13.ownsRow 0 46 6 (.slice p9 (M + 1) c9) (ls ++ [(⟨t + 1, xr, xk, xi, z, now + 20⟩ : Ls)]).length (flatL (ls ++ [(⟨t + 1, xr, xk, xi, z, now + 20⟩ : Ls)]))
                    rw [List.length_append, HM.out]; exact ow2
              · refine steps_want rfl (fun K hK => ?_)
                go_simp
                refine hK _ _ (fun X => Ext w6 X) ((show Ext w6 ((w6).alloc (.cells ((flatL [⟨t + 1, xr, xk, xi, z, now + 20⟩])).toArray 46)).drew from (ext_alloc _ _).drew)) (fun _ h => h) ?_
                clear hK K
                try simp only [Act.put, List.setIfInBounds_toArray, List.set_cons_succ, List.set_cons_zero]
                refine steps_end ?_
                refine walkZ_seg ?_
                simp only [List.filterMap_cons, List.filterMap_nil, List.getElem?_cons_zero, List.getElem?_cons_succ]
                refine steps_want rfl (fun K hK => ?_)
                go_simp
                have hlit : (((w6).alloc (.cells ((flatL [⟨t + 1, xr, xk, xi, z, now + 20⟩])).toArray 46)).alloc (.cells #[] 46)).drew.ownsRow 0 46 6 (.slice (some ⟨(w6).heap.size + 1, 0, none⟩) 0 0) 0 [] := by
                  have := World.ownsRow_made (base := 0) (e := 46) (size := 6) ((w6).alloc (.cells ((flatL [⟨t + 1, xr, xk, xi, z, now + 20⟩])).toArray 46)) #[] 0 (Nat.zero_le _) (by simp) rfl
                  exact World.ownsRow.drew (by simpa using this)
                have hlb : ∀ k, (Value.slice (some ⟨(w6).heap.size + 1, 0, none⟩) 0 0).ownBlock = some k → (w6).heap.size ≤ k := fun k hk => by
                  have : (w6).heap.size + 1 = k := by simpa [Value.ownBlock] using hk
                  omega
                have hE8 : Ext w6 (((w6).alloc (.cells ((flatL [⟨t + 1, xr, xk, xi, z, now + 20⟩])).toArray 46)).alloc (.cells #[] 46)).drew := ((ext_alloc _ _).alloc _).drew
                have hB8' : Blk (((w6).alloc (.cells ((flatL [⟨t + 1, xr, xk, xi, z, now + 20⟩])).toArray 46)).alloc (.cells #[] 46)).drew (w6).heap.size 46 ((flatL [⟨t + 1, xr, xk, xi, z, now + 20⟩])).toArray := ((Blk.new _ _ _).alloc _).drew
                refine hK _ _ (fun X => Ext w6 X) (hE8) (fun _ h => h) ?_
                clear hK K
                try simp only [Act.put, List.setIfInBounds_toArray, List.set_cons_succ, List.set_cons_zero]
                refine steps_want rfl (fun K hK => ?_)
                refine wp_append_new _ _ 38 rfl 46 i0 (.agg (lsA zeroL)) 6 48 Try.underlying38 hi0 hi1 hi2 hi3 rfl (by decide) (.slice (some ⟨(w6).heap.size + 1, 0, none⟩) 0 0) 0 [] rfl hlit pl M cl (flatL ls) rfl hlN (row_nil hrow) (row_news (ownsRow_ext hrow hE8)) flatL_one (by unfold maxLen; omega) (by omega) ?_
                intro v7 w7 hown7 hg7 hf7
                obtain ⟨hE7, hb7⟩ := fresh_ext hE8 hlb hg7 hf7
                have hB8 := hB8'.of_eq (hg7.block _ hB8'.lt (by simp [Value.ownBlock]))
                clear hB8'
                refine hK _ _ (fun X => Ext w6 X) (hE7) (fun _ h => h) ?_
                clear hK K
                try simp only [Act.put, List.setIfInBounds_toArray, List.set_cons_succ, List.set_cons_zero]
                refine steps_want rfl (fun K hK => ?_)
                refine wp_append_new _ _ 38 rfl 46 i0 (.agg (lsA zeroL)) 6 48 Try.underlying38 hi0 hi1 hi2 hi3 rfl (by decide) v7 _ _ rfl hown7 (some ⟨(w6).heap.size, 0, none⟩) 1 1 (flatL [⟨t + 1, xr, xk, xi, z, now + 20⟩]) rfl rfl (fun h => nomatch h) (news_blk hB8) flatL_one (by unfold maxLen; omega) (by omega) ?_
                intro v9 w9 hown9 hg9 hf9
                obtain ⟨hE9, hb9⟩ := fresh_ext hE7 hb7 hg9 hf9
                refine hK _ _ (fun X => Ext w6 X) (hE9) (fun _ h => h) ?_
                clear hK K
                try simp only [Act.put, List.setIfInBounds_toArray, List.set_cons_succ, List.set_cons_zero]
                obtain ⟨p9, c9, rfl⟩ := ownsRow_slice hown9
                simp only [Nat.zero_add] at hb9 hown9
                refine steps_quiet 1 (by kernel_rfl) ?_
                simp only [List.take_succ_cons, List.take_zero, List.drop_succ_cons, List.drop_zero]
                repeat (go_big_quiet_step (fail))
                refine wpQuiet_nil ?_
                replace hX := (hX.add (by repeat first | exact Locs.nil | refine Locs.cons (mP_loc _ _) ?_ | refine Locs.cons (blkA_loc _ _ _) ?_ | refine Locs.cons (rowA_loc _ _ _ _ _) ?_) hE9 (p := rowA 46 6 (.slice p9 (M + 1) c9) (M + 1) (flatL (ls ++ [⟨t + 1, xr, xk, xi, z, now + 20⟩]))) ⟨by rw [flatL_append]; simpa using hown9, rfl⟩ hb9).swap
                clear hown9 hg9 hf9 hown7 hg7 hf7 hB8 hrow hE9 hE7 hE8 hb7 hb9
                have hbw := hX.blk (g := bx) (T := 65) (cs := #[(.slice p5 K5 c5), (.slice pl M cl), .int .u64 (t + 1)]) (by simp)
                have a0 : World.cell? w9 ⟨bx, 0, none⟩ = some (.slice p5 K5 c5) := hbw.cell 0
                have a1 : World.cell? w9 ⟨bx, 1, none⟩ = some (.slice pl M cl) := hbw.cell 1
                have a2 : World.cell? w9 ⟨bx, 2, none⟩ = some (.int .u64 (t + 1)) := hbw.cell 2
                have fz : w9.frozen? ⟨bx, 1, none⟩ = false := hbw.frozen 1
                have hlt := hbw.lt
                refine steps_end ?_
                refine walkZ_done rfl rfl (fun K hK => ?_)
                go_simp
                refine hK _ _ ?_
                clear hK K
                try simp only [Act.put, List.setIfInBounds_toArray, List.set_cons_succ, List.set_cons_zero]
                clear a0 a1 a2 fz hlt hbw
                replace hX := hX.set (by repeat first | exact Locs.nil | refine Locs.cons (mP_loc _ _) ?_ | refine Locs.cons (blkA_loc _ _ _) ?_ | refine Locs.cons (rowA_loc _ _ _ _ _) ?_) 1 (.slice p9 (M + 1) c9)
                generalize hw : World.setCell w9 _ _ = w10 at *
                clear hw
                replace hX : Has W w10 [blkA bx 65 #[.slice p5 K5 c5, .slice p9 (M + 1) c9, .int .u64 (t + 1)], rowA 46 6 (.slice p9 (M + 1) c9) (M + 1) (flatL (ls ++ [⟨t + 1, xr, xk, xi, z, now + 20⟩])), rowA 95 5 (.slice p5 K5 c5) K5 (flatH (pre ++ post)), blkA lb 46 #[.int .u64 (t + 1), .int .i64 xr, .int .i64 xk, .int .i64 xi, .int .i64 z, .int .i64 (now + 20)], blkA hb 95 #[.int .i64 xr, .int .i64 xk, .int .i64 xi, .int .i64 xw, .int .i64 xs], blkA (bx + 1 + 1) 46 (lsA zeroL), blkA (bx + 1) 65 #[.slice none 0 0, .slice none 0 0, .int .u64 0]] := hX
                go_upto_region 16 with fail
                have hbw := hX.blk (g := bx) (T := 65) (cs := #[.slice p5 K5 c5, .slice p9 (M + 1) c9, .int .u64 (t + 1)]) (by simp)
                have hbl := hX.blk (g := lb) (T := 46) (cs := #[.int .u64 (t + 1), .int .i64 xr, .int .i64 xk, .int .i64 xi, .int .i64 z, .int .i64 (now + 20)]) (by simp)
                have d0 : ∀ x : Of (fun X => Blk X bx 65 #[.slice p5 K5 c5, .slice p9 (M + 1) c9, .int .u64 (t + 1)] ∧ Blk X lb 46 #[.int .u64 (t + 1), .int .i64 xr, .int .i64 xk, .int .i64 xi, .int .i64 z, .int .i64 (now + 20)]), x.val.cell? ⟨bx, 0, none⟩ = some (.slice p5 K5 c5) := fun x => x.property.1.cell 0
                have d1 : ∀ x : Of (fun X => Blk X bx 65 #[.slice p5 K5 c5, .slice p9 (M + 1) c9, .int .u64 (t + 1)] ∧ Blk X lb 46 #[.int .u64 (t + 1), .int .i64 xr, .int .i64 xk, .int .i64 xi, .int .i64 z, .int .i64 (now + 20)]), x.val.cell? ⟨bx, 1, none⟩ = some (.slice p9 (M + 1) c9) := fun x => x.property.1.cell 1
                have d2 : ∀ x : Of (fun X => Blk X bx 65 #[.slice p5 K5 c5, .slice p9 (M + 1) c9, .int .u64 (t + 1)] ∧ Blk X lb 46 #[.int .u64 (t + 1), .int .i64 xr, .int .i64 xk, .int .i64 xi, .int .i64 z, .int .i64 (now + 20)]), x.val.cell? ⟨bx, 2, none⟩ = some (.int .u64 (t + 1)) := fun x => x.property.1.cell 2
                have e0 : ∀ x : Of (fun X => Blk X bx 65 #[.slice p5 K5 c5, .slice p9 (M + 1) c9, .int .u64 (t + 1)] ∧ Blk X lb 46 #[.int .u64 (t + 1), .int .i64 xr, .int .i64 xk, .int .i64 xi, .int .i64 z, .int .i64 (now + 20)]), x.val.cell? ⟨lb, 0, none⟩ = some (.int .u64 (t + 1)) := fun x => x.property.2.cell 0
                have e1 : ∀ x : Of (fun X => Blk X bx 65 #[.slice p5 K5 c5, .slice p9 (M + 1) c9, .int .u64 (t + 1)] ∧ Blk X lb 46 #[.int .u64 (t + 1), .int .i64 xr, .int .i64 xk, .int .i64 xi, .int .i64 z, .int .i64 (now + 20)]), x.val.cell? ⟨lb, 1, none⟩ = some (.int .i64 xr) := fun x => x.property.2.cell 1
                have e2 : ∀ x : Of (fun X => Blk X bx 65 #[.slice p5 K5 c5, .slice p9 (M + 1) c9, .int .u64 (t + 1)] ∧ Blk X lb 46 #[.int .u64 (t + 1), .int .i64 xr, .int .i64 xk, .int .i64 xi, .int .i64 z, .int .i64 (now + 20)]), x.val.cell? ⟨lb, 2, none⟩ = some (.int .i64 xk) := fun x => x.property.2.cell 2
                have e3 : ∀ x : Of (fun X => Blk X bx 65 #[.slice p5 K5 c5, .slice p9 (M + 1) c9, .int .u64 (t + 1)] ∧ Blk X lb 46 #[.int .u64 (t + 1), .int .i64 xr, .int .i64 xk, .int .i64 xi, .int .i64 z, .int .i64 (now + 20)]), x.val.cell? ⟨lb, 3, none⟩ = some (.int .i64 xi) := fun x => x.property.2.cell 3
                have e4 : ∀ x : Of (fun X => Blk X bx 65 #[.slice p5 K5 c5, .slice p9 (M + 1) c9, .int .u64 (t + 1)] ∧ Blk X lb 46 #[.int .u64 (t + 1), .int .i64 xr, .int .i64 xk, .int .i64 xi, .int .i64 z, .int .i64 (now + 20)]), x.val.cell? ⟨lb, 4, none⟩ = some (.int .i64 z) := fun x => x.property.2.cell 4
                have e5 : ∀ x : Of (fun X => Blk X bx 65 #[.slice p5 K5 c5, .slice p9 (M + 1) c9, .int .u64 (t + 1)] ∧ Blk X lb 46 #[.int .u64 (t + 1), .int .i64 xr, .int .i64 xk, .int .i64 xi, .int .i64 z, .int .i64 (now + 20)]), x.val.cell? ⟨lb, 5, none⟩ = some (.int .i64 (now + 20)) := fun x => x.property.2.cell 5
                have hFd := (show Blk w10.drew bx 65 #[.slice p5 K5 c5, .slice p9 (M + 1) c9, .int .u64 (t + 1)] ∧ Blk w10.drew lb 46 #[.int .u64 (t + 1), .int .i64 xr, .int .i64 xk, .int .i64 xi, .int .i64 z, .int .i64 (now + 20)] from ⟨hbw.of_eq rfl, hbl.of_eq rfl⟩)
                have hne_ : Nonempty (Of ((fun X => Blk X bx 65 #[.slice p5 K5 c5, .slice p9 (M + 1) c9, .int .u64 (t + 1)] ∧ Blk X lb 46 #[.int .u64 (t + 1), .int .i64 xr, .int .i64 xk, .int .i64 xi, .int .i64 z, .int .i64 (now + 20)]))) := ⟨⟨_, hFd⟩⟩
                refine region_steps [0,1,2,3,4] [true,true,false,false,true] ((fun X => Blk X bx 65 #[.slice p5 K5 c5, .slice p9 (M + 1) c9, .int .u64 (t + 1)] ∧ Blk X lb 46 #[.int .u64 (t + 1), .int .i64 xr, .int .i64 xk, .int .i64 xi, .int .i64 z, .int .i64 (now + 20)])) (by kernel_rfl) (by kernel_rfl) hFd ?_
                simp only [List.filterMap_cons, List.filterMap_nil, List.getElem?_cons_zero, List.getElem?_cons_succ]
                refine steps_quiet 2 (by kernel_rfl) ?_
                simp only [List.take_succ_cons, List.take_zero, List.drop_succ_cons, List.drop_zero]
                repeat (go_big_quiet_step (fail))
                refine wpQuiet_nil ?_
                clear d0 d1 d2 e0 e1 e2 e3 e4 e5 hbw hbl hFd
                replace hX := hX.ext (by repeat first | exact Locs.nil | refine Locs.cons (mP_loc _ _) ?_ | refine Locs.cons (blkA_loc _ _ _) ?_ | refine Locs.cons (rowA_loc _ _ _ _ _) ?_) (Ext.refl w10).drew
                generalize World.drew w10 = w11 at *
                have hb8 := hX.blk (g := bx + 1) (T := 65) (cs := #[.slice none 0 0, .slice none 0 0, .int .u64 0]) (by simp)
                replace hX := (Has.last7 hX).row (cs := rwA (.slice p5 K5 c5) (.slice p9 (M + 1) c9) (t + 1)) (by repeat first | exact Locs.nil | refine Locs.cons (mP_loc _ _) ?_ | refine Locs.cons (blkA_loc _ _ _) ?_ | refine Locs.cons (rowA_loc _ _ _ _ _) ?_)
                refine steps_want rfl (fun K hK => ?_)
                refine wp_store_row _ _ _ rfl (bx + 1) (rwA (.slice p5 K5 c5) (.slice p9 (M + 1) c9) (t + 1)) rfl rfl _ _ hb8 rwInfo rfl (rwA_all _ _ _ _ _ _ _) ?_
                refine hK _ _ _ ⟨hX.blk (by simp), hX.blk (by simp)⟩ (fun _ h => h) ?_
                clear hK K hb8
                try simp only [Act.put, List.setIfInBounds_toArray, List.set_cons_succ, List.set_cons_zero]
                generalize World.setRow w11 _ _ = w12 at *
                have hb9 := hX.blk (g := bx + 1 + 1) (T := 46) (cs := lsA zeroL) (by simp)
                replace hX := (Has.last7 hX).row (cs := lsA ⟨t + 1, xr, xk, xi, z, now + 20⟩) (by repeat first | exact Locs.nil | refine Locs.cons (mP_loc _ _) ?_ | refine Locs.cons (blkA_loc _ _ _) ?_ | refine Locs.cons (rowA_loc _ _ _ _ _) ?_)
                refine steps_want rfl (fun K hK => ?_)
                refine wp_store_row _ _ _ rfl (bx + 1 + 1) (lsA ⟨t + 1, xr, xk, xi, z, now + 20⟩) rfl rfl _ _ hb9 (leaseInfo' _) rfl (lsA_all _) ?_
                refine hK _ _ _ ⟨hX.blk (by simp), hX.blk (by simp)⟩ (fun _ h => h) ?_
                clear hK K hb9
                try simp only [Act.put, List.setIfInBounds_toArray, List.set_cons_succ, List.set_cons_zero]
                generalize World.setRow w12 _ _ = w13 at *
                refine steps_quiet 1 (by kernel_rfl) ?_
                simp only [List.take_succ_cons, List.take_zero, List.drop_succ_cons, List.drop_zero]
                repeat (go_big_quiet_step (fail))
                refine wpQuiet_nil ?_
                refine steps_nil ?_
                try simp only [Act.put]
                have hbr := hX.blk (g := bx + 1) (T := 65) (cs := rwA (.slice p5 K5 c5) (.slice p9 (M + 1) c9) (t + 1)) (by simp)
                have hbl := hX.blk (g := bx + 1 + 1) (T := 46) (cs := lsA ⟨t + 1, xr, xk, xi, z, now + 20⟩) (by simp)
                obtain ⟨ow, olo⟩ := hX.owned (e := 95) (size := 5) (v := .slice p5 K5 c5) (n := K5) (xs := flatH (pre ++ post)) (by simp)
                obtain ⟨ow2, olo2⟩ := hX.owned (e := 46) (size := 6) (v := .slice p9 (M + 1) c9) (n := M + 1) (xs := flatL (ls ++ [⟨t + 1, xr, xk, xi, z, now + 20⟩])) (by simp)
                have hEf := hX.base
                clear hX
                go_wp2_with fail
                refine bodyPost_ret (v := .tuple #[rwV (.slice p5 K5 c5) (.slice p9 (M + 1) c9) (t + 1), lsV ⟨t + 1, xr, xk, xi, z, now + 20⟩, .int .i64 0]) (results_cell3 Try.results17 _ _ (bx + 1) (bx + 1 + 1) 65 46 (rwA (.slice p5 K5 c5) (.slice p9 (M + 1) c9) (t + 1)) (lsA ⟨t + 1, xr, xk, xi, z, now + 20⟩) _ _ _ _ rfl hbr Try.underlying65 rfl rwInfo rfl hbl Try.underlying46 rfl (leaseInfo' _)) rfl ?_
                refine ⟨_, _, by rw [HO.out, HE.out]; rfl, ?_, hEf, fun g hg => Or.inr (Or.inr (olo g hg)), fun g hg => Or.inr (Or.inr (olo2 g hg))⟩
                rw [HO.out]
                refine ⟨?_, ?_⟩
                · show w13.ownsRow 0 95 5 (.slice p5 K5 c5) (pre ++ post).length (flatH (pre ++ post))
                  rw [HK5.out]; exact ow
                · show w13.ownsRow 0 46 6 (.slice p9 (M + 1) c9) (ls ++ [(⟨t + 1, xr, xk, xi, z, now + 20⟩ : Ls)]).length (flatL (ls ++ [(⟨t + 1, xr, xk, xi, z, now + 20⟩ : Ls)]))
                  rw [List.length_append, HM.out]; exact ow2
    · have HN1 := Lib.hid (hj1 (by omega))
      clear hj1 hj2
      rw [show (j : Int) = 1 by omega]
      obtain ⟨wo, hwo⟩ : ∃ wo : World, wo = wr := ⟨_, rfl⟩
      rw [← hwo] at hX hE ⊢
      clear hwo
      have hbw := hX.blk (g := bx) (T := 65) (cs := #[(.slice pw L cw), (.slice pl M cl), .int .u64 t]) (by simp)
      have a0 : World.cell? wo ⟨bx, 0, none⟩ = some (.slice pw L cw) := hbw.cell 0
      have a1 : World.cell? wo ⟨bx, 1, none⟩ = some (.slice pl M cl) := hbw.cell 1
      have a2 : World.cell? wo ⟨bx, 2, none⟩ = some (.int .u64 t) := hbw.cell 2
      go_wp2_with fail
      clear a0 a1 a2 hbw
      go_loopw [38] (fun v wr => PinRel wo ws 0 kind v wr) (fun v _ => ((L : Int) + 1 - intOf v).toNat)
      case atStart => exact ⟨[], ws, rfl, rfl, by simp, Ext.refl _⟩
      case round =>
        obtain ⟨pre, post, hx, rfl, hno, hE2⟩ := hrel
        cases post with
        | nil =>
          obtain rfl : ws = pre := by simpa using hx
          have hl2 : ¬ ((ws.length : Int) < L) := by rw [← HL.out]; omega
          have HNO := Lib.hid hno
          clear hx hno
          go_wp2_with fail
          exact ⟨(⟨2, by omega, rfl, fun _ => HN1.out, fun _ => HNO.out, hE.trans hE2⟩), by simp [intOf]⟩
        | cons x post =>
          have hl2 : (pre.length : Int) < L := by rw [← HL.out, hx]; simp; omega
          have hrw := ownsRow_ext (hR.ext hX.base).w hE2
          rw [HL.out, hx] at hrw
          obtain ⟨g, rfl, -, hg, x0, x1, x2, x3, x4⟩ := held_at (by rw [← HL.out, hx]) hrw
          have HX := Lib.hid hx
          have HNO := Lib.hid hno
          clear hx hno hrw
          obtain ⟨xr, xk, xi, xw, xs⟩ := x
          obtain ⟨bw, hbw⟩ : ∃ b, (xw == 0) = b := ⟨_, rfl⟩
          obtain ⟨bk, hbk⟩ : ∃ b, (xk == kind) = b := ⟨_, rfl⟩
          cases bw with
          | false =>
            have HBW : Hid (wants 0 kind ⟨xr, xk, xi, xw, xs⟩ = false) := Lib.hid (by rw [wants, hbw]; rfl)
            clear hbk
            go_wp2_with fail
            refine ⟨⟨pre ++ [⟨xr, xk, xi, xw, xs⟩], post, by rw [HX.out]; simp, by simp, ?_, hE2.trans (ext_alloc _ _)⟩, by simp [intOf]; omega⟩
            intro h hh
            rcases List.mem_append.1 hh with h1 | h1
            · exact HNO.out h h1
            · simp at h1; subst h1; exact HBW.out
          | true =>
            cases bk with
            | false =>
              have HBW : Hid (wants 0 kind ⟨xr, xk, xi, xw, xs⟩ = false) := Lib.hid (by rw [wants, hbk]; simp)
              go_wp2_with fail
              refine ⟨⟨pre ++ [⟨xr, xk, xi, xw, xs⟩], post, by rw [HX.out]; simp, by simp, ?_, hE2.trans (ext_alloc _ _)⟩, by simp [intOf]; omega⟩
              intro h hh
              rcases List.mem_append.1 hh with h1 | h1
              · exact HNO.out h h1
              · simp at h1; subst h1; exact HBW.out
            | true =>
              have HBW : Hid (wants 0 kind ⟨xr, xk, xi, xw, xs⟩ = true) := Lib.hid (by rw [wants, hbw, hbk]; rfl)
              have HPK : Hid (rpick ws z kind = some (pre, ⟨xr, xk, xi, xw, xs⟩, post)) := Lib.hid (by (rw [rpick, splitH_none HN1.out, HX.out, splitH_some HNO.out HBW.out]))
              have HO : Hid (rpollO ws ls z kind = some (pre, ⟨xr, xk, xi, xw, xs⟩, post)) := Lib.hid (by rw [rpollO, if_neg HZ.out, if_neg HMM.out, HPK.out])
              have HE : Hid (rpollE ws ls z kind = 0) := Lib.hid (by rw [rpollE, if_neg HZ.out, if_neg HMM.out, HPK.out]; rfl)
              replace hX := hX.ext (by repeat first | exact Locs.nil | refine Locs.cons (mP_loc _ _) ?_ | refine Locs.cons (blkA_loc _ _ _) ?_ | refine Locs.cons (rowA_loc _ _ _ _ _) ?_) hE2
              clear hE2
              go_upto_region 12 with fail
              replace hX := hm_blk hX (by repeat first | exact Locs.nil | refine Locs.cons (mP_loc _ _) ?_ | refine Locs.cons (blkA_loc _ _ _) ?_ | refine Locs.cons (rowA_loc _ _ _ _ _) ?_) 95 #[.int .i64 xr, .int .i64 xk, .int .i64 xi, .int .i64 xw, .int .i64 xs]
              generalize hw : World.alloc wr _ = w2 at *
              generalize wr.heap.size = hb at *
              clear hw x0 x1 x2 x3 x4
              have hbw := hX.blk (g := bx) (T := 65) (cs := #[(.slice (some ⟨g, 0, none⟩) L cw), (.slice pl M cl), .int .u64 t]) (by simp)
              have a0 : World.cell? w2 ⟨bx, 0, none⟩ = some (.slice (some ⟨g, 0, none⟩) L cw) := hbw.cell 0
              have a1 : World.cell? w2 ⟨bx, 1, none⟩ = some (.slice pl M cl) := hbw.cell 1
              have a2 : World.cell? w2 ⟨bx, 2, none⟩ = some (.int .u64 t) := hbw.cell 2
              have fz : w2.frozen? ⟨bx, 2, none⟩ = false := hbw.frozen 2
              have hlt := hbw.lt
              go_upto_region 13 with fail
              clear a0 a1 a2 fz hlt hbw
              replace hX := hX.fourth.set (by repeat first | exact Locs.nil | refine Locs.cons (mP_loc _ _) ?_ | refine Locs.cons (blkA_loc _ _ _) ?_ | refine Locs.cons (rowA_loc _ _ _ _ _) ?_) 2 (.int .u64 (t + 1))
              generalize hw : World.setCell w2 _ _ = w3 at *
              clear hw
              replace hX : Has W w3 [blkA bx 65 #[.slice (some ⟨g, 0, none⟩) L cw, .slice pl M cl, .int .u64 (t + 1)], blkA hb 95 #[.int .i64 xr, .int .i64 xk, .int .i64 xi, .int .i64 xw, .int .i64 xs], blkA (bx + 1 + 1) 46 (lsA zeroL), blkA (bx + 1) 65 #[.slice none 0 0, .slice none 0 0, .int .u64 0]] := hX
              have hbw := hX.blk (g := bx) (T := 65) (cs := #[(.slice (some ⟨g, 0, none⟩) L cw), (.slice pl M cl), .int .u64 (t + 1)]) (by simp)
              have a0 : World.cell? w3 ⟨bx, 0, none⟩ = some (.slice (some ⟨g, 0, none⟩) L cw) := hbw.cell 0
              have a1 : World.cell? w3 ⟨bx, 1, none⟩ = some (.slice pl M cl) := hbw.cell 1
              have a2 : World.cell? w3 ⟨bx, 2, none⟩ = some (.int .u64 (t + 1)) := hbw.cell 2
              have hbh := hX.blk (g := hb) (T := 95) (cs := #[.int .i64 xr, .int .i64 xk, .int .i64 xi, .int .i64 xw, .int .i64 xs]) (by simp)
              have y0 : w3.cell? ⟨hb, 0, none⟩ = some (.int .i64 xr) := hbh.cell 0
              have y1 : w3.cell? ⟨hb, 1, none⟩ = some (.int .i64 xk) := hbh.cell 1
              have y2 : w3.cell? ⟨hb, 2, none⟩ = some (.int .i64 xi) := hbh.cell 2
              go_upto_region 14 with fail
              clear a0 a1 a2 hbw hbh y0 y1 y2
              replace hX := hm_blk hX (by repeat first | exact Locs.nil | refine Locs.cons (mP_loc _ _) ?_ | refine Locs.cons (blkA_loc _ _ _) ?_ | refine Locs.cons (rowA_loc _ _ _ _ _) ?_) 46 #[.int .u64 (t + 1), .int .i64 xr, .int .i64 xk, .int .i64 xi, .int .i64 z, .int .i64 (now + 20)]
              generalize hw : World.alloc w3 _ = w4 at *
              generalize w3.heap.size = lb at *
              clear hw
              have hbw := hX.blk (g := bx) (T := 65) (cs := #[(.slice (some ⟨g, 0, none⟩) L cw), (.slice pl M cl), .int .u64 (t + 1)]) (by simp)
              have a0 : World.cell? w4 ⟨bx, 0, none⟩ = some (.slice (some ⟨g, 0, none⟩) L cw) := hbw.cell 0
              have a1 : World.cell? w4 ⟨bx, 1, none⟩ = some (.slice pl M cl) := hbw.cell 1
              have a2 : World.cell? w4 ⟨bx, 2, none⟩ = some (.int .u64 (t + 1)) := hbw.cell 2
              have hrw := (hR.ext hX.base).w
              rw [HX.out] at hrw
              have hHL : Hid ((pre ++ (⟨xr, xk, xi, xw, xs⟩ : Hd) :: post).length = L) := Lib.hid (by rw [← HX.out]; exact HL.out)
              go_wp2_with fail
              refine (without_at (pre := pre) (x := ⟨xr, xk, xi, xw, xs⟩) (post := post) (base := 0) (by rw [hHL.out] at hrw ⊢; exact hrw) (by rw [hHL.out]; omega)).mono ?_
              rintro e w5 ⟨⟨v5, rfl, hown5⟩, hE5⟩
              clear a0 a1 a2 hbw hrw
              replace hX := hX.add (by repeat first | exact Locs.nil | refine Locs.cons (mP_loc _ _) ?_ | refine Locs.cons (blkA_loc _ _ _) ?_ | refine Locs.cons (rowA_loc _ _ _ _ _) ?_) hE5 (p := rowA 95 5 v5 (pre ++ post).length (flatH (pre ++ post))) ⟨ownsRow_base hown5 (fun _ _ => Nat.zero_le _), rfl⟩ (fun k hk => (hown5.lt k hk).1)
              obtain ⟨p5, c5, rfl⟩ := ownsRow_slice hown5
              obtain ⟨K5, hK5⟩ : ∃ n, (pre ++ post).length = n := ⟨_, rfl⟩
              rw [hK5] at hX ⊢
              have HK5 := Lib.hid hK5
              clear hK5 hown5
              have hbw := hX.blk (g := bx) (T := 65) (cs := #[(.slice (some ⟨g, 0, none⟩) L cw), (.slice pl M cl), .int .u64 (t + 1)]) (by simp)
              have a0 : World.cell? w5 ⟨bx, 0, none⟩ = some (.slice (some ⟨g, 0, none⟩) L cw) := hbw.cell 0
              have a1 : World.cell? w5 ⟨bx, 1, none⟩ = some (.slice pl M cl) := hbw.cell 1
              have a2 : World.cell? w5 ⟨bx, 2, none⟩ = some (.int .u64 (t + 1)) := hbw.cell 2
              have fz : w5.frozen? ⟨bx, 0, none⟩ = false := hbw.frozen 0
              have hlt := hbw.lt
              go_upto_region 15 with fail
              clear a0 a1 a2 fz hlt hbw hE5
              replace hX := hX.third.set (by repeat first | exact Locs.nil | refine Locs.cons (mP_loc _ _) ?_ | refine Locs.cons (blkA_loc _ _ _) ?_ | refine Locs.cons (rowA_loc _ _ _ _ _) ?_) 0 (.slice p5 K5 c5)
              generalize hw : World.setCell w5 _ _ = w6 at *
              clear hw
              replace hX : Has W w6 [blkA bx 65 #[.slice p5 K5 c5, .slice pl M cl, .int .u64 (t + 1)], rowA 95 5 (.slice p5 K5 c5) K5 (flatH (pre ++ post)), blkA lb 46 #[.int .u64 (t + 1), .int .i64 xr, .int .i64 xk, .int .i64 xi, .int .i64 z, .int .i64 (now + 20)], blkA hb 95 #[.int .i64 xr, .int .i64 xk, .int .i64 xi, .int .i64 xw, .int .i64 xs], blkA (bx + 1 + 1) 46 (lsA zeroL), blkA (bx + 1) 65 #[.slice none 0 0, .slice none 0 0, .int .u64 0]] := hX
              obtain ⟨i0, hi0, hi1, hi2, hi3⟩ := info_parts6 lsInfo
              have hrow := (hR.ext hX.base).l
              have hlN := flatL_length ls
              rw [HM.out] at hlN hrow
              have hbw := hX.blk (g := bx) (T := 65) (cs := #[(.slice p5 K5 c5), (.slice pl M cl), .int .u64 (t + 1)]) (by simp)
              have a0 : World.cell? w6 ⟨bx, 0, none⟩ = some (.slice p5 K5 c5) := hbw.cell 0
              have a1 : World.cell? w6 ⟨bx, 1, none⟩ = some (.slice pl M cl) := hbw.cell 1
              have a2 : World.cell? w6 ⟨bx, 2, none⟩ = some (.int .u64 (t + 1)) := hbw.cell 2
              have hbl := hX.blk (g := lb) (T := 46) (cs := #[.int .u64 (t + 1), .int .i64 xr, .int .i64 xk, .int .i64 xi, .int .i64 z, .int .i64 (now + 20)]) (by simp)
              have d0 : ∀ x : Of (fun X => Ext w6 X), x.val.cell? ⟨bx, 1, none⟩ = some (.slice pl M cl) := fun x => (x.property.cell _ _ hbw.lt).trans a1
              have d1 : ∀ x : Of (fun X => Ext w6 X), x.val.cell? ⟨lb, 0, none⟩ = some (.int .u64 (t + 1)) := fun x => (x.property.cell _ _ hbl.lt).trans (hbl.cell 0)
              have d2 : ∀ x : Of (fun X => Ext w6 X), x.val.cell? ⟨lb, 1, none⟩ = some (.int .i64 xr) := fun x => (x.property.cell _ _ hbl.lt).trans (hbl.cell 1)
              have d3 : ∀ x : Of (fun X => Ext w6 X), x.val.cell? ⟨lb, 2, none⟩ = some (.int .i64 xk) := fun x => (x.property.cell _ _ hbl.lt).trans (hbl.cell 2)
              have d4 : ∀ x : Of (fun X => Ext w6 X), x.val.cell? ⟨lb, 3, none⟩ = some (.int .i64 xi) := fun x => (x.property.cell _ _ hbl.lt).trans (hbl.cell 3)
              have d5 : ∀ x : Of (fun X => Ext w6 X), x.val.cell? ⟨lb, 4, none⟩ = some (.int .i64 z) := fun x => (x.property.cell _ _ hbl.lt).trans (hbl.cell 4)
              have d6 : ∀ x : Of (fun X => Ext w6 X), x.val.cell? ⟨lb, 5, none⟩ = some (.int .i64 (now + 20)) := fun x => (x.property.cell _ _ hbl.lt).trans (hbl.cell 5)
              have hFd := (Ext.refl w6).drew
              have hne_ : Nonempty (Of ((fun X => Ext w6 X))) := ⟨⟨_, hFd⟩⟩
              refine region_planZ 8 (.seg [1,2,4] [true,true,true] (.fork 0 (.fork 3 (.seg [5,6,7] [false,false,true] .done) 5 (.seg [3,6,7] [false,false,true] .done)) 5 (.seg [0,3,6,7] [false,false,false,true] .done))) ((fun X => Ext w6 X)) (by kernel_rfl) (by kernel_rfl) hFd ?_
              refine walkZ_seg ?_
              simp only [List.filterMap_cons, List.filterMap_nil, List.getElem?_cons_zero, List.getElem?_cons_succ]
              refine steps_quiet 3 (by kernel_rfl) ?_
              simp only [List.take_succ_cons, List.take_zero, List.drop_succ_cons, List.drop_zero]
              repeat (go_big_quiet_step (fail))
              refine wpQuiet_nil ?_
              clear d0 d1 d2 d3 d4 d5 d6 a0 a1 a2 hbw hbl
              refine steps_end ?_
              refine walkZ_fork ?_ ?_
              all_goals simp only [List.filterMap_cons, List.filterMap_nil, List.getElem?_cons_zero, List.getElem?_cons_succ]
              · refine steps_want rfl (fun K hK => ?_)
                go_simp
                have hlit := World.ownsRow_made (base := 0) (e := 46) (size := 6) w6 #[] 0 (Nat.zero_le _) (by simp) rfl
                have hE6 : Ext w6 ((w6).alloc (.cells #[] 46)).drew := (ext_alloc _ _).drew
                have hlb : ∀ k, (Value.slice (some ⟨(w6).heap.size, 0, none⟩) 0 0).ownBlock = some k → (w6).heap.size ≤ k := fun k hk => Nat.le_of_eq (by simpa [Value.ownBlock] using hk)
                refine hK _ _ (fun X => Ext w6 X) (hE6) (fun _ h => h) ?_
                clear hK K
                try simp only [Act.put, List.setIfInBounds_toArray, List.set_cons_succ, List.set_cons_zero]
                refine steps_end ?_
                refine walkZ_fork ?_ ?_
                all_goals simp only [List.filterMap_cons, List.filterMap_nil, List.getElem?_cons_zero, List.getElem?_cons_succ]
                · refine steps_want rfl (fun K hK => ?_)
                  refine wp_append_new _ _ 38 rfl 46 i0 (.agg (lsA zeroL)) 6 48 Try.underlying38 hi0 hi1 hi2 hi3 rfl (by decide) (.slice (some ⟨(w6).heap.size, 0, none⟩) 0 0) 0 [] rfl (World.ownsRow.drew hlit) pl M cl (flatL ls) rfl hlN (row_nil hrow) (row_news (ownsRow_ext hrow hE6)) flatL_one (by unfold maxLen; omega) (by omega) ?_
                  intro v7 w7 hown7 hg7 hf7
                  obtain ⟨hE7, hb7⟩ := fresh_ext hE6 hlb hg7 hf7
                  refine hK _ _ (fun X => Ext w6 X) (hE7) (fun _ h => h) ?_
                  clear hK K
                  try simp only [Act.put, List.setIfInBounds_toArray, List.set_cons_succ, List.set_cons_zero]
                  refine steps_end ?_
                  refine walkZ_seg ?_
                  simp only [List.filterMap_cons, List.filterMap_nil, List.getElem?_cons_zero, List.getElem?_cons_succ]
                  refine steps_want rfl (fun K hK => ?_)
                  go_simp
                  have hE8 : Ext w6 (w7.alloc (.cells ((flatL [⟨t + 1, xr, xk, xi, z, now + 20⟩])).toArray 46)) := hE7.alloc _
                  have hB8 : Blk (w7.alloc (.cells ((flatL [⟨t + 1, xr, xk, xi, z, now + 20⟩])).toArray 46)) w7.heap.size 46 ((flatL [⟨t + 1, xr, xk, xi, z, now + 20⟩])).toArray := Blk.new _ _ _
                  refine hK _ _ (fun X => Ext w6 X) (hE8) (fun _ h => h) ?_
                  clear hK K
                  try simp only [Act.put, List.setIfInBounds_toArray, List.set_cons_succ, List.set_cons_zero]
                  refine steps_want rfl (fun K hK => ?_)
                  refine wp_append_new _ _ 38 rfl 46 i0 (.agg (lsA zeroL)) 6 48 Try.underlying38 hi0 hi1 hi2 hi3 rfl (by decide) v7 _ _ rfl (hown7.alloc _) (some ⟨w7.heap.size, 0, none⟩) 1 1 (flatL [⟨t + 1, xr, xk, xi, z, now + 20⟩]) rfl rfl (fun h => nomatch h) (news_blk hB8) flatL_one (by unfold maxLen; omega) (by omega) ?_
                  intro v9 w9 hown9 hg9 hf9
                  obtain ⟨hE9, hb9⟩ := fresh_ext hE8 hb7 hg9 hf9
                  refine hK _ _ (fun X => Ext w6 X) (hE9) (fun _ h => h) ?_
                  clear hK K
                  try simp only [Act.put, List.setIfInBounds_toArray, List.set_cons_succ, List.set_cons_zero]
                  obtain ⟨p9, c9, rfl⟩ := ownsRow_slice hown9
                  simp only [Nat.zero_add] at hb9 hown9
                  refine steps_quiet 1 (by kernel_rfl) ?_
                  simp only [List.take_succ_cons, List.take_zero, List.drop_succ_cons, List.drop_zero]
                  repeat (go_big_quiet_step (fail))
                  refine wpQuiet_nil ?_
                  replace hX := (hX.add (by repeat first | exact Locs.nil | refine Locs.cons (mP_loc _ _) ?_ | refine Locs.cons (blkA_loc _ _ _) ?_ | refine Locs.cons (rowA_loc _ _ _ _ _) ?_) hE9 (p := rowA 46 6 (.slice p9 (M + 1) c9) (M + 1) (flatL (ls ++ [⟨t + 1, xr, xk, xi, z, now + 20⟩]))) ⟨by rw [flatL_append]; simpa using hown9, rfl⟩ hb9).swap
                  clear hown9 hg9 hf9 hown7 hg7 hf7 hB8 hrow hE9 hE7 hE8 hb7 hb9
                  have hbw := hX.blk (g := bx) (T := 65) (cs := #[(.slice p5 K5 c5), (.slice pl M cl), .int .u64 (t + 1)]) (by simp)
                  have a0 : World.cell? w9 ⟨bx, 0, none⟩ = some (.slice p5 K5 c5) := hbw.cell 0
                  have a1 : World.cell? w9 ⟨bx, 1, none⟩ = some (.slice pl M cl) := hbw.cell 1
                  have a2 : World.cell? w9 ⟨bx, 2, none⟩ = some (.int .u64 (t + 1)) := hbw.cell 2
                  have fz : w9.frozen? ⟨bx, 1, none⟩ = false := hbw.frozen 1
                  have hlt := hbw.lt
                  refine steps_end ?_
                  refine walkZ_done rfl rfl (fun K hK => ?_)
                  go_simp
                  refine hK _ _ ?_
                  clear hK K
                  try simp only [Act.put, List.setIfInBounds_toArray, List.set_cons_succ, List.set_cons_zero]
                  clear a0 a1 a2 fz hlt hbw
                  replace hX := hX.set (by repeat first | exact Locs.nil | refine Locs.cons (mP_loc _ _) ?_ | refine Locs.cons (blkA_loc _ _ _) ?_ | refine Locs.cons (rowA_loc _ _ _ _ _) ?_) 1 (.slice p9 (M + 1) c9)
                  generalize hw : World.setCell w9 _ _ = w10 at *
                  clear hw
                  replace hX : Has W w10 [blkA bx 65 #[.slice p5 K5 c5, .slice p9 (M + 1) c9, .int .u64 (t + 1)], rowA 46 6 (.slice p9 (M + 1) c9) (M + 1) (flatL (ls ++ [⟨t + 1, xr, xk, xi, z, now + 20⟩])), rowA 95 5 (.slice p5 K5 c5) K5 (flatH (pre ++ post)), blkA lb 46 #[.int .u64 (t + 1), .int .i64 xr, .int .i64 xk, .int .i64 xi, .int .i64 z, .int .i64 (now + 20)], blkA hb 95 #[.int .i64 xr, .int .i64 xk, .int .i64 xi, .int .i64 xw, .int .i64 xs], blkA (bx + 1 + 1) 46 (lsA zeroL), blkA (bx + 1) 65 #[.slice none 0 0, .slice none 0 0, .int .u64 0]] := hX
                  go_upto_region 16 with fail
                  have hbw := hX.blk (g := bx) (T := 65) (cs := #[.slice p5 K5 c5, .slice p9 (M + 1) c9, .int .u64 (t + 1)]) (by simp)
                  have hbl := hX.blk (g := lb) (T := 46) (cs := #[.int .u64 (t + 1), .int .i64 xr, .int .i64 xk, .int .i64 xi, .int .i64 z, .int .i64 (now + 20)]) (by simp)
                  have d0 : ∀ x : Of (fun X => Blk X bx 65 #[.slice p5 K5 c5, .slice p9 (M + 1) c9, .int .u64 (t + 1)] ∧ Blk X lb 46 #[.int .u64 (t + 1), .int .i64 xr, .int .i64 xk, .int .i64 xi, .int .i64 z, .int .i64 (now + 20)]), x.val.cell? ⟨bx, 0, none⟩ = some (.slice p5 K5 c5) := fun x => x.property.1.cell 0
                  have d1 : ∀ x : Of (fun X => Blk X bx 65 #[.slice p5 K5 c5, .slice p9 (M + 1) c9, .int .u64 (t + 1)] ∧ Blk X lb 46 #[.int .u64 (t + 1), .int .i64 xr, .int .i64 xk, .int .i64 xi, .int .i64 z, .int .i64 (now + 20)]), x.val.cell? ⟨bx, 1, none⟩ = some (.slice p9 (M + 1) c9) := fun x => x.property.1.cell 1
                  have d2 : ∀ x : Of (fun X => Blk X bx 65 #[.slice p5 K5 c5, .slice p9 (M + 1) c9, .int .u64 (t + 1)] ∧ Blk X lb 46 #[.int .u64 (t + 1), .int .i64 xr, .int .i64 xk, .int .i64 xi, .int .i64 z, .int .i64 (now + 20)]), x.val.cell? ⟨bx, 2, none⟩ = some (.int .u64 (t + 1)) := fun x => x.property.1.cell 2
                  have e0 : ∀ x : Of (fun X => Blk X bx 65 #[.slice p5 K5 c5, .slice p9 (M + 1) c9, .int .u64 (t + 1)] ∧ Blk X lb 46 #[.int .u64 (t + 1), .int .i64 xr, .int .i64 xk, .int .i64 xi, .int .i64 z, .int .i64 (now + 20)]), x.val.cell? ⟨lb, 0, none⟩ = some (.int .u64 (t + 1)) := fun x => x.property.2.cell 0
                  have e1 : ∀ x : Of (fun X => Blk X bx 65 #[.slice p5 K5 c5, .slice p9 (M + 1) c9, .int .u64 (t + 1)] ∧ Blk X lb 46 #[.int .u64 (t + 1), .int .i64 xr, .int .i64 xk, .int .i64 xi, .int .i64 z, .int .i64 (now + 20)]), x.val.cell? ⟨lb, 1, none⟩ = some (.int .i64 xr) := fun x => x.property.2.cell 1
                  have e2 : ∀ x : Of (fun X => Blk X bx 65 #[.slice p5 K5 c5, .slice p9 (M + 1) c9, .int .u64 (t + 1)] ∧ Blk X lb 46 #[.int .u64 (t + 1), .int .i64 xr, .int .i64 xk, .int .i64 xi, .int .i64 z, .int .i64 (now + 20)]), x.val.cell? ⟨lb, 2, none⟩ = some (.int .i64 xk) := fun x => x.property.2.cell 2
                  have e3 : ∀ x : Of (fun X => Blk X bx 65 #[.slice p5 K5 c5, .slice p9 (M + 1) c9, .int .u64 (t + 1)] ∧ Blk X lb 46 #[.int .u64 (t + 1), .int .i64 xr, .int .i64 xk, .int .i64 xi, .int .i64 z, .int .i64 (now + 20)]), x.val.cell? ⟨lb, 3, none⟩ = some (.int .i64 xi) := fun x => x.property.2.cell 3
                  have e4 : ∀ x : Of (fun X => Blk X bx 65 #[.slice p5 K5 c5, .slice p9 (M + 1) c9, .int .u64 (t + 1)] ∧ Blk X lb 46 #[.int .u64 (t + 1), .int .i64 xr, .int .i64 xk, .int .i64 xi, .int .i64 z, .int .i64 (now + 20)]), x.val.cell? ⟨lb, 4, none⟩ = some (.int .i64 z) := fun x => x.property.2.cell 4
                  have e5 : ∀ x : Of (fun X => Blk X bx 65 #[.slice p5 K5 c5, .slice p9 (M + 1) c9, .int .u64 (t + 1)] ∧ Blk X lb 46 #[.int .u64 (t + 1), .int .i64 xr, .int .i64 xk, .int .i64 xi, .int .i64 z, .int .i64 (now + 20)]), x.val.cell? ⟨lb, 5, none⟩ = some (.int .i64 (now + 20)) := fun x => x.property.2.cell 5
                  have hFd := (show Blk w10.drew bx 65 #[.slice p5 K5 c5, .slice p9 (M + 1) c9, .int .u64 (t + 1)] ∧ Blk w10.drew lb 46 #[.int .u64 (t + 1), .int .i64 xr, .int .i64 xk, .int .i64 xi, .int .i64 z, .int .i64 (now + 20)] from ⟨hbw.of_eq rfl, hbl.of_eq rfl⟩)
                  have hne_ : Nonempty (Of ((fun X => Blk X bx 65 #[.slice p5 K5 c5, .slice p9 (M + 1) c9, .int .u64 (t + 1)] ∧ Blk X lb 46 #[.int .u64 (t + 1), .int .i64 xr, .int .i64 xk, .int .i64 xi, .int .i64 z, .int .i64 (now + 20)]))) := ⟨⟨_, hFd⟩⟩
                  refine region_steps [0,1,2,3,4] [true,true,false,false,true] ((fun X => Blk X bx 65 #[.slice p5 K5 c5, .slice p9 (M + 1) c9, .int .u64 (t + 1)] ∧ Blk X lb 46 #[.int .u64 (t + 1), .int .i64 xr, .int .i64 xk, .int .i64 xi, .int .i64 z, .int .i64 (now + 20)])) (by kernel_rfl) (by kernel_rfl) hFd ?_
                  simp only [List.filterMap_cons, List.filterMap_nil, List.getElem?_cons_zero, List.getElem?_cons_succ]
                  refine steps_quiet 2 (by kernel_rfl) ?_
                  simp only [List.take_succ_cons, List.take_zero, List.drop_succ_cons, List.drop_zero]
                  repeat (go_big_quiet_step (fail))
                  refine wpQuiet_nil ?_
                  clear d0 d1 d2 e0 e1 e2 e3 e4 e5 hbw hbl hFd
                  replace hX := hX.ext (by repeat first | exact Locs.nil | refine Locs.cons (mP_loc _ _) ?_ | refine Locs.cons (blkA_loc _ _ _) ?_ | refine Locs.cons (rowA_loc _ _ _ _ _) ?_) (Ext.refl w10).drew
                  generalize World.drew w10 = w11 at *
                  have hb8 := hX.blk (g := bx + 1) (T := 65) (cs := #[.slice none 0 0, .slice none 0 0, .int .u64 0]) (by simp)
                  replace hX := (Has.last7 hX).row (cs := rwA (.slice p5 K5 c5) (.slice p9 (M + 1) c9) (t + 1)) (by repeat first | exact Locs.nil | refine Locs.cons (mP_loc _ _) ?_ | refine Locs.cons (blkA_loc _ _ _) ?_ | refine Locs.cons (rowA_loc _ _ _ _ _) ?_)
                  refine steps_want rfl (fun K hK => ?_)
                  refine wp_store_row _ _ _ rfl (bx + 1) (rwA (.slice p5 K5 c5) (.slice p9 (M + 1) c9) (t + 1)) rfl rfl _ _ hb8 rwInfo rfl (rwA_all _ _ _ _ _ _ _) ?_
                  refine hK _ _ _ ⟨hX.blk (by simp), hX.blk (by simp)⟩ (fun _ h => h) ?_
                  clear hK K hb8
                  try simp only [Act.put, List.setIfInBounds_toArray, List.set_cons_succ, List.set_cons_zero]
                  generalize World.setRow w11 _ _ = w12 at *
                  have hb9 := hX.blk (g := bx + 1 + 1) (T := 46) (cs := lsA zeroL) (by simp)
                  replace hX := (Has.last7 hX).row (cs := lsA ⟨t + 1, xr, xk, xi, z, now + 20⟩) (by repeat first | exact Locs.nil | refine Locs.cons (mP_loc _ _) ?_ | refine Locs.cons (blkA_loc _ _ _) ?_ | refine Locs.cons (rowA_loc _ _ _ _ _) ?_)
                  refine steps_want rfl (fun K hK => ?_)
                  refine wp_store_row _ _ _ rfl (bx + 1 + 1) (lsA ⟨t + 1, xr, xk, xi, z, now + 20⟩) rfl rfl _ _ hb9 (leaseInfo' _) rfl (lsA_all _) ?_
                  refine hK _ _ _ ⟨hX.blk (by simp), hX.blk (by simp)⟩ (fun _ h => h) ?_
                  clear hK K hb9
                  try simp only [Act.put, List.setIfInBounds_toArray, List.set_cons_succ, List.set_cons_zero]
                  generalize World.setRow w12 _ _ = w13 at *
                  refine steps_quiet 1 (by kernel_rfl) ?_
                  simp only [List.take_succ_cons, List.take_zero, List.drop_succ_cons, List.drop_zero]
                  repeat (go_big_quiet_step (fail))
                  refine wpQuiet_nil ?_
                  refine steps_nil ?_
                  try simp only [Act.put]
                  have hbr := hX.blk (g := bx + 1) (T := 65) (cs := rwA (.slice p5 K5 c5) (.slice p9 (M + 1) c9) (t + 1)) (by simp)
                  have hbl := hX.blk (g := bx + 1 + 1) (T := 46) (cs := lsA ⟨t + 1, xr, xk, xi, z, now + 20⟩) (by simp)
                  obtain ⟨ow, olo⟩ := hX.owned (e := 95) (size := 5) (v := .slice p5 K5 c5) (n := K5) (xs := flatH (pre ++ post)) (by simp)
                  obtain ⟨ow2, olo2⟩ := hX.owned (e := 46) (size := 6) (v := .slice p9 (M + 1) c9) (n := M + 1) (xs := flatL (ls ++ [⟨t + 1, xr, xk, xi, z, now + 20⟩])) (by simp)
                  have hEf := hX.base
                  clear hX
                  go_wp2_with fail
                  refine bodyPost_ret (v := .tuple #[rwV (.slice p5 K5 c5) (.slice p9 (M + 1) c9) (t + 1), lsV ⟨t + 1, xr, xk, xi, z, now + 20⟩, .int .i64 0]) (results_cell3 Try.results17 _ _ (bx + 1) (bx + 1 + 1) 65 46 (rwA (.slice p5 K5 c5) (.slice p9 (M + 1) c9) (t + 1)) (lsA ⟨t + 1, xr, xk, xi, z, now + 20⟩) _ _ _ _ rfl hbr Try.underlying65 rfl rwInfo rfl hbl Try.underlying46 rfl (leaseInfo' _)) rfl ?_
                  refine ⟨_, _, by rw [HO.out, HE.out]; rfl, ?_, hEf, fun g hg => Or.inr (Or.inr (olo g hg)), fun g hg => Or.inr (Or.inr (olo2 g hg))⟩
                  rw [HO.out]
                  refine ⟨?_, ?_⟩
                  · show w13.ownsRow 0 95 5 (.slice p5 K5 c5) (pre ++ post).length (flatH (pre ++ post))
                    rw [HK5.out]; exact ow
                  · show w13.ownsRow 0 46 6 (.slice p9 (M + 1) c9) (ls ++ [(⟨t + 1, xr, xk, xi, z, now + 20⟩ : Ls)]).length (flatL (ls ++ [(⟨t + 1, xr, xk, xi, z, now + 20⟩ : Ls)]))
                    rw [List.length_append, HM.out]; exact ow2
                · refine steps_want rfl (fun K hK => ?_)
                  go_simp
                  have hE8 : Ext w6 (((w6).alloc (.cells #[] 46)).alloc (.cells ((flatL [⟨t + 1, xr, xk, xi, z, now + 20⟩])).toArray 46)).drew := ((ext_alloc _ _).alloc _).drew
                  have hB8' : Blk (((w6).alloc (.cells #[] 46)).alloc (.cells ((flatL [⟨t + 1, xr, xk, xi, z, now + 20⟩])).toArray 46)).drew ((w6).heap.size + 1) 46 ((flatL [⟨t + 1, xr, xk, xi, z, now + 20⟩])).toArray := by
                    have := Blk.new ((w6).alloc (.cells #[] 46)) 46 ((flatL [⟨t + 1, xr, xk, xi, z, now + 20⟩])).toArray
                    exact Blk.drew (by simpa using this)
                  refine hK _ _ (fun X => Ext w6 X) (hE8) (fun _ h => h) ?_
                  clear hK K
                  try simp only [Act.put, List.setIfInBounds_toArray, List.set_cons_succ, List.set_cons_zero]
                  refine steps_end ?_
                  refine walkZ_seg ?_
                  simp only [List.filterMap_cons, List.filterMap_nil, List.getElem?_cons_zero, List.getElem?_cons_succ]
                  refine steps_want rfl (fun K hK => ?_)
                  refine wp_append_new _ _ 38 rfl 46 i0 (.agg (lsA zeroL)) 6 48 Try.underlying38 hi0 hi1 hi2 hi3 rfl (by decide) (.slice (some ⟨(w6).heap.size, 0, none⟩) 0 0) 0 [] rfl (World.ownsRow.drew (hlit.alloc _)) pl M cl (flatL ls) rfl hlN (row_nil hrow) (row_news (ownsRow_ext hrow hE8)) flatL_one (by unfold maxLen; omega) (by omega) ?_
                  intro v7 w7 hown7 hg7 hf7
                  obtain ⟨hE7, hb7⟩ := fresh_ext hE8 hlb hg7 hf7
                  have hB8 := hB8'.of_eq (hg7.block _ hB8'.lt (by simp [Value.ownBlock]))
                  clear hB8'
                  refine hK _ _ (fun X => Ext w6 X) (hE7) (fun _ h => h) ?_
                  clear hK K
                  try simp only [Act.put, List.setIfInBounds_toArray, List.set_cons_succ, List.set_cons_zero]
                  refine steps_want rfl (fun K hK => ?_)
                  refine wp_append_new _ _ 38 rfl 46 i0 (.agg (lsA zeroL)) 6 48 Try.underlying38 hi0 hi1 hi2 hi3 rfl (by decide) v7 _ _ rfl hown7 (some ⟨((w6).heap.size + 1), 0, none⟩) 1 1 (flatL [⟨t + 1, xr, xk, xi, z, now + 20⟩]) rfl rfl (fun h => nomatch h) (news_blk hB8) flatL_one (by unfold maxLen; omega) (by omega) ?_
                  intro v9 w9 hown9 hg9 hf9
                  obtain ⟨hE9, hb9⟩ := fresh_ext hE7 hb7 hg9 hf9
                  refine hK _ _ (fun X => Ext w6 X) (hE9) (fun _ h => h) ?_
                  clear hK K
                  try simp only [Act.put, List.setIfInBounds_toArray, List.set_cons_succ, List.set_cons_zero]
                  obtain ⟨p9, c9, rfl⟩ := ownsRow_slice hown9
                  simp only [Nat.zero_add] at hb9 hown9
                  refine steps_quiet 1 (by kernel_rfl) ?_
                  simp only [List.take_succ_cons, List.take_zero, List.drop_succ_cons, List.drop_zero]
                  repeat (go_big_quiet_step (fail))
                  refine wpQuiet_nil ?_
                  replace hX := (hX.add (by repeat first | exact Locs.nil | refine Locs.cons (mP_loc _ _) ?_ | refine Locs.cons (blkA_loc _ _ _) ?_ | refine Locs.cons (rowA_loc _ _ _ _ _) ?_) hE9 (p := rowA 46 6 (.slice p9 (M + 1) c9) (M + 1) (flatL (ls ++ [⟨t + 1, xr, xk, xi, z, now + 20⟩]))) ⟨by rw [flatL_append]; simpa using hown9, rfl⟩ hb9).swap
                  clear hown9 hg9 hf9 hown7 hg7 hf7 hB8 hrow hE9 hE7 hE8 hb7 hb9
                  have hbw := hX.blk (g := bx) (T := 65) (cs := #[(.slice p5 K5 c5), (.slice pl M cl), .int .u64 (t + 1)]) (by simp)
                  have a0 : World.cell? w9 ⟨bx, 0, none⟩ = some (.slice p5 K5 c5) := hbw.cell 0
                  have a1 : World.cell? w9 ⟨bx, 1, none⟩ = some (.slice pl M cl) := hbw.cell 1
                  have a2 : World.cell? w9 ⟨bx, 2, none⟩ = some (.int .u64 (t + 1)) := hbw.cell 2
                  have fz : w9.frozen? ⟨bx, 1, none⟩ = false := hbw.frozen 1
                  have hlt := hbw.lt
                  refine steps_end ?_
                  refine walkZ_done rfl rfl (fun K hK => ?_)
                  go_simp
                  refine hK _ _ ?_
                  clear hK K
                  try simp only [Act.put, List.setIfInBounds_toArray, List.set_cons_succ, List.set_cons_zero]
                  clear a0 a1 a2 fz hlt hbw
                  replace hX := hX.set (by repeat first | exact Locs.nil | refine Locs.cons (mP_loc _ _) ?_ | refine Locs.cons (blkA_loc _ _ _) ?_ | refine Locs.cons (rowA_loc _ _ _ _ _) ?_) 1 (.slice p9 (M + 1) c9)
                  generalize hw : World.setCell w9 _ _ = w10 at *
                  clear hw
                  replace hX : Has W w10 [blkA bx 65 #[.slice p5 K5 c5, .slice p9 (M + 1) c9, .int .u64 (t + 1)], rowA 46 6 (.slice p9 (M + 1) c9) (M + 1) (flatL (ls ++ [⟨t + 1, xr, xk, xi, z, now + 20⟩])), rowA 95 5 (.slice p5 K5 c5) K5 (flatH (pre ++ post)), blkA lb 46 #[.int .u64 (t + 1), .int .i64 xr, .int .i64 xk, .int .i64 xi, .int .i64 z, .int .i64 (now + 20)], blkA hb 95 #[.int .i64 xr, .int .i64 xk, .int .i64 xi, .int .i64 xw, .int .i64 xs], blkA (bx + 1 + 1) 46 (lsA zeroL), blkA (bx + 1) 65 #[.slice none 0 0, .slice none 0 0, .int .u64 0]] := hX
                  go_upto_region 16 with fail
                  have hbw := hX.blk (g := bx) (T := 65) (cs := #[.slice p5 K5 c5, .slice p9 (M + 1) c9, .int .u64 (t + 1)]) (by simp)
                  have hbl := hX.blk (g := lb) (T := 46) (cs := #[.int .u64 (t + 1), .int .i64 xr, .int .i64 xk, .int .i64 xi, .int .i64 z, .int .i64 (now + 20)]) (by simp)
                  have d0 : ∀ x : Of (fun X => Blk X bx 65 #[.slice p5 K5 c5, .slice p9 (M + 1) c9, .int .u64 (t + 1)] ∧ Blk X lb 46 #[.int .u64 (t + 1), .int .i64 xr, .int .i64 xk, .int .i64 xi, .int .i64 z, .int .i64 (now + 20)]), x.val.cell? ⟨bx, 0, none⟩ = some (.slice p5 K5 c5) := fun x => x.property.1.cell 0
                  have d1 : ∀ x : Of (fun X => Blk X bx 65 #[.slice p5 K5 c5, .slice p9 (M + 1) c9, .int .u64 (t + 1)] ∧ Blk X lb 46 #[.int .u64 (t + 1), .int .i64 xr, .int .i64 xk, .int .i64 xi, .int .i64 z, .int .i64 (now + 20)]), x.val.cell? ⟨bx, 1, none⟩ = some (.slice p9 (M + 1) c9) := fun x => x.property.1.cell 1
                  have d2 : ∀ x : Of (fun X => Blk X bx 65 #[.slice p5 K5 c5, .slice p9 (M + 1) c9, .int .u64 (t + 1)] ∧ Blk X lb 46 #[.int .u64 (t + 1), .int .i64 xr, .int .i64 xk, .int .i64 xi, .int .i64 z, .int .i64 (now + 20)]), x.val.cell? ⟨bx, 2, none⟩ = some (.int .u64 (t + 1)) := fun x => x.property.1.cell 2
                  have e0 : ∀ x : Of (fun X => Blk X bx 65 #[.slice p5 K5 c5, .slice p9 (M + 1) c9, .int .u64 (t + 1)] ∧ Blk X lb 46 #[.int .u64 (t + 1), .int .i64 xr, .int .i64 xk, .int .i64 xi, .int .i64 z, .int .i64 (now + 20)]), x.val.cell? ⟨lb, 0, none⟩ = some (.int .u64 (t + 1)) := fun x => x.property.2.cell 0
                  have e1 : ∀ x : Of (fun X => Blk X bx 65 #[.slice p5 K5 c5, .slice p9 (M + 1) c9, .int .u64 (t + 1)] ∧ Blk X lb 46 #[.int .u64 (t + 1), .int .i64 xr, .int .i64 xk, .int .i64 xi, .int .i64 z, .int .i64 (now + 20)]), x.val.cell? ⟨lb, 1, none⟩ = some (.int .i64 xr) := fun x => x.property.2.cell 1
                  have e2 : ∀ x : Of (fun X => Blk X bx 65 #[.slice p5 K5 c5, .slice p9 (M + 1) c9, .int .u64 (t + 1)] ∧ Blk X lb 46 #[.int .u64 (t + 1), .int .i64 xr, .int .i64 xk, .int .i64 xi, .int .i64 z, .int .i64 (now + 20)]), x.val.cell? ⟨lb, 2, none⟩ = some (.int .i64 xk) := fun x => x.property.2.cell 2
                  have e3 : ∀ x : Of (fun X => Blk X bx 65 #[.slice p5 K5 c5, .slice p9 (M + 1) c9, .int .u64 (t + 1)] ∧ Blk X lb 46 #[.int .u64 (t + 1), .int .i64 xr, .int .i64 xk, .int .i64 xi, .int .i64 z, .int .i64 (now + 20)]), x.val.cell? ⟨lb, 3, none⟩ = some (.int .i64 xi) := fun x => x.property.2.cell 3
                  have e4 : ∀ x : Of (fun X => Blk X bx 65 #[.slice p5 K5 c5, .slice p9 (M + 1) c9, .int .u64 (t + 1)] ∧ Blk X lb 46 #[.int .u64 (t + 1), .int .i64 xr, .int .i64 xk, .int .i64 xi, .int .i64 z, .int .i64 (now + 20)]), x.val.cell? ⟨lb, 4, none⟩ = some (.int .i64 z) := fun x => x.property.2.cell 4
                  have e5 : ∀ x : Of (fun X => Blk X bx 65 #[.slice p5 K5 c5, .slice p9 (M + 1) c9, .int .u64 (t + 1)] ∧ Blk X lb 46 #[.int .u64 (t + 1), .int .i64 xr, .int .i64 xk, .int .i64 xi, .int .i64 z, .int .i64 (now + 20)]), x.val.cell? ⟨lb, 5, none⟩ = some (.int .i64 (now + 20)) := fun x => x.property.2.cell 5
                  have hFd := (show Blk w10.drew bx 65 #[.slice p5 K5 c5, .slice p9 (M + 1) c9, .int .u64 (t + 1)] ∧ Blk w10.drew lb 46 #[.int .u64 (t + 1), .int .i64 xr, .int .i64 xk, .int .i64 xi, .int .i64 z, .int .i64 (now + 20)] from ⟨hbw.of_eq rfl, hbl.of_eq rfl⟩)
                  have hne_ : Nonempty (Of ((fun X => Blk X bx 65 #[.slice p5 K5 c5, .slice p9 (M + 1) c9, .int .u64 (t + 1)] ∧ Blk X lb 46 #[.int .u64 (t + 1), .int .i64 xr, .int .i64 xk, .int .i64 xi, .int .i64 z, .int .i64 (now + 20)]))) := ⟨⟨_, hFd⟩⟩
                  refine region_steps [0,1,2,3,4] [true,true,false,false,true] ((fun X => Blk X bx 65 #[.slice p5 K5 c5, .slice p9 (M + 1) c9, .int .u64 (t + 1)] ∧ Blk X lb 46 #[.int .u64 (t + 1), .int .i64 xr, .int .i64 xk, .int .i64 xi, .int .i64 z, .int .i64 (now + 20)])) (by kernel_rfl) (by kernel_rfl) hFd ?_
                  simp only [List.filterMap_cons, List.filterMap_nil, List.getElem?_cons_zero, List.getElem?_cons_succ]
                  refine steps_quiet 2 (by kernel_rfl) ?_
                  simp only [List.take_succ_cons, List.take_zero, List.drop_succ_cons, List.drop_zero]
                  repeat (go_big_quiet_step (fail))
                  refine wpQuiet_nil ?_
                  clear d0 d1 d2 e0 e1 e2 e3 e4 e5 hbw hbl hFd
                  replace hX := hX.ext (by repeat first | exact Locs.nil | refine Locs.cons (mP_loc _ _) ?_ | refine Locs.cons (blkA_loc _ _ _) ?_ | refine Locs.cons (rowA_loc _ _ _ _ _) ?_) (Ext.refl w10).drew
                  generalize World.drew w10 = w11 at *
                  have hb8 := hX.blk (g := bx + 1) (T := 65) (cs := #[.slice none 0 0, .slice none 0 0, .int .u64 0]) (by simp)
                  replace hX := (Has.last7 hX).row (cs := rwA (.slice p5 K5 c5) (.slice p9 (M + 1) c9) (t + 1)) (by repeat first | exact Locs.nil | refine Locs.cons (mP_loc _ _) ?_ | refine Locs.cons (blkA_loc _ _ _) ?_ | refine Locs.cons (rowA_loc _ _ _ _ _) ?_)
                  refine steps_want rfl (fun K hK => ?_)
                  refine wp_store_row _ _ _ rfl (bx + 1) (rwA (.slice p5 K5 c5) (.slice p9 (M + 1) c9) (t + 1)) rfl rfl _ _ hb8 rwInfo rfl (rwA_all _ _ _ _ _ _ _) ?_
                  refine hK _ _ _ ⟨hX.blk (by simp), hX.blk (by simp)⟩ (fun _ h => h) ?_
                  clear hK K hb8
                  try simp only [Act.put, List.setIfInBounds_toArray, List.set_cons_succ, List.set_cons_zero]
                  generalize World.setRow w11 _ _ = w12 at *
                  have hb9 := hX.blk (g := bx + 1 + 1) (T := 46) (cs := lsA zeroL) (by simp)
                  replace hX := (Has.last7 hX).row (cs := lsA ⟨t + 1, xr, xk, xi, z, now + 20⟩) (by repeat first | exact Locs.nil | refine Locs.cons (mP_loc _ _) ?_ | refine Locs.cons (blkA_loc _ _ _) ?_ | refine Locs.cons (rowA_loc _ _ _ _ _) ?_)
                  refine steps_want rfl (fun K hK => ?_)
                  refine wp_store_row _ _ _ rfl (bx + 1 + 1) (lsA ⟨t + 1, xr, xk, xi, z, now + 20⟩) rfl rfl _ _ hb9 (leaseInfo' _) rfl (lsA_all _) ?_
                  refine hK _ _ _ ⟨hX.blk (by simp), hX.blk (by simp)⟩ (fun _ h => h) ?_
                  clear hK K hb9
                  try simp only [Act.put, List.setIfInBounds_toArray, List.set_cons_succ, List.set_cons_zero]
                  generalize World.setRow w12 _ _ = w13 at *
                  refine steps_quiet 1 (by kernel_rfl) ?_
                  simp only [List.take_succ_cons, List.take_zero, List.drop_succ_cons, List.drop_zero]
                  repeat (go_big_quiet_step (fail))
                  refine wpQuiet_nil ?_
                  refine steps_nil ?_
                  try simp only [Act.put]
                  have hbr := hX.blk (g := bx + 1) (T := 65) (cs := rwA (.slice p5 K5 c5) (.slice p9 (M + 1) c9) (t + 1)) (by simp)
                  have hbl := hX.blk (g := bx + 1 + 1) (T := 46) (cs := lsA ⟨t + 1, xr, xk, xi, z, now + 20⟩) (by simp)
                  obtain ⟨ow, olo⟩ := hX.owned (e := 95) (size := 5) (v := .slice p5 K5 c5) (n := K5) (xs := flatH (pre ++ post)) (by simp)
                  obtain ⟨ow2, olo2⟩ := hX.owned (e := 46) (size := 6) (v := .slice p9 (M + 1) c9) (n := M + 1) (xs := flatL (ls ++ [⟨t + 1, xr, xk, xi, z, now + 20⟩])) (by simp)
                  have hEf := hX.base
                  clear hX
                  go_wp2_with fail
                  refine bodyPost_ret (v := .tuple #[rwV (.slice p5 K5 c5) (.slice p9 (M + 1) c9) (t + 1), lsV ⟨t + 1, xr, xk, xi, z, now + 20⟩, .int .i64 0]) (results_cell3 Try.results17 _ _ (bx + 1) (bx + 1 + 1) 65 46 (rwA (.slice p5 K5 c5) (.slice p9 (M + 1) c9) (t + 1)) (lsA ⟨t + 1, xr, xk, xi, z, now + 20⟩) _ _ _ _ rfl hbr Try.underlying65 rfl rwInfo rfl hbl Try.underlying46 rfl (leaseInfo' _)) rfl ?_
                  refine ⟨_, _, by rw [HO.out, HE.out]; rfl, ?_, hEf, fun g hg => Or.inr (Or.inr (olo g hg)), fun g hg => Or.inr (Or.inr (olo2 g hg))⟩
                  rw [HO.out]
                  refine ⟨?_, ?_⟩
                  · show w13.ownsRow 0 95 5 (.slice p5 K5 c5) (pre ++ post).length (flatH (pre ++ post))
                    rw [HK5.out]; exact ow
                  · show w13.ownsRow 0 46 6 (.slice p9 (M + 1) c9) (ls ++ [(⟨t + 1, xr, xk, xi, z, now + 20⟩ : Ls)]).length (flatL (ls ++ [(⟨t + 1, xr, xk, xi, z, now + 20⟩ : Ls)]))
                    rw [List.length_append, HM.out]; exact ow2
              · refine steps_want rfl (fun K hK => ?_)
                go_simp
                refine hK _ _ (fun X => Ext w6 X) ((show Ext w6 ((w6).alloc (.cells ((flatL [⟨t + 1, xr, xk, xi, z, now + 20⟩])).toArray 46)).drew from (ext_alloc _ _).drew)) (fun _ h => h) ?_
                clear hK K
                try simp only [Act.put, List.setIfInBounds_toArray, List.set_cons_succ, List.set_cons_zero]
                refine steps_end ?_
                refine walkZ_seg ?_
                simp only [List.filterMap_cons, List.filterMap_nil, List.getElem?_cons_zero, List.getElem?_cons_succ]
                refine steps_want rfl (fun K hK => ?_)
                go_simp
                have hlit : (((w6).alloc (.cells ((flatL [⟨t + 1, xr, xk, xi, z, now + 20⟩])).toArray 46)).alloc (.cells #[] 46)).drew.ownsRow 0 46 6 (.slice (some ⟨(w6).heap.size + 1, 0, none⟩) 0 0) 0 [] := by
                  have := World.ownsRow_made (base := 0) (e := 46) (size := 6) ((w6).alloc (.cells ((flatL [⟨t + 1, xr, xk, xi, z, now + 20⟩])).toArray 46)) #[] 0 (Nat.zero_le _) (by simp) rfl
                  exact World.ownsRow.drew (by simpa using this)
                have hlb : ∀ k, (Value.slice (some ⟨(w6).heap.size + 1, 0, none⟩) 0 0).ownBlock = some k → (w6).heap.size ≤ k := fun k hk => by
                  have : (w6).heap.size + 1 = k := by simpa [Value.ownBlock] using hk
                  omega
                have hE8 : Ext w6 (((w6).alloc (.cells ((flatL [⟨t + 1, xr, xk, xi, z, now + 20⟩])).toArray 46)).alloc (.cells #[] 46)).drew := ((ext_alloc _ _).alloc _).drew
                have hB8' : Blk (((w6).alloc (.cells ((flatL [⟨t + 1, xr, xk, xi, z, now + 20⟩])).toArray 46)).alloc (.cells #[] 46)).drew (w6).heap.size 46 ((flatL [⟨t + 1, xr, xk, xi, z, now + 20⟩])).toArray := ((Blk.new _ _ _).alloc _).drew
                refine hK _ _ (fun X => Ext w6 X) (hE8) (fun _ h => h) ?_
                clear hK K
                try simp only [Act.put, List.setIfInBounds_toArray, List.set_cons_succ, List.set_cons_zero]
                refine steps_want rfl (fun K hK => ?_)
                refine wp_append_new _ _ 38 rfl 46 i0 (.agg (lsA zeroL)) 6 48 Try.underlying38 hi0 hi1 hi2 hi3 rfl (by decide) (.slice (some ⟨(w6).heap.size + 1, 0, none⟩) 0 0) 0 [] rfl hlit pl M cl (flatL ls) rfl hlN (row_nil hrow) (row_news (ownsRow_ext hrow hE8)) flatL_one (by unfold maxLen; omega) (by omega) ?_
                intro v7 w7 hown7 hg7 hf7
                obtain ⟨hE7, hb7⟩ := fresh_ext hE8 hlb hg7 hf7
                have hB8 := hB8'.of_eq (hg7.block _ hB8'.lt (by simp [Value.ownBlock]))
                clear hB8'
                refine hK _ _ (fun X => Ext w6 X) (hE7) (fun _ h => h) ?_
                clear hK K
                try simp only [Act.put, List.setIfInBounds_toArray, List.set_cons_succ, List.set_cons_zero]
                refine steps_want rfl (fun K hK => ?_)
                refine wp_append_new _ _ 38 rfl 46 i0 (.agg (lsA zeroL)) 6 48 Try.underlying38 hi0 hi1 hi2 hi3 rfl (by decide) v7 _ _ rfl hown7 (some ⟨(w6).heap.size, 0, none⟩) 1 1 (flatL [⟨t + 1, xr, xk, xi, z, now + 20⟩]) rfl rfl (fun h => nomatch h) (news_blk hB8) flatL_one (by unfold maxLen; omega) (by omega) ?_
                intro v9 w9 hown9 hg9 hf9
                obtain ⟨hE9, hb9⟩ := fresh_ext hE7 hb7 hg9 hf9
                refine hK _ _ (fun X => Ext w6 X) (hE9) (fun _ h => h) ?_
                clear hK K
                try simp only [Act.put, List.setIfInBounds_toArray, List.set_cons_succ, List.set_cons_zero]
                obtain ⟨p9, c9, rfl⟩ := ownsRow_slice hown9
                simp only [Nat.zero_add] at hb9 hown9
                refine steps_quiet 1 (by kernel_rfl) ?_
                simp only [List.take_succ_cons, List.take_zero, List.drop_succ_cons, List.drop_zero]
                repeat (go_big_quiet_step (fail))
                refine wpQuiet_nil ?_
                replace hX := (hX.add (by repeat first | exact Locs.nil | refine Locs.cons (mP_loc _ _) ?_ | refine Locs.cons (blkA_loc _ _ _) ?_ | refine Locs.cons (rowA_loc _ _ _ _ _) ?_) hE9 (p := rowA 46 6 (.slice p9 (M + 1) c9) (M + 1) (flatL (ls ++ [⟨t + 1, xr, xk, xi, z, now + 20⟩]))) ⟨by rw [flatL_append]; simpa using hown9, rfl⟩ hb9).swap
                clear hown9 hg9 hf9 hown7 hg7 hf7 hB8 hrow hE9 hE7 hE8 hb7 hb9
                have hbw := hX.blk (g := bx) (T := 65) (cs := #[(.slice p5 K5 c5), (.slice pl M cl), .int .u64 (t + 1)]) (by simp)
                have a0 : World.cell? w9 ⟨bx, 0, none⟩ = some (.slice p5 K5 c5) := hbw.cell 0
                have a1 : World.cell? w9 ⟨bx, 1, none⟩ = some (.slice pl M cl) := hbw.cell 1
                have a2 : World.cell? w9 ⟨bx, 2, none⟩ = some (.int .u64 (t + 1)) := hbw.cell 2
                have fz : w9.frozen? ⟨bx, 1, none⟩ = false := hbw.frozen 1
                have hlt := hbw.lt
                refine steps_end ?_
                refine walkZ_done rfl rfl (fun K hK => ?_)
                go_simp
                refine hK _ _ ?_
                clear hK K
                try simp only [Act.put, List.setIfInBounds_toArray, List.set_cons_succ, List.set_cons_zero]
                clear a0 a1 a2 fz hlt hbw
                replace hX := hX.set (by repeat first | exact Locs.nil | refine Locs.cons (mP_loc _ _) ?_ | refine Locs.cons (blkA_loc _ _ _) ?_ | refine Locs.cons (rowA_loc _ _ _ _ _) ?_) 1 (.slice p9 (M + 1) c9)
                generalize hw : World.setCell w9 _ _ = w10 at *
                clear hw
                replace hX : Has W w10 [blkA bx 65 #[.slice p5 K5 c5, .slice p9 (M + 1) c9, .int .u64 (t + 1)], rowA 46 6 (.slice p9 (M + 1) c9) (M + 1) (flatL (ls ++ [⟨t + 1, xr, xk, xi, z, now + 20⟩])), rowA 95 5 (.slice p5 K5 c5) K5 (flatH (pre ++ post)), blkA lb 46 #[.int .u64 (t + 1), .int .i64 xr, .int .i64 xk, .int .i64 xi, .int .i64 z, .int .i64 (now + 20)], blkA hb 95 #[.int .i64 xr, .int .i64 xk, .int .i64 xi, .int .i64 xw, .int .i64 xs], blkA (bx + 1 + 1) 46 (lsA zeroL), blkA (bx + 1) 65 #[.slice none 0 0, .slice none 0 0, .int .u64 0]] := hX
                go_upto_region 16 with fail
                have hbw := hX.blk (g := bx) (T := 65) (cs := #[.slice p5 K5 c5, .slice p9 (M + 1) c9, .int .u64 (t + 1)]) (by simp)
                have hbl := hX.blk (g := lb) (T := 46) (cs := #[.int .u64 (t + 1), .int .i64 xr, .int .i64 xk, .int .i64 xi, .int .i64 z, .int .i64 (now + 20)]) (by simp)
                have d0 : ∀ x : Of (fun X => Blk X bx 65 #[.slice p5 K5 c5, .slice p9 (M + 1) c9, .int .u64 (t + 1)] ∧ Blk X lb 46 #[.int .u64 (t + 1), .int .i64 xr, .int .i64 xk, .int .i64 xi, .int .i64 z, .int .i64 (now + 20)]), x.val.cell? ⟨bx, 0, none⟩ = some (.slice p5 K5 c5) := fun x => x.property.1.cell 0
                have d1 : ∀ x : Of (fun X => Blk X bx 65 #[.slice p5 K5 c5, .slice p9 (M + 1) c9, .int .u64 (t + 1)] ∧ Blk X lb 46 #[.int .u64 (t + 1), .int .i64 xr, .int .i64 xk, .int .i64 xi, .int .i64 z, .int .i64 (now + 20)]), x.val.cell? ⟨bx, 1, none⟩ = some (.slice p9 (M + 1) c9) := fun x => x.property.1.cell 1
                have d2 : ∀ x : Of (fun X => Blk X bx 65 #[.slice p5 K5 c5, .slice p9 (M + 1) c9, .int .u64 (t + 1)] ∧ Blk X lb 46 #[.int .u64 (t + 1), .int .i64 xr, .int .i64 xk, .int .i64 xi, .int .i64 z, .int .i64 (now + 20)]), x.val.cell? ⟨bx, 2, none⟩ = some (.int .u64 (t + 1)) := fun x => x.property.1.cell 2
                have e0 : ∀ x : Of (fun X => Blk X bx 65 #[.slice p5 K5 c5, .slice p9 (M + 1) c9, .int .u64 (t + 1)] ∧ Blk X lb 46 #[.int .u64 (t + 1), .int .i64 xr, .int .i64 xk, .int .i64 xi, .int .i64 z, .int .i64 (now + 20)]), x.val.cell? ⟨lb, 0, none⟩ = some (.int .u64 (t + 1)) := fun x => x.property.2.cell 0
                have e1 : ∀ x : Of (fun X => Blk X bx 65 #[.slice p5 K5 c5, .slice p9 (M + 1) c9, .int .u64 (t + 1)] ∧ Blk X lb 46 #[.int .u64 (t + 1), .int .i64 xr, .int .i64 xk, .int .i64 xi, .int .i64 z, .int .i64 (now + 20)]), x.val.cell? ⟨lb, 1, none⟩ = some (.int .i64 xr) := fun x => x.property.2.cell 1
                have e2 : ∀ x : Of (fun X => Blk X bx 65 #[.slice p5 K5 c5, .slice p9 (M + 1) c9, .int .u64 (t + 1)] ∧ Blk X lb 46 #[.int .u64 (t + 1), .int .i64 xr, .int .i64 xk, .int .i64 xi, .int .i64 z, .int .i64 (now + 20)]), x.val.cell? ⟨lb, 2, none⟩ = some (.int .i64 xk) := fun x => x.property.2.cell 2
                have e3 : ∀ x : Of (fun X => Blk X bx 65 #[.slice p5 K5 c5, .slice p9 (M + 1) c9, .int .u64 (t + 1)] ∧ Blk X lb 46 #[.int .u64 (t + 1), .int .i64 xr, .int .i64 xk, .int .i64 xi, .int .i64 z, .int .i64 (now + 20)]), x.val.cell? ⟨lb, 3, none⟩ = some (.int .i64 xi) := fun x => x.property.2.cell 3
                have e4 : ∀ x : Of (fun X => Blk X bx 65 #[.slice p5 K5 c5, .slice p9 (M + 1) c9, .int .u64 (t + 1)] ∧ Blk X lb 46 #[.int .u64 (t + 1), .int .i64 xr, .int .i64 xk, .int .i64 xi, .int .i64 z, .int .i64 (now + 20)]), x.val.cell? ⟨lb, 4, none⟩ = some (.int .i64 z) := fun x => x.property.2.cell 4
                have e5 : ∀ x : Of (fun X => Blk X bx 65 #[.slice p5 K5 c5, .slice p9 (M + 1) c9, .int .u64 (t + 1)] ∧ Blk X lb 46 #[.int .u64 (t + 1), .int .i64 xr, .int .i64 xk, .int .i64 xi, .int .i64 z, .int .i64 (now + 20)]), x.val.cell? ⟨lb, 5, none⟩ = some (.int .i64 (now + 20)) := fun x => x.property.2.cell 5
                have hFd := (show Blk w10.drew bx 65 #[.slice p5 K5 c5, .slice p9 (M + 1) c9, .int .u64 (t + 1)] ∧ Blk w10.drew lb 46 #[.int .u64 (t + 1), .int .i64 xr, .int .i64 xk, .int .i64 xi, .int .i64 z, .int .i64 (now + 20)] from ⟨hbw.of_eq rfl, hbl.of_eq rfl⟩)
                have hne_ : Nonempty (Of ((fun X => Blk X bx 65 #[.slice p5 K5 c5, .slice p9 (M + 1) c9, .int .u64 (t + 1)] ∧ Blk X lb 46 #[.int .u64 (t + 1), .int .i64 xr, .int .i64 xk, .int .i64 xi, .int .i64 z, .int .i64 (now + 20)]))) := ⟨⟨_, hFd⟩⟩
                refine region_steps [0,1,2,3,4] [true,true,false,false,true] ((fun X => Blk X bx 65 #[.slice p5 K5 c5, .slice p9 (M + 1) c9, .int .u64 (t + 1)] ∧ Blk X lb 46 #[.int .u64 (t + 1), .int .i64 xr, .int .i64 xk, .int .i64 xi, .int .i64 z, .int .i64 (now + 20)])) (by kernel_rfl) (by kernel_rfl) hFd ?_
                simp only [List.filterMap_cons, List.filterMap_nil, List.getElem?_cons_zero, List.getElem?_cons_succ]
                refine steps_quiet 2 (by kernel_rfl) ?_
                simp only [List.take_succ_cons, List.take_zero, List.drop_succ_cons, List.drop_zero]
                repeat (go_big_quiet_step (fail))
                refine wpQuiet_nil ?_
                clear d0 d1 d2 e0 e1 e2 e3 e4 e5 hbw hbl hFd
                replace hX := hX.ext (by repeat first | exact Locs.nil | refine Locs.cons (mP_loc _ _) ?_ | refine Locs.cons (blkA_loc _ _ _) ?_ | refine Locs.cons (rowA_loc _ _ _ _ _) ?_) (Ext.refl w10).drew
                generalize World.drew w10 = w11 at *
                have hb8 := hX.blk (g := bx + 1) (T := 65) (cs := #[.slice none 0 0, .slice none 0 0, .int .u64 0]) (by simp)
                replace hX := (Has.last7 hX).row (cs := rwA (.slice p5 K5 c5) (.slice p9 (M + 1) c9) (t + 1)) (by repeat first | exact Locs.nil | refine Locs.cons (mP_loc _ _) ?_ | refine Locs.cons (blkA_loc _ _ _) ?_ | refine Locs.cons (rowA_loc _ _ _ _ _) ?_)
                refine steps_want rfl (fun K hK => ?_)
                refine wp_store_row _ _ _ rfl (bx + 1) (rwA (.slice p5 K5 c5) (.slice p9 (M + 1) c9) (t + 1)) rfl rfl _ _ hb8 rwInfo rfl (rwA_all _ _ _ _ _ _ _) ?_
                refine hK _ _ _ ⟨hX.blk (by simp), hX.blk (by simp)⟩ (fun _ h => h) ?_
                clear hK K hb8
                try simp only [Act.put, List.setIfInBounds_toArray, List.set_cons_succ, List.set_cons_zero]
                generalize World.setRow w11 _ _ = w12 at *
                have hb9 := hX.blk (g := bx + 1 + 1) (T := 46) (cs := lsA zeroL) (by simp)
                replace hX := (Has.last7 hX).row (cs := lsA ⟨t + 1, xr, xk, xi, z, now + 20⟩) (by repeat first | exact Locs.nil | refine Locs.cons (mP_loc _ _) ?_ | refine Locs.cons (blkA_loc _ _ _) ?_ | refine Locs.cons (rowA_loc _ _ _ _ _) ?_)
                refine steps_want rfl (fun K hK => ?_)
                refine wp_store_row _ _ _ rfl (bx + 1 + 1) (lsA ⟨t + 1, xr, xk, xi, z, now + 20⟩) rfl rfl _ _ hb9 (leaseInfo' _) rfl (lsA_all _) ?_
                refine hK _ _ _ ⟨hX.blk (by simp), hX.blk (by simp)⟩ (fun _ h => h) ?_
                clear hK K hb9
                try simp only [Act.put, List.setIfInBounds_toArray, List.set_cons_succ, List.set_cons_zero]
                generalize World.setRow w12 _ _ = w13 at *
                refine steps_quiet 1 (by kernel_rfl) ?_
                simp only [List.take_succ_cons, List.take_zero, List.drop_succ_cons, List.drop_zero]
                repeat (go_big_quiet_step (fail))
                refine wpQuiet_nil ?_
                refine steps_nil ?_
                try simp only [Act.put]
                have hbr := hX.blk (g := bx + 1) (T := 65) (cs := rwA (.slice p5 K5 c5) (.slice p9 (M + 1) c9) (t + 1)) (by simp)
                have hbl := hX.blk (g := bx + 1 + 1) (T := 46) (cs := lsA ⟨t + 1, xr, xk, xi, z, now + 20⟩) (by simp)
                obtain ⟨ow, olo⟩ := hX.owned (e := 95) (size := 5) (v := .slice p5 K5 c5) (n := K5) (xs := flatH (pre ++ post)) (by simp)
                obtain ⟨ow2, olo2⟩ := hX.owned (e := 46) (size := 6) (v := .slice p9 (M + 1) c9) (n := M + 1) (xs := flatL (ls ++ [⟨t + 1, xr, xk, xi, z, now + 20⟩])) (by simp)
                have hEf := hX.base
                clear hX
                go_wp2_with fail
                refine bodyPost_ret (v := .tuple #[rwV (.slice p5 K5 c5) (.slice p9 (M + 1) c9) (t + 1), lsV ⟨t + 1, xr, xk, xi, z, now + 20⟩, .int .i64 0]) (results_cell3 Try.results17 _ _ (bx + 1) (bx + 1 + 1) 65 46 (rwA (.slice p5 K5 c5) (.slice p9 (M + 1) c9) (t + 1)) (lsA ⟨t + 1, xr, xk, xi, z, now + 20⟩) _ _ _ _ rfl hbr Try.underlying65 rfl rwInfo rfl hbl Try.underlying46 rfl (leaseInfo' _)) rfl ?_
                refine ⟨_, _, by rw [HO.out, HE.out]; rfl, ?_, hEf, fun g hg => Or.inr (Or.inr (olo g hg)), fun g hg => Or.inr (Or.inr (olo2 g hg))⟩
                rw [HO.out]
                refine ⟨?_, ?_⟩
                · show w13.ownsRow 0 95 5 (.slice p5 K5 c5) (pre ++ post).length (flatH (pre ++ post))
                  rw [HK5.out]; exact ow
                · show w13.ownsRow 0 46 6 (.slice p9 (M + 1) c9) (ls ++ [(⟨t + 1, xr, xk, xi, z, now + 20⟩ : Ls)]).length (flatL (ls ++ [(⟨t + 1, xr, xk, xi, z, now + 20⟩ : Ls)]))
                  rw [List.length_append, HM.out]; exact ow2
    · have HO : Hid (rpollO ws ls z kind = none) := Lib.hid (by rw [rpollO, if_neg HZ.out, if_neg HMM.out, rpick, splitH_none (hj1 (by omega)), splitH_none (hj2 (by omega))])
      have HE : Hid (rpollE ws ls z kind = 4) := Lib.hid (by rw [rpollE, if_neg HZ.out, if_neg HMM.out, rpick, splitH_none (hj1 (by omega)), splitH_none (hj2 (by omega))]; rfl)
      clear hj1 hj2
      rw [show (j : Int) = 2 by omega]
      have hbw := hX.blk (g := bx) (T := 65) (cs := #[(.slice pw L cw), (.slice pl M cl), .int .u64 t]) (by simp)
      have a0 : World.cell? wr ⟨bx, 0, none⟩ = some (.slice pw L cw) := hbw.cell 0
      have a1 : World.cell? wr ⟨bx, 1, none⟩ = some (.slice pl M cl) := hbw.cell 1
      have a2 : World.cell? wr ⟨bx, 2, none⟩ = some (.int .u64 t) := hbw.cell 2
      have hb8 := hX.blk (g := bx + 1) (T := 65) (cs := #[.slice none 0 0, .slice none 0 0, .int .u64 0]) (by simp)
      have hX2 := ((hX.swap).row (cs := rwA (.slice pw L cw) (.slice pl M cl) t) (by repeat first | exact Locs.nil | refine Locs.cons (mP_loc _ _) ?_ | refine Locs.cons (blkA_loc _ _ _) ?_ | refine Locs.cons (rowA_loc _ _ _ _ _) ?_)).swap
      have hb9 := hX2.blk (g := bx + 1 + 1) (T := 46) (cs := lsA zeroL) (by simp)
      have hX3 := hX2.row (cs := lsA zeroL) (by repeat first | exact Locs.nil | refine Locs.cons (mP_loc _ _) ?_ | refine Locs.cons (blkA_loc _ _ _) ?_ | refine Locs.cons (rowA_loc _ _ _ _ _) ?_)
      have hbr := hX3.blk (g := bx + 1) (T := 65) (cs := rwA (.slice pw L cw) (.slice pl M cl) t) (by simp)
      have hbl := hX3.blk (g := bx + 1 + 1) (T := 46) (cs := lsA zeroL) (by simp)
      go_wp2_with (first | (refine wpList_store_row rfl _ _ _ rfl (bx + 1) (rwA (.slice pw L cw) (.slice pl M cl) t) rfl rfl _ _ hb8 rwInfo rfl (rwA_all _ _ _ _ _ _ _) ?_) | (refine wpList_store_row rfl _ _ _ rfl (bx + 1 + 1) (lsA zeroL) rfl rfl _ _ hb9 (leaseInfo' zeroL) rfl (lsA_all _) ?_))
      refine bodyPost_ret (v := .tuple #[rwV (.slice pw L cw) (.slice pl M cl) t, lsV zeroL, .int .i64 4]) (results_cell3 Try.results17 _ _ (bx + 1) (bx + 1 + 1) 65 46 (rwA (.slice pw L cw) (.slice pl M cl) t) (lsA zeroL) _ _ _ _ rfl hbr Try.underlying65 rfl rwInfo rfl hbl Try.underlying46 rfl (leaseInfo' _)) rfl ?_
      refine ⟨_, _, by rw [HO.out, HE.out]; rfl, ?_, hX3.base, fun g hg => Or.inl hg, fun g hg => Or.inr (Or.inl hg)⟩
      rw [HO.out]
      exact hR.ext hX3.base
end Go.Proofs.Ytfbolgdecdfnaaa
