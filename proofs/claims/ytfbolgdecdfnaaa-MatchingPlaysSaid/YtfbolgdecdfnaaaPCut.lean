/- The document's matches: cut. -/
import Derived.Test.YtfbolgdecdfnaaaPTurn
namespace Go.Proofs.Ytfbolgdecdfnaaa
set_option linter.unusedVariables false
set_option linter.unusedSimpArgs false
open Go Go.RowKit Go.Maps Go.ChangeMaps Go.MapKept
def hitH (r k i : Int) (all : Bool) (h : Hd) : Bool := isH h r k i || (all && h.run == r)
def hitL (r k i : Int) (all : Bool) (l : Ls) : Bool := isL l r k i || (all && l.run == r)
def rcutW (r k i : Int) (all : Bool) (ws : List Hd) : List Hd := ws.filter fun h => !hitH r k i all h
def rcutL (r k i : Int) (all : Bool) (ls : List Ls) : List Ls := ls.filter fun l => !hitL r k i all l
def CtRel (W : World) (bx : Nat) (ws : List Hd) (r k i t : Int) (all : Bool) (B1 B2 B3 : Asr) (v19 : Value) (wr : World) : Prop :=
  ∃ pre post v, ws = pre ++ post ∧ v19 = .int .i64 pre.length ∧ Has W wr [blkA (bx + 1 + 1 + 1) 65 #[v, .slice none 0 0, .int .u64 t], rowA 95 5 v (rcutW r k i all pre).length (flatH (rcutW r k i all pre)), B1, B2, B3]
def ClRel (W : World) (bx : Nat) (ls : List Ls) (r k i t : Int) (all : Bool) (v0 : Value) (B0 B1 B2 B3 : Asr) (v49 : Value) (wr : World) : Prop :=
  ∃ pre post v, ls = pre ++ post ∧ v49 = .int .i64 pre.length ∧ Has W wr [blkA (bx + 1 + 1 + 1) 65 #[v0, v, .int .u64 t], rowA 46 6 v (rcutL r k i all pre).length (flatL (rcutL r k i all pre)), B0, B1, B2, B3]
def RCut (W : World) (t : Int) (ws ws' : List Hd) (ls ls' : List Ls) (e : Ending) (W' : World) : Prop :=
  ∃ vw' vl', e = .returned (.tuple #[rwV vw' vl' t, .int .i64 ((ws.length : Int) - ws'.length + ls.length - ls'.length)]) ∧ RRows W' vw' ws' vl' ls' ∧ Ext W W' ∧ (∀ g, vw'.ownBlock = some g → W.heap.size ≤ g) ∧ (∀ g, vl'.ownBlock = some g → W.heap.size ≤ g)
set_option maxRecDepth 100000 in
set_option maxHeartbeats 40000000 in
theorem rcut_any (W : World) (vw vl : Value) (t : Int) (ws : List Hd) (ls : List Ls) (r k i : Int) (all : Bool) (h : RRows W vw ws vl ls) (hw : ws.length ≤ 900) (hl : ls.length ≤ 900) :
    Calls Try.prog 22 #[rwV vw vl t, taskV r k i, .bool all] W fun e W' => RCut W t ws (rcutW r k i all ws) ls (rcutL r k i all ls) e W' := by
  have hR := h
  have hX := hm_blk (hm_blk (hm_blk (hm_blk (Has.nil (Ext.refl W)) .nil 65 #[vw, vl, .int .u64 t]) (by repeat first | exact Locs.nil | refine Locs.cons (mP_loc _ _) ?_ | refine Locs.cons (blkA_loc _ _ _) ?_ | refine Locs.cons (rowA_loc _ _ _ _ _) ?_) 42 #[.int .i64 r, .int .i64 k, .int .i64 i]) (by repeat first | exact Locs.nil | refine Locs.cons (mP_loc _ _) ?_ | refine Locs.cons (blkA_loc _ _ _) ?_ | refine Locs.cons (rowA_loc _ _ _ _ _) ?_) 65 #[.slice none 0 0, .slice none 0 0, .int .u64 0]) (by repeat first | exact Locs.nil | refine Locs.cons (mP_loc _ _) ?_ | refine Locs.cons (blkA_loc _ _ _) ?_ | refine Locs.cons (rowA_loc _ _ _ _ _) ?_) 65 #[.slice none 0 0, .slice none 0 0, .int .u64 t]
  have ea : ∀ (w : World) (o : Obj), (w.alloc o).heap.size = w.heap.size + 1 := fun w o => by simp
  rw [ea, ea, ea] at hX
  clear ea
  obtain ⟨i0, hi0, hi1, hi2, hi3⟩ := info_parts6 hdInfo5
  obtain ⟨pw, cw, rfl⟩ := ownsRow_slice h.w
  obtain ⟨pl, cl, rfl⟩ := ownsRow_slice h.l
  obtain ⟨K, hK⟩ : ∃ n, ws.length = n := ⟨_, rfl⟩
  obtain ⟨L, hL⟩ : ∃ n, ls.length = n := ⟨_, rfl⟩
  rw [hK] at hX hR hw ⊢
  rw [hL] at hX hR hl ⊢
  have HL := Lib.hid hL
  have HKK := Lib.hid hK
  clear hL hK h
  go_enter Try.func22, Try.ntmps22
  go_upto_region 2 with fail
  generalize hw0 : World.alloc (World.alloc (World.alloc (World.alloc W _) _) _) _ = w1 at *
  generalize hbxn : W.heap.size = bx at *
  have HBX := Lib.hid hbxn
  clear hw0 hbxn
  have hbw := hX.blk (g := bx) (T := 65) (cs := #[.slice pw K cw, .slice pl L cl, .int .u64 t]) (by simp)
  have a0 : w1.cell? ⟨bx, 0, none⟩ = some (.slice pw K cw) := hbw.cell 0
  replace hX := (hX.add (by repeat first | exact Locs.nil | refine Locs.cons (mP_loc _ _) ?_ | refine Locs.cons (blkA_loc _ _ _) ?_ | refine Locs.cons (rowA_loc _ _ _ _ _) ?_) (Ext.refl w1) (p := rowA 95 5 (.slice none 0 0) 0 (flatH [])) ⟨World.ownsRow_nil _ _ _ _, rfl⟩ (fun k hk => by simp [Value.ownBlock] at hk)).swap
  go_wp2_with fail
  clear a0 hbw
  go_loopw [19] (fun v19 wr => CtRel W bx ws r k i t all _ _ _ v19 wr) (fun v19 _ => ((K : Int) + 1 - intOf v19).toNat)
  case atStart => exact ⟨[], ws, _, rfl, rfl, hX⟩
  case round =>
    clear hX
    obtain ⟨pre, post, v, hx, rfl, hH⟩ := hrel
    cases post with
    | nil =>
      obtain rfl : ws = pre := by simpa using hx
      have hl2 : ¬ ((ws.length : Int) < K) := by rw [← HKK.out]; omega
      clear hx
      obtain ⟨A, hA⟩ : ∃ l, rcutW r k i all ws = l := ⟨_, rfl⟩
      rw [hA] at hH
      have hkl : A.length ≤ ws.length := by rw [← hA]; exact List.length_filter_le _ _
      have HA := Lib.hid hA
      clear hA
      obtain ⟨LA, hLA⟩ : ∃ n, A.length = n := ⟨_, rfl⟩
      rw [hLA] at hH
      rw [hLA, HKK.out] at hkl
      have HLA := Lib.hid hLA
      clear hLA
      obtain ⟨pv, cv, rfl⟩ := ownsRow_slice (hH.owned (e := 95) (size := 5) (v := v) (n := LA) (xs := flatH A) (by simp)).1
      obtain ⟨wo, hwo⟩ : ∃ wo : World, wo = wr := ⟨_, rfl⟩
      rw [← hwo] at hH ⊢
      clear hwo
      have hX := (hH.add (by repeat first | exact Locs.nil | refine Locs.cons (mP_loc _ _) ?_ | refine Locs.cons (blkA_loc _ _ _) ?_ | refine Locs.cons (rowA_loc _ _ _ _ _) ?_) (Ext.refl wo) (p := rowA 46 6 (.slice none 0 0) 0 (flatL [])) ⟨World.ownsRow_nil _ _ _ _, rfl⟩ (fun k hk => by simp [Value.ownBlock] at hk)).swap
      clear hH
      have hbw := hX.blk (g := bx) (T := 65) (cs := #[.slice pw K cw, .slice pl L cl, .int .u64 t]) (by simp)
      have a1 : wo.cell? ⟨bx, 1, none⟩ = some (.slice pl L cl) := hbw.cell 1
      obtain ⟨j0, hj0, hj1, hj2, hj3⟩ := info_parts6 lsInfo
      go_wp2_with fail
      clear a1 hbw
      go_loopw [49] (fun v49 wr => ClRel W bx ls r k i t all (.slice pv LA cv) _ _ _ _ v49 wr) (fun v49 _ => ((L : Int) + 1 - intOf v49).toNat)
      case atStart => exact ⟨[], ls, _, rfl, rfl, hX⟩
      case round =>
        clear hX
        obtain ⟨pre, post, v, hx, rfl, hH⟩ := hrel
        cases post with
        | nil =>
          obtain rfl : ls = pre := by simpa using hx
          have hl3 : ¬ ((ls.length : Int) < L) := by rw [← HL.out]; omega
          clear hx
          obtain ⟨B, hB⟩ : ∃ l, rcutL r k i all ls = l := ⟨_, rfl⟩
          rw [hB] at hH
          have hkb : B.length ≤ ls.length := by rw [← hB]; exact List.length_filter_le _ _
          have HB := Lib.hid hB
          clear hB
          obtain ⟨LB, hLB⟩ : ∃ n, B.length = n := ⟨_, rfl⟩
          rw [hLB] at hH
          rw [hLB, HL.out] at hkb
          have HLB := Lib.hid hLB
          clear hLB
          obtain ⟨p2, c2, rfl⟩ := ownsRow_slice (hH.owned (e := 46) (size := 6) (v := v) (n := LB) (xs := flatL B) (by simp)).1
          go_upto_region 14 with fail
          have hbv := hH.blk (g := bx + 1 + 1 + 1) (T := 65) (cs := #[.slice pv LA cv, .slice p2 LB c2, .int .u64 t]) (by simp)
          have hbw := hH.blk (g := bx) (T := 65) (cs := #[.slice pw K cw, .slice pl L cl, .int .u64 t]) (by simp)
          have d0 : ∀ x : Of (fun X => Blk X (bx + 1 + 1 + 1) 65 #[.slice pv LA cv, .slice p2 LB c2, .int .u64 t] ∧ Blk X bx 65 #[.slice pw K cw, .slice pl L cl, .int .u64 t]), x.val.cell? ⟨bx + 1 + 1 + 1, 0, none⟩ = some (.slice pv LA cv) := fun x => x.property.1.cell 0
          have d1 : ∀ x : Of (fun X => Blk X (bx + 1 + 1 + 1) 65 #[.slice pv LA cv, .slice p2 LB c2, .int .u64 t] ∧ Blk X bx 65 #[.slice pw K cw, .slice pl L cl, .int .u64 t]), x.val.cell? ⟨bx + 1 + 1 + 1, 1, none⟩ = some (.slice p2 LB c2) := fun x => x.property.1.cell 1
          have d2 : ∀ x : Of (fun X => Blk X (bx + 1 + 1 + 1) 65 #[.slice pv LA cv, .slice p2 LB c2, .int .u64 t] ∧ Blk X bx 65 #[.slice pw K cw, .slice pl L cl, .int .u64 t]), x.val.cell? ⟨bx + 1 + 1 + 1, 2, none⟩ = some (.int .u64 t) := fun x => x.property.1.cell 2
          have d3 : ∀ x : Of (fun X => Blk X (bx + 1 + 1 + 1) 65 #[.slice pv LA cv, .slice p2 LB c2, .int .u64 t] ∧ Blk X bx 65 #[.slice pw K cw, .slice pl L cl, .int .u64 t]), x.val.cell? ⟨bx, 0, none⟩ = some (.slice pw K cw) := fun x => x.property.2.cell 0
          have d4 : ∀ x : Of (fun X => Blk X (bx + 1 + 1 + 1) 65 #[.slice pv LA cv, .slice p2 LB c2, .int .u64 t] ∧ Blk X bx 65 #[.slice pw K cw, .slice pl L cl, .int .u64 t]), x.val.cell? ⟨bx, 1, none⟩ = some (.slice pl L cl) := fun x => x.property.2.cell 1
          have s1 : IntKind.i64.wrap ((K : Int) - LA) = (K : Int) - LA := IntWalk.i64_in _ (by omega)
          have s2 : IntKind.i64.wrap ((K : Int) - LA + L) = (K : Int) - LA + L := IntWalk.i64_in _ (by omega)
          have s3 : IntKind.i64.wrap ((K : Int) - LA + L - LB) = (K : Int) - LA + L - LB := IntWalk.i64_in _ (by omega)
          have hFd := (show Blk wr.drew (bx + 1 + 1 + 1) 65 #[.slice pv LA cv, .slice p2 LB c2, .int .u64 t] ∧ Blk wr.drew bx 65 #[.slice pw K cw, .slice pl L cl, .int .u64 t] from ⟨hbv.of_eq rfl, hbw.of_eq rfl⟩)
          have hne_ : Nonempty (Of ((fun X => Blk X (bx + 1 + 1 + 1) 65 #[.slice pv LA cv, .slice p2 LB c2, .int .u64 t] ∧ Blk X bx 65 #[.slice pw K cw, .slice pl L cl, .int .u64 t]))) := ⟨⟨_, hFd⟩⟩
          refine region_steps [0,1,2,3,4,5,6,7,8,9,10,11,12,13,14,15,16,17] [true,true,true,true,true,true,true,true,true,true,true,true,true,true,true,true,false,true] ((fun X => Blk X (bx + 1 + 1 + 1) 65 #[.slice pv LA cv, .slice p2 LB c2, .int .u64 t] ∧ Blk X bx 65 #[.slice pw K cw, .slice pl L cl, .int .u64 t])) (by kernel_rfl) (by kernel_rfl) hFd ?_
          simp only [List.filterMap_cons, List.filterMap_nil, List.getElem?_cons_zero, List.getElem?_cons_succ]
          refine steps_quiet 16 (by kernel_rfl) ?_
          simp only [List.take_succ_cons, List.take_zero, List.drop_succ_cons, List.drop_zero]
          repeat (go_big_quiet_step (fail))
          refine wpQuiet_nil ?_
          clear d0 d1 d2 d3 d4 hbv hbw hFd s1 s2 s3
          replace hH := hH.ext (by repeat first | exact Locs.nil | refine Locs.cons (mP_loc _ _) ?_ | refine Locs.cons (blkA_loc _ _ _) ?_ | refine Locs.cons (rowA_loc _ _ _ _ _) ?_) (Ext.refl wr).drew
          generalize World.drew wr = w11 at *
          have hb8 := hH.blk (g := bx + 1 + 1) (T := 65) (cs := #[.slice none 0 0, .slice none 0 0, .int .u64 0]) (by simp)
          replace hH := hH.fourth.row (cs := rwA (.slice pv LA cv) (.slice p2 LB c2) t) (by repeat first | exact Locs.nil | refine Locs.cons (mP_loc _ _) ?_ | refine Locs.cons (blkA_loc _ _ _) ?_ | refine Locs.cons (rowA_loc _ _ _ _ _) ?_)
          refine steps_want rfl (fun K hK => ?_)
          refine wp_store_row _ _ _ rfl (bx + 1 + 1) (rwA (.slice pv LA cv) (.slice p2 LB c2) t) rfl rfl _ _ hb8 rwInfo rfl (rwA_all _ _ _ _ _ _ _) ?_
          refine hK _ _ _ ⟨hH.blk (by simp), hH.blk (by simp)⟩ (fun _ h => h) ?_
          clear hK K hb8
          try simp only [Act.put, List.setIfInBounds_toArray, List.set_cons_succ, List.set_cons_zero]
          generalize World.setRow w11 _ _ = w12 at *
          refine steps_quiet 1 (by kernel_rfl) ?_
          simp only [List.take_succ_cons, List.take_zero, List.drop_succ_cons, List.drop_zero]
          repeat (go_big_quiet_step (fail))
          refine wpQuiet_nil ?_
          refine steps_nil ?_
          try simp only [Act.put]
          have hbr := hH.blk (g := bx + 1 + 1) (T := 65) (cs := rwA (.slice pv LA cv) (.slice p2 LB c2) t) (by simp)
          obtain ⟨ow, olo⟩ := hH.owned (e := 95) (size := 5) (v := .slice pv LA cv) (n := LA) (xs := flatH A) (by simp)
          obtain ⟨ow2, olo2⟩ := hH.owned (e := 46) (size := 6) (v := .slice p2 LB c2) (n := LB) (xs := flatL B) (by simp)
          have hEf := hH.base
          clear hH
          go_wp2_with fail
          refine bodyPost_ret (v := .tuple #[rwV (.slice pv LA cv) (.slice p2 LB c2) t, .int .i64 ((K : Int) - LA + L - LB)]) (results_cell2 Try.results22 _ _ (bx + 1 + 1) 65 (rwA (.slice pv LA cv) (.slice p2 LB c2) t) _ _ rfl hbr Try.underlying65 rfl rwInfo) rfl ?_
          refine ⟨_, _, by rw [HA.out, HB.out, HKK.out, HL.out, HLA.out, HLB.out], ?_, hEf, olo, olo2⟩
          rw [HA.out, HB.out]
          refine ⟨?_, ?_⟩
          · rw [HLA.out]; exact ow
          · rw [HLB.out]; exact ow2
        | cons x post =>
          have hl3 : (pre.length : Int) < L := by rw [← HL.out, hx]; simp; omega
          have hrw := (hR.ext hH.base).l
          rw [HL.out, hx] at hrw
          obtain ⟨g, hpe, -, hg, x0, x1, x2, x3, x4, x5⟩ := lease_at (by rw [← HL.out, hx]) hrw
          subst hpe
          have HX := Lib.hid hx
          clear hx hrw
          obtain ⟨xt, xr, xk, xi, xw, xu⟩ := x
          go_upto_region 11 with fail
          replace hH := hm_blk hH (by repeat first | exact Locs.nil | refine Locs.cons (mP_loc _ _) ?_ | refine Locs.cons (blkA_loc _ _ _) ?_ | refine Locs.cons (rowA_loc _ _ _ _ _) ?_) 46 #[.int .u64 xt, .int .i64 xr, .int .i64 xk, .int .i64 xi, .int .i64 xw, .int .i64 xu]
          generalize hw_ : World.alloc wr _ = w3 at *
          generalize wr.heap.size = bt at *
          clear hw_ x0 x1 x2 x3 x4 x5
          have hpl : pre.length ≤ 900 := by omega
          have hkl2 : (rcutL r k i all pre).length ≤ pre.length := List.length_filter_le _ _
          have hbh := hH.blk (g := bt) (T := 46) (cs := #[.int .u64 xt, .int .i64 xr, .int .i64 xk, .int .i64 xi, .int .i64 xw, .int .i64 xu]) (by simp)
          have hbq := hH.blk (g := bx + 1) (T := 42) (cs := #[.int .i64 r, .int .i64 k, .int .i64 i]) (by simp)
          have hbv := hH.blk (g := bx + 1 + 1 + 1) (T := 65) (cs := #[.slice pv LA cv, v, .int .u64 t]) (by simp)
          have y0 : World.cell? w3 ⟨bt, 0, none⟩ = some (.int .u64 xt) := hbh.cell 0
          have y1 : World.cell? w3 ⟨bt, 1, none⟩ = some (.int .i64 xr) := hbh.cell 1
          have y2 : World.cell? w3 ⟨bt, 2, none⟩ = some (.int .i64 xk) := hbh.cell 2
          have y3 : World.cell? w3 ⟨bt, 3, none⟩ = some (.int .i64 xi) := hbh.cell 3
          have y4 : World.cell? w3 ⟨bt, 4, none⟩ = some (.int .i64 xw) := hbh.cell 4
          have y5 : World.cell? w3 ⟨bt, 5, none⟩ = some (.int .i64 xu) := hbh.cell 5
          have q0 : World.cell? w3 ⟨bx + 1, 0, none⟩ = some (.int .i64 r) := hbq.cell 0
          have q1 : World.cell? w3 ⟨bx + 1, 1, none⟩ = some (.int .i64 k) := hbq.cell 1
          have q2 : World.cell? w3 ⟨bx + 1, 2, none⟩ = some (.int .i64 i) := hbq.cell 2
          have v0 : World.cell? w3 ⟨bx + 1 + 1 + 1, 1, none⟩ = some v := hbv.cell 1
          obtain ⟨b1, hb1⟩ : ∃ b, (xr == r) = b := ⟨_, rfl⟩
          obtain ⟨b2, hb2⟩ : ∃ b, (xk == k) = b := ⟨_, rfl⟩
          obtain ⟨b3, hb3⟩ : ∃ b, (xi == i) = b := ⟨_, rfl⟩
          cases all with
          | true =>
            cases b1 with
            | false =>
              have HIT : Hid (hitL r k i true ⟨xt, xr, xk, xi, xw, xu⟩ = false) := Lib.hid (by simp [hitL, isL, hb1])
              clear hb2 hb3
              have HRC : Hid (rcutL r k i true (pre ++ [⟨xt, xr, xk, xi, xw, xu⟩]) = rcutL r k i true pre ++ [⟨xt, xr, xk, xi, xw, xu⟩]) := Lib.hid (by unfold rcutL; rw [List.filter_append]; simp [HIT.out])
              obtain ⟨B, hB⟩ : ∃ l, rcutL r k i true pre = l := ⟨_, rfl⟩
              rw [hB] at hH hkl2
              have HB := Lib.hid hB
              clear hB
              obtain ⟨LB, hLB⟩ : ∃ n, B.length = n := ⟨_, rfl⟩
              rw [hLB] at hH hkl2
              have HLB := Lib.hid hLB
              clear hLB
              obtain ⟨p2, c2, rfl⟩ := ownsRow_slice (hH.owned (e := 46) (size := 6) (v := v) (n := LB) (xs := flatL B) (by simp)).1
              have hH2 := (hH.third).ext (by repeat first | exact Locs.nil | refine Locs.cons (mP_loc _ _) ?_ | refine Locs.cons (blkA_loc _ _ _) ?_ | refine Locs.cons (rowA_loc _ _ _ _ _) ?_) (ext_alloc w3 (.cells #[.int .u64 xt, .int .i64 xr, .int .i64 xk, .int .i64 xi, .int .i64 xw, .int .i64 xu] 46))
              have hnews := news_new w3 (lsC ⟨xt, xr, xk, xi, xw, xu⟩) 46
              obtain ⟨Fp, hFp⟩ := hH2.head
              have hown := hFp.1
              go_wp2_with (at_builtin; refine wpList_append_new rfl _ _ 38 rfl 46 j0 (.agg (lsA zeroL)) 6 48 Try.underlying38 hj0 hj1 hj2 hj3 rfl (by decide) _ _ _ rfl hown _ 1 1 (lsC ⟨xt, xr, xk, xi, xw, xu⟩) rfl rfl (fun h => by cases h) hnews (lsC_one _) (by unfold maxLen; omega) (by omega) ?_)
              intro v4 w4 hown4 hg4 hf4
              have hH5 := (hH2.next (by repeat first | exact Locs.nil | refine Locs.cons (mP_loc _ _) ?_ | refine Locs.cons (blkA_loc _ _ _) ?_ | refine Locs.cons (rowA_loc _ _ _ _ _) ?_) fun F hF => Next.mk (p' := rowA 46 6 v4 (LB + 1) (flatL B ++ lsC ⟨xt, xr, xk, xi, xw, xu⟩)) ⟨hown4, rfl⟩ (by rw [hF.2]; exact grownBy.tch hg4) (by rw [hF.2]; exact hf4.1)).third
              obtain ⟨p4, d4, rfl⟩ := ownsRow_slice hown4
              clear hH2 hH hFp hown hown4 hg4 hf4 hnews hbh hbq hbv y0 y1 y2 y3 y4 y5 q0 q1 q2 v0
              have hbv := hH5.blk (g := bx + 1 + 1 + 1) (T := 65) (cs := #[.slice pv LA cv, .slice p2 LB c2, .int .u64 t]) (by simp)
              have v0 : w4.cell? ⟨bx + 1 + 1 + 1, 1, none⟩ = some (.slice p2 LB c2) := hbv.cell 1
              have fz : w4.frozen? ⟨bx + 1 + 1 + 1, 1, none⟩ = false := hbv.frozen 1
              have hlt := hbv.lt
              go_wp2_with fail
              have hH6 := (hH5.set (by repeat first | exact Locs.nil | refine Locs.cons (mP_loc _ _) ?_ | refine Locs.cons (blkA_loc _ _ _) ?_ | refine Locs.cons (rowA_loc _ _ _ _ _) ?_) 1 (.slice p4 (LB + 1) d4)).third.drop
              refine ⟨⟨pre ++ [⟨xt, xr, xk, xi, xw, xu⟩], post, .slice p4 (LB + 1) d4, by rw [HX.out]; simp, by simp, ?_⟩, by simp [intOf]; omega⟩
              rw [HRC.out, HB.out]
              simp only [flatL_append, List.length_append, HLB.out]
              simpa [flatL] using hH6
            | true =>
              have HIT : Hid (hitL r k i true ⟨xt, xr, xk, xi, xw, xu⟩ = true) := Lib.hid (by simp [hitL, isL, hb1])
              cases b2 with
              | false => have HRC : Hid (rcutL r k i true (pre ++ [⟨xt, xr, xk, xi, xw, xu⟩]) = rcutL r k i true pre) := Lib.hid (by unfold rcutL; rw [List.filter_append]; simp [HIT.out])
                         go_wp2_with fail
                         refine ⟨⟨pre ++ [⟨xt, xr, xk, xi, xw, xu⟩], post, v, by rw [HX.out]; simp, by simp, ?_⟩, by simp [intOf]; omega⟩
                         rw [HRC.out]
                         exact hH.drop
              | true =>
                cases b3 with
                | false => have HRC : Hid (rcutL r k i true (pre ++ [⟨xt, xr, xk, xi, xw, xu⟩]) = rcutL r k i true pre) := Lib.hid (by unfold rcutL; rw [List.filter_append]; simp [HIT.out])
                           go_wp2_with fail
                           refine ⟨⟨pre ++ [⟨xt, xr, xk, xi, xw, xu⟩], post, v, by rw [HX.out]; simp, by simp, ?_⟩, by simp [intOf]; omega⟩
                           rw [HRC.out]
                           exact hH.drop
                | true => have HRC : Hid (rcutL r k i true (pre ++ [⟨xt, xr, xk, xi, xw, xu⟩]) = rcutL r k i true pre) := Lib.hid (by unfold rcutL; rw [List.filter_append]; simp [HIT.out])
                          go_wp2_with fail
                          refine ⟨⟨pre ++ [⟨xt, xr, xk, xi, xw, xu⟩], post, v, by rw [HX.out]; simp, by simp, ?_⟩, by simp [intOf]; omega⟩
                          rw [HRC.out]
                          exact hH.drop
          | false =>
            cases b1 with
            | false =>
              have HIT : Hid (hitL r k i false ⟨xt, xr, xk, xi, xw, xu⟩ = false) := Lib.hid (by simp [hitL, isL, hb1])
              clear hb2 hb3
              have HRC : Hid (rcutL r k i false (pre ++ [⟨xt, xr, xk, xi, xw, xu⟩]) = rcutL r k i false pre ++ [⟨xt, xr, xk, xi, xw, xu⟩]) := Lib.hid (by unfold rcutL; rw [List.filter_append]; simp [HIT.out])
              obtain ⟨B, hB⟩ : ∃ l, rcutL r k i false pre = l := ⟨_, rfl⟩
              rw [hB] at hH hkl2
              have HB := Lib.hid hB
              clear hB
              obtain ⟨LB, hLB⟩ : ∃ n, B.length = n := ⟨_, rfl⟩
              rw [hLB] at hH hkl2
              have HLB := Lib.hid hLB
              clear hLB
              obtain ⟨p2, c2, rfl⟩ := ownsRow_slice (hH.owned (e := 46) (size := 6) (v := v) (n := LB) (xs := flatL B) (by simp)).1
              have hH2 := (hH.third).ext (by repeat first | exact Locs.nil | refine Locs.cons (mP_loc _ _) ?_ | refine Locs.cons (blkA_loc _ _ _) ?_ | refine Locs.cons (rowA_loc _ _ _ _ _) ?_) (ext_alloc w3 (.cells #[.int .u64 xt, .int .i64 xr, .int .i64 xk, .int .i64 xi, .int .i64 xw, .int .i64 xu] 46))
              have hnews := news_new w3 (lsC ⟨xt, xr, xk, xi, xw, xu⟩) 46
              obtain ⟨Fp, hFp⟩ := hH2.head
              have hown := hFp.1
              go_wp2_with (at_builtin; refine wpList_append_new rfl _ _ 38 rfl 46 j0 (.agg (lsA zeroL)) 6 48 Try.underlying38 hj0 hj1 hj2 hj3 rfl (by decide) _ _ _ rfl hown _ 1 1 (lsC ⟨xt, xr, xk, xi, xw, xu⟩) rfl rfl (fun h => by cases h) hnews (lsC_one _) (by unfold maxLen; omega) (by omega) ?_)
              intro v4 w4 hown4 hg4 hf4
              have hH5 := (hH2.next (by repeat first | exact Locs.nil | refine Locs.cons (mP_loc _ _) ?_ | refine Locs.cons (blkA_loc _ _ _) ?_ | refine Locs.cons (rowA_loc _ _ _ _ _) ?_) fun F hF => Next.mk (p' := rowA 46 6 v4 (LB + 1) (flatL B ++ lsC ⟨xt, xr, xk, xi, xw, xu⟩)) ⟨hown4, rfl⟩ (by rw [hF.2]; exact grownBy.tch hg4) (by rw [hF.2]; exact hf4.1)).third
              obtain ⟨p4, d4, rfl⟩ := ownsRow_slice hown4
              clear hH2 hH hFp hown hown4 hg4 hf4 hnews hbh hbq hbv y0 y1 y2 y3 y4 y5 q0 q1 q2 v0
              have hbv := hH5.blk (g := bx + 1 + 1 + 1) (T := 65) (cs := #[.slice pv LA cv, .slice p2 LB c2, .int .u64 t]) (by simp)
              have v0 : w4.cell? ⟨bx + 1 + 1 + 1, 1, none⟩ = some (.slice p2 LB c2) := hbv.cell 1
              have fz : w4.frozen? ⟨bx + 1 + 1 + 1, 1, none⟩ = false := hbv.frozen 1
              have hlt := hbv.lt
              go_wp2_with fail
              have hH6 := (hH5.set (by repeat first | exact Locs.nil | refine Locs.cons (mP_loc _ _) ?_ | refine Locs.cons (blkA_loc _ _ _) ?_ | refine Locs.cons (rowA_loc _ _ _ _ _) ?_) 1 (.slice p4 (LB + 1) d4)).third.drop
              refine ⟨⟨pre ++ [⟨xt, xr, xk, xi, xw, xu⟩], post, .slice p4 (LB + 1) d4, by rw [HX.out]; simp, by simp, ?_⟩, by simp [intOf]; omega⟩
              rw [HRC.out, HB.out]
              simp only [flatL_append, List.length_append, HLB.out]
              simpa [flatL] using hH6
            | true =>
              cases b2 with
              | false =>
                have HIT : Hid (hitL r k i false ⟨xt, xr, xk, xi, xw, xu⟩ = false) := Lib.hid (by simp [hitL, isL, hb2])
                clear hb3
                have HRC : Hid (rcutL r k i false (pre ++ [⟨xt, xr, xk, xi, xw, xu⟩]) = rcutL r k i false pre ++ [⟨xt, xr, xk, xi, xw, xu⟩]) := Lib.hid (by unfold rcutL; rw [List.filter_append]; simp [HIT.out])
                obtain ⟨B, hB⟩ : ∃ l, rcutL r k i false pre = l := ⟨_, rfl⟩
                rw [hB] at hH hkl2
                have HB := Lib.hid hB
                clear hB
                obtain ⟨LB, hLB⟩ : ∃ n, B.length = n := ⟨_, rfl⟩
                rw [hLB] at hH hkl2
                have HLB := Lib.hid hLB
                clear hLB
                obtain ⟨p2, c2, rfl⟩ := ownsRow_slice (hH.owned (e := 46) (size := 6) (v := v) (n := LB) (xs := flatL B) (by simp)).1
                have hH2 := (hH.third).ext (by repeat first | exact Locs.nil | refine Locs.cons (mP_loc _ _) ?_ | refine Locs.cons (blkA_loc _ _ _) ?_ | refine Locs.cons (rowA_loc _ _ _ _ _) ?_) (ext_alloc w3 (.cells #[.int .u64 xt, .int .i64 xr, .int .i64 xk, .int .i64 xi, .int .i64 xw, .int .i64 xu] 46))
                have hnews := news_new w3 (lsC ⟨xt, xr, xk, xi, xw, xu⟩) 46
                obtain ⟨Fp, hFp⟩ := hH2.head
                have hown := hFp.1
                go_wp2_with (at_builtin; refine wpList_append_new rfl _ _ 38 rfl 46 j0 (.agg (lsA zeroL)) 6 48 Try.underlying38 hj0 hj1 hj2 hj3 rfl (by decide) _ _ _ rfl hown _ 1 1 (lsC ⟨xt, xr, xk, xi, xw, xu⟩) rfl rfl (fun h => by cases h) hnews (lsC_one _) (by unfold maxLen; omega) (by omega) ?_)
                intro v4 w4 hown4 hg4 hf4
                have hH5 := (hH2.next (by repeat first | exact Locs.nil | refine Locs.cons (mP_loc _ _) ?_ | refine Locs.cons (blkA_loc _ _ _) ?_ | refine Locs.cons (rowA_loc _ _ _ _ _) ?_) fun F hF => Next.mk (p' := rowA 46 6 v4 (LB + 1) (flatL B ++ lsC ⟨xt, xr, xk, xi, xw, xu⟩)) ⟨hown4, rfl⟩ (by rw [hF.2]; exact grownBy.tch hg4) (by rw [hF.2]; exact hf4.1)).third
                obtain ⟨p4, d4, rfl⟩ := ownsRow_slice hown4
                clear hH2 hH hFp hown hown4 hg4 hf4 hnews hbh hbq hbv y0 y1 y2 y3 y4 y5 q0 q1 q2 v0
                have hbv := hH5.blk (g := bx + 1 + 1 + 1) (T := 65) (cs := #[.slice pv LA cv, .slice p2 LB c2, .int .u64 t]) (by simp)
                have v0 : w4.cell? ⟨bx + 1 + 1 + 1, 1, none⟩ = some (.slice p2 LB c2) := hbv.cell 1
                have fz : w4.frozen? ⟨bx + 1 + 1 + 1, 1, none⟩ = false := hbv.frozen 1
                have hlt := hbv.lt
                go_wp2_with fail
                have hH6 := (hH5.set (by repeat first | exact Locs.nil | refine Locs.cons (mP_loc _ _) ?_ | refine Locs.cons (blkA_loc _ _ _) ?_ | refine Locs.cons (rowA_loc _ _ _ _ _) ?_) 1 (.slice p4 (LB + 1) d4)).third.drop
                refine ⟨⟨pre ++ [⟨xt, xr, xk, xi, xw, xu⟩], post, .slice p4 (LB + 1) d4, by rw [HX.out]; simp, by simp, ?_⟩, by simp [intOf]; omega⟩
                rw [HRC.out, HB.out]
                simp only [flatL_append, List.length_append, HLB.out]
                simpa [flatL] using hH6
              | true =>
                cases b3 with
                | false =>
                  have HIT : Hid (hitL r k i false ⟨xt, xr, xk, xi, xw, xu⟩ = false) := Lib.hid (by simp [hitL, isL, hb3])
                  have HRC : Hid (rcutL r k i false (pre ++ [⟨xt, xr, xk, xi, xw, xu⟩]) = rcutL r k i false pre ++ [⟨xt, xr, xk, xi, xw, xu⟩]) := Lib.hid (by unfold rcutL; rw [List.filter_append]; simp [HIT.out])
                  obtain ⟨B, hB⟩ : ∃ l, rcutL r k i false pre = l := ⟨_, rfl⟩
                  rw [hB] at hH hkl2
                  have HB := Lib.hid hB
                  clear hB
                  obtain ⟨LB, hLB⟩ : ∃ n, B.length = n := ⟨_, rfl⟩
                  rw [hLB] at hH hkl2
                  have HLB := Lib.hid hLB
                  clear hLB
                  obtain ⟨p2, c2, rfl⟩ := ownsRow_slice (hH.owned (e := 46) (size := 6) (v := v) (n := LB) (xs := flatL B) (by simp)).1
                  have hH2 := (hH.third).ext (by repeat first | exact Locs.nil | refine Locs.cons (mP_loc _ _) ?_ | refine Locs.cons (blkA_loc _ _ _) ?_ | refine Locs.cons (rowA_loc _ _ _ _ _) ?_) (ext_alloc w3 (.cells #[.int .u64 xt, .int .i64 xr, .int .i64 xk, .int .i64 xi, .int .i64 xw, .int .i64 xu] 46))
                  have hnews := news_new w3 (lsC ⟨xt, xr, xk, xi, xw, xu⟩) 46
                  obtain ⟨Fp, hFp⟩ := hH2.head
                  have hown := hFp.1
                  go_wp2_with (at_builtin; refine wpList_append_new rfl _ _ 38 rfl 46 j0 (.agg (lsA zeroL)) 6 48 Try.underlying38 hj0 hj1 hj2 hj3 rfl (by decide) _ _ _ rfl hown _ 1 1 (lsC ⟨xt, xr, xk, xi, xw, xu⟩) rfl rfl (fun h => by cases h) hnews (lsC_one _) (by unfold maxLen; omega) (by omega) ?_)
                  intro v4 w4 hown4 hg4 hf4
                  have hH5 := (hH2.next (by repeat first | exact Locs.nil | refine Locs.cons (mP_loc _ _) ?_ | refine Locs.cons (blkA_loc _ _ _) ?_ | refine Locs.cons (rowA_loc _ _ _ _ _) ?_) fun F hF => Next.mk (p' := rowA 46 6 v4 (LB + 1) (flatL B ++ lsC ⟨xt, xr, xk, xi, xw, xu⟩)) ⟨hown4, rfl⟩ (by rw [hF.2]; exact grownBy.tch hg4) (by rw [hF.2]; exact hf4.1)).third
                  obtain ⟨p4, d4, rfl⟩ := ownsRow_slice hown4
                  clear hH2 hH hFp hown hown4 hg4 hf4 hnews hbh hbq hbv y0 y1 y2 y3 y4 y5 q0 q1 q2 v0
                  have hbv := hH5.blk (g := bx + 1 + 1 + 1) (T := 65) (cs := #[.slice pv LA cv, .slice p2 LB c2, .int .u64 t]) (by simp)
                  have v0 : w4.cell? ⟨bx + 1 + 1 + 1, 1, none⟩ = some (.slice p2 LB c2) := hbv.cell 1
                  have fz : w4.frozen? ⟨bx + 1 + 1 + 1, 1, none⟩ = false := hbv.frozen 1
                  have hlt := hbv.lt
                  go_wp2_with fail
                  have hH6 := (hH5.set (by repeat first | exact Locs.nil | refine Locs.cons (mP_loc _ _) ?_ | refine Locs.cons (blkA_loc _ _ _) ?_ | refine Locs.cons (rowA_loc _ _ _ _ _) ?_) 1 (.slice p4 (LB + 1) d4)).third.drop
                  refine ⟨⟨pre ++ [⟨xt, xr, xk, xi, xw, xu⟩], post, .slice p4 (LB + 1) d4, by rw [HX.out]; simp, by simp, ?_⟩, by simp [intOf]; omega⟩
                  rw [HRC.out, HB.out]
                  simp only [flatL_append, List.length_append, HLB.out]
                  simpa [flatL] using hH6
                | true =>
                  have HIT : Hid (hitL r k i false ⟨xt, xr, xk, xi, xw, xu⟩ = true) := Lib.hid (by simp [hitL, isL, hb1, hb2, hb3])
                  have HRC : Hid (rcutL r k i false (pre ++ [⟨xt, xr, xk, xi, xw, xu⟩]) = rcutL r k i false pre) := Lib.hid (by unfold rcutL; rw [List.filter_append]; simp [HIT.out])
                  go_wp2_with fail
                  refine ⟨⟨pre ++ [⟨xt, xr, xk, xi, xw, xu⟩], post, v, by rw [HX.out]; simp, by simp, ?_⟩, by simp [intOf]; omega⟩
                  rw [HRC.out]
                  exact hH.drop
    | cons x post =>
      have hl2 : (pre.length : Int) < K := by rw [← HKK.out, hx]; simp; omega
      have hrw := (hR.ext hH.base).w
      rw [HKK.out, hx] at hrw
      obtain ⟨g, hpe, -, hg, x0, x1, x2, x3, x4⟩ := held_at (by rw [← HKK.out, hx]) hrw
      subst hpe
      have HX := Lib.hid hx
      clear hx hrw
      obtain ⟨xr, xk, xi, xw, xs⟩ := x
      go_upto_region 5 with fail
      replace hH := hm_blk hH (by repeat first | exact Locs.nil | refine Locs.cons (mP_loc _ _) ?_ | refine Locs.cons (blkA_loc _ _ _) ?_ | refine Locs.cons (rowA_loc _ _ _ _ _) ?_) 95 #[.int .i64 xr, .int .i64 xk, .int .i64 xi, .int .i64 xw, .int .i64 xs]
      generalize hw_ : World.alloc wr _ = w3 at *
      generalize wr.heap.size = bt at *
      clear hw_ x0 x1 x2 x3 x4
      have hpl : pre.length ≤ 900 := by omega
      have hkl : (rcutW r k i all pre).length ≤ pre.length := List.length_filter_le _ _
      have hbh := hH.blk (g := bt) (T := 95) (cs := #[.int .i64 xr, .int .i64 xk, .int .i64 xi, .int .i64 xw, .int .i64 xs]) (by simp)
      have hbq := hH.blk (g := bx + 1) (T := 42) (cs := #[.int .i64 r, .int .i64 k, .int .i64 i]) (by simp)
      have hbv := hH.blk (g := bx + 1 + 1 + 1) (T := 65) (cs := #[v, .slice none 0 0, .int .u64 t]) (by simp)
      have y0 : World.cell? w3 ⟨bt, 0, none⟩ = some (.int .i64 xr) := hbh.cell 0
      have y1 : World.cell? w3 ⟨bt, 1, none⟩ = some (.int .i64 xk) := hbh.cell 1
      have y2 : World.cell? w3 ⟨bt, 2, none⟩ = some (.int .i64 xi) := hbh.cell 2
      have y3 : World.cell? w3 ⟨bt, 3, none⟩ = some (.int .i64 xw) := hbh.cell 3
      have y4 : World.cell? w3 ⟨bt, 4, none⟩ = some (.int .i64 xs) := hbh.cell 4
      have q0 : World.cell? w3 ⟨bx + 1, 0, none⟩ = some (.int .i64 r) := hbq.cell 0
      have q1 : World.cell? w3 ⟨bx + 1, 1, none⟩ = some (.int .i64 k) := hbq.cell 1
      have q2 : World.cell? w3 ⟨bx + 1, 2, none⟩ = some (.int .i64 i) := hbq.cell 2
      have v0 : World.cell? w3 ⟨bx + 1 + 1 + 1, 0, none⟩ = some v := hbv.cell 0
      obtain ⟨b1, hb1⟩ : ∃ b, (xr == r) = b := ⟨_, rfl⟩
      obtain ⟨b2, hb2⟩ : ∃ b, (xk == k) = b := ⟨_, rfl⟩
      obtain ⟨b3, hb3⟩ : ∃ b, (xi == i) = b := ⟨_, rfl⟩
      cases all with
      | true =>
        cases b1 with
        | false =>
          have HIT : Hid (hitH r k i true ⟨xr, xk, xi, xw, xs⟩ = false) := Lib.hid (by simp [hitH, isH, hb1])
          clear hb2 hb3
          have HRC : Hid (rcutW r k i true (pre ++ [⟨xr, xk, xi, xw, xs⟩]) = rcutW r k i true pre ++ [⟨xr, xk, xi, xw, xs⟩]) := Lib.hid (by unfold rcutW; rw [List.filter_append]; simp [HIT.out])
          obtain ⟨A, hA⟩ : ∃ l, rcutW r k i true pre = l := ⟨_, rfl⟩
          rw [hA] at hH hkl
          have HA := Lib.hid hA
          clear hA
          obtain ⟨LA, hLA⟩ : ∃ n, A.length = n := ⟨_, rfl⟩
          rw [hLA] at hH hkl
          have HLA := Lib.hid hLA
          clear hLA
          obtain ⟨pv, cv, rfl⟩ := ownsRow_slice (hH.owned (e := 95) (size := 5) (v := v) (n := LA) (xs := flatH A) (by simp)).1
          have hH2 := (hH.third).ext (by repeat first | exact Locs.nil | refine Locs.cons (mP_loc _ _) ?_ | refine Locs.cons (blkA_loc _ _ _) ?_ | refine Locs.cons (rowA_loc _ _ _ _ _) ?_) (ext_alloc w3 (.cells #[.int .i64 xr, .int .i64 xk, .int .i64 xi, .int .i64 xw, .int .i64 xs] 95))
          have hnews := news_new w3 (hdC ⟨xr, xk, xi, xw, xs⟩) 95
          obtain ⟨Fp, hFp⟩ := hH2.head
          have hown := hFp.1
          go_wp2_with (at_builtin; refine wpList_append_new rfl _ _ 63 rfl 95 i0 (.agg (hdA zeroH)) 5 40 Try.underlying63 hi0 hi1 hi2 hi3 rfl (by decide) _ _ _ rfl hown _ 1 1 (hdC ⟨xr, xk, xi, xw, xs⟩) rfl rfl (fun h => by cases h) hnews (hdC_one _) (by unfold maxLen; omega) (by omega) ?_)
          intro v4 w4 hown4 hg4 hf4
          have hH5 := (hH2.next (by repeat first | exact Locs.nil | refine Locs.cons (mP_loc _ _) ?_ | refine Locs.cons (blkA_loc _ _ _) ?_ | refine Locs.cons (rowA_loc _ _ _ _ _) ?_) fun F hF => Next.mk (p' := rowA 95 5 v4 (LA + 1) (flatH A ++ hdC ⟨xr, xk, xi, xw, xs⟩)) ⟨hown4, rfl⟩ (by rw [hF.2]; exact grownBy.tch hg4) (by rw [hF.2]; exact hf4.1)).third
          obtain ⟨p4, d4, rfl⟩ := ownsRow_slice hown4
          clear hH2 hH hFp hown hown4 hg4 hf4 hnews hbh hbq hbv y0 y1 y2 y3 y4 q0 q1 q2 v0
          have hbv := hH5.blk (g := bx + 1 + 1 + 1) (T := 65) (cs := #[.slice pv LA cv, .slice none 0 0, .int .u64 t]) (by simp)
          have v0 : w4.cell? ⟨bx + 1 + 1 + 1, 0, none⟩ = some (.slice pv LA cv) := hbv.cell 0
          have fz : w4.frozen? ⟨bx + 1 + 1 + 1, 0, none⟩ = false := hbv.frozen 0
          have hlt := hbv.lt
          go_wp2_with fail
          have hH6 := (hH5.set (by repeat first | exact Locs.nil | refine Locs.cons (mP_loc _ _) ?_ | refine Locs.cons (blkA_loc _ _ _) ?_ | refine Locs.cons (rowA_loc _ _ _ _ _) ?_) 0 (.slice p4 (LA + 1) d4)).third.drop
          refine ⟨⟨pre ++ [⟨xr, xk, xi, xw, xs⟩], post, .slice p4 (LA + 1) d4, by rw [HX.out]; simp, by simp, ?_⟩, by simp [intOf]; omega⟩
          rw [HRC.out, HA.out]
          simp only [flatH_append, List.length_append, HLA.out]
          simpa [flatH] using hH6
        | true =>
          have HIT : Hid (hitH r k i true ⟨xr, xk, xi, xw, xs⟩ = true) := Lib.hid (by simp [hitH, isH, hb1])
          cases b2 with
          | false => have HRC : Hid (rcutW r k i true (pre ++ [⟨xr, xk, xi, xw, xs⟩]) = rcutW r k i true pre) := Lib.hid (by unfold rcutW; rw [List.filter_append]; simp [HIT.out])
                     go_wp2_with fail
                     refine ⟨⟨pre ++ [⟨xr, xk, xi, xw, xs⟩], post, v, by rw [HX.out]; simp, by simp, ?_⟩, by simp [intOf]; omega⟩
                     rw [HRC.out]
                     exact hH.drop
          | true =>
            cases b3 with
            | false => have HRC : Hid (rcutW r k i true (pre ++ [⟨xr, xk, xi, xw, xs⟩]) = rcutW r k i true pre) := Lib.hid (by unfold rcutW; rw [List.filter_append]; simp [HIT.out])
                       go_wp2_with fail
                       refine ⟨⟨pre ++ [⟨xr, xk, xi, xw, xs⟩], post, v, by rw [HX.out]; simp, by simp, ?_⟩, by simp [intOf]; omega⟩
                       rw [HRC.out]
                       exact hH.drop
            | true => have HRC : Hid (rcutW r k i true (pre ++ [⟨xr, xk, xi, xw, xs⟩]) = rcutW r k i true pre) := Lib.hid (by unfold rcutW; rw [List.filter_append]; simp [HIT.out])
                      go_wp2_with fail
                      refine ⟨⟨pre ++ [⟨xr, xk, xi, xw, xs⟩], post, v, by rw [HX.out]; simp, by simp, ?_⟩, by simp [intOf]; omega⟩
                      rw [HRC.out]
                      exact hH.drop
      | false =>
        cases b1 with
        | false =>
          have HIT : Hid (hitH r k i false ⟨xr, xk, xi, xw, xs⟩ = false) := Lib.hid (by simp [hitH, isH, hb1])
          clear hb2 hb3
          have HRC : Hid (rcutW r k i false (pre ++ [⟨xr, xk, xi, xw, xs⟩]) = rcutW r k i false pre ++ [⟨xr, xk, xi, xw, xs⟩]) := Lib.hid (by unfold rcutW; rw [List.filter_append]; simp [HIT.out])
          obtain ⟨A, hA⟩ : ∃ l, rcutW r k i false pre = l := ⟨_, rfl⟩
          rw [hA] at hH hkl
          have HA := Lib.hid hA
          clear hA
          obtain ⟨LA, hLA⟩ : ∃ n, A.length = n := ⟨_, rfl⟩
          rw [hLA] at hH hkl
          have HLA := Lib.hid hLA
          clear hLA
          obtain ⟨pv, cv, rfl⟩ := ownsRow_slice (hH.owned (e := 95) (size := 5) (v := v) (n := LA) (xs := flatH A) (by simp)).1
          have hH2 := (hH.third).ext (by repeat first | exact Locs.nil | refine Locs.cons (mP_loc _ _) ?_ | refine Locs.cons (blkA_loc _ _ _) ?_ | refine Locs.cons (rowA_loc _ _ _ _ _) ?_) (ext_alloc w3 (.cells #[.int .i64 xr, .int .i64 xk, .int .i64 xi, .int .i64 xw, .int .i64 xs] 95))
          have hnews := news_new w3 (hdC ⟨xr, xk, xi, xw, xs⟩) 95
          obtain ⟨Fp, hFp⟩ := hH2.head
          have hown := hFp.1
          go_wp2_with (at_builtin; refine wpList_append_new rfl _ _ 63 rfl 95 i0 (.agg (hdA zeroH)) 5 40 Try.underlying63 hi0 hi1 hi2 hi3 rfl (by decide) _ _ _ rfl hown _ 1 1 (hdC ⟨xr, xk, xi, xw, xs⟩) rfl rfl (fun h => by cases h) hnews (hdC_one _) (by unfold maxLen; omega) (by omega) ?_)
          intro v4 w4 hown4 hg4 hf4
          have hH5 := (hH2.next (by repeat first | exact Locs.nil | refine Locs.cons (mP_loc _ _) ?_ | refine Locs.cons (blkA_loc _ _ _) ?_ | refine Locs.cons (rowA_loc _ _ _ _ _) ?_) fun F hF => Next.mk (p' := rowA 95 5 v4 (LA + 1) (flatH A ++ hdC ⟨xr, xk, xi, xw, xs⟩)) ⟨hown4, rfl⟩ (by rw [hF.2]; exact grownBy.tch hg4) (by rw [hF.2]; exact hf4.1)).third
          obtain ⟨p4, d4, rfl⟩ := ownsRow_slice hown4
          clear hH2 hH hFp hown hown4 hg4 hf4 hnews hbh hbq hbv y0 y1 y2 y3 y4 q0 q1 q2 v0
          have hbv := hH5.blk (g := bx + 1 + 1 + 1) (T := 65) (cs := #[.slice pv LA cv, .slice none 0 0, .int .u64 t]) (by simp)
          have v0 : w4.cell? ⟨bx + 1 + 1 + 1, 0, none⟩ = some (.slice pv LA cv) := hbv.cell 0
          have fz : w4.frozen? ⟨bx + 1 + 1 + 1, 0, none⟩ = false := hbv.frozen 0
          have hlt := hbv.lt
          go_wp2_with fail
          have hH6 := (hH5.set (by repeat first | exact Locs.nil | refine Locs.cons (mP_loc _ _) ?_ | refine Locs.cons (blkA_loc _ _ _) ?_ | refine Locs.cons (rowA_loc _ _ _ _ _) ?_) 0 (.slice p4 (LA + 1) d4)).third.drop
          refine ⟨⟨pre ++ [⟨xr, xk, xi, xw, xs⟩], post, .slice p4 (LA + 1) d4, by rw [HX.out]; simp, by simp, ?_⟩, by simp [intOf]; omega⟩
          rw [HRC.out, HA.out]
          simp only [flatH_append, List.length_append, HLA.out]
          simpa [flatH] using hH6
        | true =>
          cases b2 with
          | false =>
            have HIT : Hid (hitH r k i false ⟨xr, xk, xi, xw, xs⟩ = false) := Lib.hid (by simp [hitH, isH, hb2])
            clear hb3
            have HRC : Hid (rcutW r k i false (pre ++ [⟨xr, xk, xi, xw, xs⟩]) = rcutW r k i false pre ++ [⟨xr, xk, xi, xw, xs⟩]) := Lib.hid (by unfold rcutW; rw [List.filter_append]; simp [HIT.out])
            obtain ⟨A, hA⟩ : ∃ l, rcutW r k i false pre = l := ⟨_, rfl⟩
            rw [hA] at hH hkl
            have HA := Lib.hid hA
            clear hA
            obtain ⟨LA, hLA⟩ : ∃ n, A.length = n := ⟨_, rfl⟩
            rw [hLA] at hH hkl
            have HLA := Lib.hid hLA
            clear hLA
            obtain ⟨pv, cv, rfl⟩ := ownsRow_slice (hH.owned (e := 95) (size := 5) (v := v) (n := LA) (xs := flatH A) (by simp)).1
            have hH2 := (hH.third).ext (by repeat first | exact Locs.nil | refine Locs.cons (mP_loc _ _) ?_ | refine Locs.cons (blkA_loc _ _ _) ?_ | refine Locs.cons (rowA_loc _ _ _ _ _) ?_) (ext_alloc w3 (.cells #[.int .i64 xr, .int .i64 xk, .int .i64 xi, .int .i64 xw, .int .i64 xs] 95))
            have hnews := news_new w3 (hdC ⟨xr, xk, xi, xw, xs⟩) 95
            obtain ⟨Fp, hFp⟩ := hH2.head
            have hown := hFp.1
            go_wp2_with (at_builtin; refine wpList_append_new rfl _ _ 63 rfl 95 i0 (.agg (hdA zeroH)) 5 40 Try.underlying63 hi0 hi1 hi2 hi3 rfl (by decide) _ _ _ rfl hown _ 1 1 (hdC ⟨xr, xk, xi, xw, xs⟩) rfl rfl (fun h => by cases h) hnews (hdC_one _) (by unfold maxLen; omega) (by omega) ?_)
            intro v4 w4 hown4 hg4 hf4
            have hH5 := (hH2.next (by repeat first | exact Locs.nil | refine Locs.cons (mP_loc _ _) ?_ | refine Locs.cons (blkA_loc _ _ _) ?_ | refine Locs.cons (rowA_loc _ _ _ _ _) ?_) fun F hF => Next.mk (p' := rowA 95 5 v4 (LA + 1) (flatH A ++ hdC ⟨xr, xk, xi, xw, xs⟩)) ⟨hown4, rfl⟩ (by rw [hF.2]; exact grownBy.tch hg4) (by rw [hF.2]; exact hf4.1)).third
            obtain ⟨p4, d4, rfl⟩ := ownsRow_slice hown4
            clear hH2 hH hFp hown hown4 hg4 hf4 hnews hbh hbq hbv y0 y1 y2 y3 y4 q0 q1 q2 v0
            have hbv := hH5.blk (g := bx + 1 + 1 + 1) (T := 65) (cs := #[.slice pv LA cv, .slice none 0 0, .int .u64 t]) (by simp)
            have v0 : w4.cell? ⟨bx + 1 + 1 + 1, 0, none⟩ = some (.slice pv LA cv) := hbv.cell 0
            have fz : w4.frozen? ⟨bx + 1 + 1 + 1, 0, none⟩ = false := hbv.frozen 0
            have hlt := hbv.lt
            go_wp2_with fail
            have hH6 := (hH5.set (by repeat first | exact Locs.nil | refine Locs.cons (mP_loc _ _) ?_ | refine Locs.cons (blkA_loc _ _ _) ?_ | refine Locs.cons (rowA_loc _ _ _ _ _) ?_) 0 (.slice p4 (LA + 1) d4)).third.drop
            refine ⟨⟨pre ++ [⟨xr, xk, xi, xw, xs⟩], post, .slice p4 (LA + 1) d4, by rw [HX.out]; simp, by simp, ?_⟩, by simp [intOf]; omega⟩
            rw [HRC.out, HA.out]
            simp only [flatH_append, List.length_append, HLA.out]
            simpa [flatH] using hH6
          | true =>
            cases b3 with
            | false =>
              have HIT : Hid (hitH r k i false ⟨xr, xk, xi, xw, xs⟩ = false) := Lib.hid (by simp [hitH, isH, hb3])
              have HRC : Hid (rcutW r k i false (pre ++ [⟨xr, xk, xi, xw, xs⟩]) = rcutW r k i false pre ++ [⟨xr, xk, xi, xw, xs⟩]) := Lib.hid (by unfold rcutW; rw [List.filter_append]; simp [HIT.out])
              obtain ⟨A, hA⟩ : ∃ l, rcutW r k i false pre = l := ⟨_, rfl⟩
              rw [hA] at hH hkl
              have HA := Lib.hid hA
              clear hA
              obtain ⟨LA, hLA⟩ : ∃ n, A.length = n := ⟨_, rfl⟩
              rw [hLA] at hH hkl
              have HLA := Lib.hid hLA
              clear hLA
              obtain ⟨pv, cv, rfl⟩ := ownsRow_slice (hH.owned (e := 95) (size := 5) (v := v) (n := LA) (xs := flatH A) (by simp)).1
              have hH2 := (hH.third).ext (by repeat first | exact Locs.nil | refine Locs.cons (mP_loc _ _) ?_ | refine Locs.cons (blkA_loc _ _ _) ?_ | refine Locs.cons (rowA_loc _ _ _ _ _) ?_) (ext_alloc w3 (.cells #[.int .i64 xr, .int .i64 xk, .int .i64 xi, .int .i64 xw, .int .i64 xs] 95))
              have hnews := news_new w3 (hdC ⟨xr, xk, xi, xw, xs⟩) 95
              obtain ⟨Fp, hFp⟩ := hH2.head
              have hown := hFp.1
              go_wp2_with (at_builtin; refine wpList_append_new rfl _ _ 63 rfl 95 i0 (.agg (hdA zeroH)) 5 40 Try.underlying63 hi0 hi1 hi2 hi3 rfl (by decide) _ _ _ rfl hown _ 1 1 (hdC ⟨xr, xk, xi, xw, xs⟩) rfl rfl (fun h => by cases h) hnews (hdC_one _) (by unfold maxLen; omega) (by omega) ?_)
              intro v4 w4 hown4 hg4 hf4
              have hH5 := (hH2.next (by repeat first | exact Locs.nil | refine Locs.cons (mP_loc _ _) ?_ | refine Locs.cons (blkA_loc _ _ _) ?_ | refine Locs.cons (rowA_loc _ _ _ _ _) ?_) fun F hF => Next.mk (p' := rowA 95 5 v4 (LA + 1) (flatH A ++ hdC ⟨xr, xk, xi, xw, xs⟩)) ⟨hown4, rfl⟩ (by rw [hF.2]; exact grownBy.tch hg4) (by rw [hF.2]; exact hf4.1)).third
              obtain ⟨p4, d4, rfl⟩ := ownsRow_slice hown4
              clear hH2 hH hFp hown hown4 hg4 hf4 hnews hbh hbq hbv y0 y1 y2 y3 y4 q0 q1 q2 v0
              have hbv := hH5.blk (g := bx + 1 + 1 + 1) (T := 65) (cs := #[.slice pv LA cv, .slice none 0 0, .int .u64 t]) (by simp)
              have v0 : w4.cell? ⟨bx + 1 + 1 + 1, 0, none⟩ = some (.slice pv LA cv) := hbv.cell 0
              have fz : w4.frozen? ⟨bx + 1 + 1 + 1, 0, none⟩ = false := hbv.frozen 0
              have hlt := hbv.lt
              go_wp2_with fail
              have hH6 := (hH5.set (by repeat first | exact Locs.nil | refine Locs.cons (mP_loc _ _) ?_ | refine Locs.cons (blkA_loc _ _ _) ?_ | refine Locs.cons (rowA_loc _ _ _ _ _) ?_) 0 (.slice p4 (LA + 1) d4)).third.drop
              refine ⟨⟨pre ++ [⟨xr, xk, xi, xw, xs⟩], post, .slice p4 (LA + 1) d4, by rw [HX.out]; simp, by simp, ?_⟩, by simp [intOf]; omega⟩
              rw [HRC.out, HA.out]
              simp only [flatH_append, List.length_append, HLA.out]
              simpa [flatH] using hH6
            | true =>
              have HIT : Hid (hitH r k i false ⟨xr, xk, xi, xw, xs⟩ = true) := Lib.hid (by simp [hitH, isH, hb1, hb2, hb3])
              have HRC : Hid (rcutW r k i false (pre ++ [⟨xr, xk, xi, xw, xs⟩]) = rcutW r k i false pre) := Lib.hid (by unfold rcutW; rw [List.filter_append]; simp [HIT.out])
              go_wp2_with fail
              refine ⟨⟨pre ++ [⟨xr, xk, xi, xw, xs⟩], post, v, by rw [HX.out]; simp, by simp, ?_⟩, by simp [intOf]; omega⟩
              rw [HRC.out]
              exact hH.drop
end Go.Proofs.Ytfbolgdecdfnaaa
