/- The walk of the law's like. -/
import Derived.Test.YtfbolgdecdfnaaaPSim
namespace Go.Proofs.Ytfbolgdecdfnaaa
set_option linter.unusedVariables false
set_option linter.unusedSimpArgs false
open Go Go.RowKit Go.Maps Go.ChangeMaps Go.MapKept
def LkOut (w : World) (s : MS) (ws : List Hd) (v6 v7 : Value) (wr : World) : Prop := ∃ k : Nat, k ≤ 65 ∧ v7 = .int .i64 k ∧ v6 = .int .i64 (ahead s k).length ∧ Ext w wr
def LkIn (w : World) (s : MS) (ws : List Hd) (k : Nat) (v6 v42 : Value) (wr : World) : Prop := ∃ pre post, ws = pre ++ post ∧ v42 = .int .i64 pre.length ∧ v6 = .int .i64 ((ahead s k).length + (ofW pre k).length : Nat) ∧ Ext w wr
set_option maxRecDepth 100000 in
set_option maxHeartbeats 40000000 in
theorem like_any (W : World) (m : Nat) (s : MS) (F : Nat → Prop) (vw vl : Value) (t : Int) (ws : List Hd) (ls : List Ls) (hm : mP m s W F) (h : RRows W vw ws vl ls) (hS : Sim s ws ls t) (hO : One s) (hok : ∀ x ∈ ws, TaskOk x.run x.kind x.id) (hw : ws.length ≤ 900) (hl : ls.length ≤ 900) :
    Calls Try.prog 25 #[rwV vw vl t, .pointer (some ⟨m, 0, none⟩)] W fun e W' => e = .returned (.bool true) ∧ Ext W W' := by
  have hR := h
  have hX := hm_blk (Has.nil (Ext.refl W)) .nil 65 #[vw, vl, .int .u64 t]
  obtain ⟨pw, cw, rfl⟩ := ownsRow_slice h.w
  obtain ⟨pl, cl, rfl⟩ := ownsRow_slice h.l
  obtain ⟨K, hK⟩ : ∃ n, ws.length = n := ⟨_, rfl⟩
  obtain ⟨L, hL⟩ : ∃ n, ls.length = n := ⟨_, rfl⟩
  have HS := Lib.hid hS
  have hw64 := hS.len64
  rw [hK] at hX hR hw hw64 ⊢
  rw [hL] at hX hR hl ⊢
  have HL := Lib.hid hL
  have HKK := Lib.hid hK
  have HW64 := Lib.hid hw64
  have hsl : s.ls = ls := hS.ls
  have hst : s.tok = t := hS.tok
  have HSL := Lib.hid hsl
  have HST := Lib.hid hst
  clear hL hK h hS hw64 hsl hst
  have hmn := mP_m hm
  go_enter Try.func25, Try.ntmps25
  go_upto_region 1 with fail
  generalize hw0 : World.alloc W _ = w1 at *
  generalize hbxn : W.heap.size = bx at *
  clear hw0 hbxn
  have hbw := hX.blk (g := bx) (T := 65) (cs := #[.slice pw K cw, .slice pl L cl, .int .u64 t]) (by simp)
  have hE1 := hX.base
  have hm1 := (mP_loc m s).ext hm hE1
  have d0 : ∀ x : Of (fun X => Ext w1 X), x.val.cell? ⟨bx, 0, none⟩ = some (.slice pw K cw) := fun x => (x.property.cell _ _ hbw.lt).trans (hbw.cell 0)
  have d1 : ∀ x : Of (fun X => Ext w1 X), x.val.cell? ⟨bx, 1, none⟩ = some (.slice pl L cl) := fun x => (x.property.cell _ _ hbw.lt).trans (hbw.cell 1)
  have d2 : ∀ x : Of (fun X => Ext w1 X), x.val.cell? ⟨bx, 2, none⟩ = some (.int .u64 t) := fun x => (x.property.cell _ _ hbw.lt).trans (hbw.cell 2)
  have hFd := (Ext.refl w1).drew
  have hne_ : Nonempty (Of ((fun X => Ext w1 X))) := ⟨⟨_, hFd⟩⟩
  refine region_steps [0,2,3,1,4,5,6,7,8,9,11,12,10,13,14] [true,true,true,false,false,true,true,true,true,true,true,true,false,true,true] ((fun X => Ext w1 X)) (by kernel_rfl) (by kernel_rfl) hFd ?_
  simp only [List.filterMap_cons, List.filterMap_nil, List.getElem?_cons_zero, List.getElem?_cons_succ]
  refine steps_quiet 3 (by kernel_rfl) ?_
  simp only [List.take_succ_cons, List.take_zero, List.drop_succ_cons, List.drop_zero]
  repeat (go_big_quiet_step (fail))
  refine wpQuiet_nil ?_
  refine steps_want rfl (fun K hK => ?_)
  go_simp
  refine (leases_any w1.drew m s F ((mP_loc m s).ext hm1 (Ext.refl w1).drew)).mono ?_
  rintro e w2 ⟨v2, rfl, hown2, -, hE2⟩
  replace hE2 : Ext w1 w2 := (Ext.refl w1).drew.trans hE2
  rw [HSL.out] at hown2
  refine hK _ _ (fun X => Ext w1 X) hE2 (fun _ h => h) ?_
  clear hK K
  try simp only [Act.put, List.setIfInBounds_toArray, List.set_cons_succ, List.set_cons_zero]
  refine steps_want rfl (fun K hK => ?_)
  go_simp
  refine (same_any w2 v2 (.slice pl L cl) ls ls hown2 (hR.ext (hE1.trans hE2)).l (by have := HL.out; omega) (by have := HL.out; omega)).mono ?_
  rintro e w3 ⟨rfl, hE3⟩
  replace hE3 : Ext w1 w3 := hE2.trans hE3
  rw [show decide (ls = ls) = true by simp]
  refine hK _ _ (fun X => Ext w1 X) hE3 (fun _ h => h) ?_
  clear hK K hown2
  try simp only [Act.put, List.setIfInBounds_toArray, List.set_cons_succ, List.set_cons_zero]
  refine steps_quiet 7 (by kernel_rfl) ?_
  simp only [List.take_succ_cons, List.take_zero, List.drop_succ_cons, List.drop_zero]
  repeat (go_big_quiet_step (fail))
  refine wpQuiet_nil ?_
  refine steps_want rfl (fun K hK => ?_)
  go_simp
  refine (given_any w3 m s F ((mP_loc m s).ext hm1 hE3)).mono ?_
  rintro e w4 ⟨rfl, rfl⟩
  rw [HST.out]
  refine hK _ _ (fun X => Ext w1 X) hE3 (fun _ h => h) ?_
  clear hK K
  try simp only [Act.put, List.setIfInBounds_toArray, List.set_cons_succ, List.set_cons_zero]
  refine steps_quiet 2 (by kernel_rfl) ?_
  simp only [List.take_succ_cons, List.take_zero, List.drop_succ_cons, List.drop_zero]
  repeat (go_big_quiet_step (fail))
  refine wpQuiet_nil ?_
  refine steps_nil ?_
  try simp only [Act.put]
  clear d0 d1 d2 hFd
  go_wp2_with fail
  refine (waiting_any w3 m s F ((mP_loc m s).ext hm1 hE3)).mono ?_
  rintro e w4 ⟨vg, rfl, hown, hE4⟩
  replace hE4 : Ext w1 w4 := hE3.trans hE4
  clear hE3 hE2
  obtain ⟨pg, cg, rfl⟩ := ownsRow_slice hown
  rw [HW64.out] at hown
  rw [HW64.out]
  have a0 : w4.cell? ⟨bx, 0, none⟩ = some (.slice pw K cw) := (hE4.cell _ _ hbw.lt).trans (hbw.cell 0)
  have hb4 : bx < w4.heap.size := Nat.lt_of_lt_of_le hbw.lt hE4.le
  go_wp2_with fail
  go_loopw [6, 7] (fun v6 v7 wr => LkOut w4 s ws v6 v7 wr) (fun _ v7 _ => (66 - intOf v7).toNat)
  case atStart => exact ⟨0, by omega, rfl, rfl, Ext.refl _⟩
  case round =>
    obtain ⟨k, hk, rfl, rfl, hE5⟩ := hrel
    by_cases gk : (k : Int) ≤ 64
    · have a0 : wr.cell? ⟨bx, 0, none⟩ = some (.slice pw K cw) := ((hE4.trans hE5).cell _ _ hbw.lt).trans (hbw.cell 0)
      have hb5 : bx < wr.heap.size := Nat.lt_of_lt_of_le hb4 hE5.le
      obtain ⟨wo, hwo⟩ : ∃ wo : World, wo = wr := ⟨_, rfl⟩
      rw [← hwo] at hE5 a0 hb5 ⊢
      clear hwo
      obtain ⟨P, hP⟩ : ∃ n, (ahead s k).length = n := ⟨_, rfl⟩
      have HP := Lib.hid hP
      rw [hP]
      clear hP
      go_wp2_with fail
      clear a0
      go_loopw [6, 42] (fun v6 v42 wr => LkIn wo s ws k v6 v42 wr) (fun _ v42 _ => ((K : Int) + 1 - intOf v42).toNat)
      case atStart => exact ⟨[], ws, rfl, rfl, by rw [HP.out]; simp [ofW], Ext.refl _⟩
      case round =>
        clear hb5
        obtain ⟨pre, post, hx, rfl, rfl, hE6⟩ := hrel
        cases post with
        | nil =>
          obtain rfl : ws = pre := by simpa using hx
          have hl2 : ¬ ((ws.length : Int) < K) := by rw [← HKK.out]; omega
          clear hx
          have hah : (ahead s (k + 1)).length = (ahead s k).length + (ofW ws k).length := by
            rw [← HS.out.q k (by omega)]
            cases k with
            | zero => simp [ahead, waitQ]
            | succ k =>
              show (waitQ s (k + 1)).length = (waitQ s k).length + _
              rw [waitQ, List.length_append]
          have HAH := Lib.hid hah
          clear hah
          generalize hnn : (ahead s k).length + (ofW ws k).length = nn at *
          clear hnn
          go_wp2_with fail
          exact ⟨⟨k + 1, by omega, by go_num, by rw [HAH.out], hE5.trans hE6⟩, by simp [intOf]; omega⟩
        | cons x post =>
          have hl2 : (pre.length : Int) < K := by rw [← HKK.out, hx]; simp; omega
          have hEx := (hE1.trans hE4).trans (hE5.trans hE6)
          have hrw := (hR.ext hEx).w
          rw [HKK.out, hx] at hrw
          obtain ⟨g, rfl, -, hg, x0, x1, x2, x3, x4⟩ := held_at (by rw [← HKK.out, hx]) hrw
          have hokx := hok x (by rw [hx]; simp)
          have hne1 : ∀ h : Hd, h.worker ≠ k → ofW (pre ++ [h]) k = ofW pre k := fun h hh => by
            have : waitsFor k h = false := by unfold waitsFor; simpa using hh
            simp [ofW, List.filter_append, this]
          have heq1 : ∀ h : Hd, h.worker = k → (ofW (pre ++ [h]) k).length = (ofW pre k).length + 1 := fun h hh => by
            have : waitsFor k h = true := by unfold waitsFor; simpa using hh
            simp [ofW, List.filter_append, this]
          have HNE := Lib.hid hne1
          have HEQ := Lib.hid heq1
          clear hne1 heq1 hrw
          obtain ⟨b, hb⟩ : ∃ b, (x.worker != (k : Int)) = b := ⟨_, rfl⟩
          cases b with
          | true =>
            have HX := Lib.hid hx
            clear hx
            obtain ⟨xr, xk, xi, xw, xs⟩ := x
            replace hb : (xw != (k : Int)) = true := hb
            have HB := Lib.hid hb
            generalize hnn : (ahead s k).length + (ofW pre k).length = nn at *
            have HNN := Lib.hid hnn
            clear hnn
            go_wp2_with fail
            exact ⟨⟨pre ++ [⟨xr, xk, xi, xw, xs⟩], post, by rw [HX.out]; simp, by simp, by rw [HNE.out _ (by have := HB.out; simpa using this), HNN.out], hE6.trans (ext_alloc _ _)⟩, by simp [intOf]; omega⟩
          | false =>
            have hxk : x.worker = (k : Int) := by simpa using hb
            obtain ⟨A, B, hAB, hAl⟩ := HS.out.pos hx (by omega) hxk
            have HWV := Lib.hid (HS.out.whereV hO (x := x) (by rw [hx]; simp) (by omega) hxk)
            have HX := Lib.hid hx
            have HAB := Lib.hid hAB
            rw [← hAl]
            have HAL := Lib.hid hAl
            clear hx hAB hAl
            obtain ⟨xr, xk, xi, xw, xs⟩ := x
            obtain rfl : xw = (k : Int) := hxk
            replace HWV : Hid (whereV (s.where_ xr xk xi) = .tuple #[.int .i64 k, .bool true]) := HWV
            replace hokx : TaskOk xr xk xi := hokx
            have hbt := Blk.new wr 95 #[.int .i64 xr, .int .i64 xk, .int .i64 xi, .int .i64 k, .int .i64 xs]
            have hE7 := ext_alloc wr (.cells #[.int .i64 xr, .int .i64 xk, .int .i64 xi, .int .i64 k, .int .i64 xs] 95)
            go_upto_region 13 with fail
            generalize hw_ : World.alloc wr _ = w5 at *
            generalize wr.heap.size = bt at *
            clear hw_ x0 x1 x2 x3 x4
            have y0 : w5.cell? ⟨bt, 0, none⟩ = some (.int .i64 xr) := hbt.cell 0
            have y1 : w5.cell? ⟨bt, 1, none⟩ = some (.int .i64 xk) := hbt.cell 1
            have y2 : w5.cell? ⟨bt, 2, none⟩ = some (.int .i64 xi) := hbt.cell 2
            have y3 : w5.cell? ⟨bt, 3, none⟩ = some (.int .i64 k) := hbt.cell 3
            go_wp2_with fail
            refine (where_any w5 m s F xr xk xi ((mP_loc m s).ext hm (hEx.trans hE7)) hokx).mono ?_
            rintro e w6 ⟨rfl, hE8⟩
            rw [HWV.out]
            clear y0 y1 y2 y3
            go_upto_region 15 with fail
            have hgr := ownsRow_ext hown ((hE5.trans hE6).trans (hE7.trans hE8))
            rw [HAB.out] at hgr
            have hlA : (A.length : Int) < K := by
              have h1 := HW64.out
              rw [HAB.out] at h1
              simp at h1; omega
            obtain ⟨g2, rfl, -, hg2, z0, z1, z2⟩ := task_at (x := ⟨xr, xk, xi, xs⟩) (by rw [← HW64.out, HAB.out]; rfl) hgr
            have hbt6 := hbt.of_eq (hE8.block bt hbt.lt)
            have hne : ∀ w, (binOp .neq 42 (taskV xr xk xi) (taskV xr xk xi)).run Try.prog w = .ok (.bool false) w := fun w => by
              have := ne_task xr xk xi xr xk xi w
              simpa using this
            have d0 : ∀ x : Of (fun X => Ext w6 X), x.val.cell? ⟨bt, 0, none⟩ = some (.int .i64 xr) := fun x => (x.property.cell _ _ hbt6.lt).trans (hbt6.cell 0)
            have d1 : ∀ x : Of (fun X => Ext w6 X), x.val.cell? ⟨bt, 1, none⟩ = some (.int .i64 xk) := fun x => (x.property.cell _ _ hbt6.lt).trans (hbt6.cell 1)
            have d2 : ∀ x : Of (fun X => Ext w6 X), x.val.cell? ⟨bt, 2, none⟩ = some (.int .i64 xi) := fun x => (x.property.cell _ _ hbt6.lt).trans (hbt6.cell 2)
            have e0 : ∀ x : Of (fun X => Ext w6 X), x.val.cell? ⟨g2, A.length * 3, none⟩ = some (.int .i64 xr) := fun x => (x.property.cell _ _ hg2).trans z0
            have e1 : ∀ x : Of (fun X => Ext w6 X), x.val.cell? ⟨g2, A.length * 3 + 1, none⟩ = some (.int .i64 xk) := fun x => (x.property.cell _ _ hg2).trans z1
            have e2 : ∀ x : Of (fun X => Ext w6 X), x.val.cell? ⟨g2, A.length * 3 + 2, none⟩ = some (.int .i64 xi) := fun x => (x.property.cell _ _ hg2).trans z2
            have hA0 : (0 : Int) ≤ (A.length : Int) := by omega
            clear hgr hb z0 z1 z2
            have hFd := (Ext.refl w6).drew
            have hne_ : Nonempty (Of ((fun X => Ext w6 X))) := ⟨⟨_, hFd⟩⟩
            refine region_steps [0,1,2,3,4,5,6,7,8,9,10,11,12,13,14,15] [true,true,true,true,true,true,true,true,true,true,true,true,true,true,true,true] ((fun X => Ext w6 X)) (by kernel_rfl) (by kernel_rfl) hFd ?_
            simp only [List.filterMap_cons, List.filterMap_nil, List.getElem?_cons_zero, List.getElem?_cons_succ]
            refine steps_quiet 16 (by kernel_rfl) ?_
            simp only [List.take_succ_cons, List.take_zero, List.drop_succ_cons, List.drop_zero]
            repeat (go_big_quiet_step (fail))
            refine wpQuiet_nil ?_
            refine steps_nil ?_
            try simp only [Act.put]
            clear d0 d1 d2 e0 e1 e2 hFd hne
            go_wp2_with fail
            refine ⟨⟨pre ++ [⟨xr, xk, xi, k, xs⟩], post, by rw [HX.out]; simp, by simp, ?_, (hE6.trans hE7).trans (hE8.trans (Ext.refl w6).drew)⟩, by simp [intOf]; omega⟩
            rw [HEQ.out ⟨xr, xk, xi, k, xs⟩ rfl, HAL.out]
            congr 1
    · go_wp2_with fail
      go_ret
      exact ⟨rfl, (hE1.trans hE4).trans hE5⟩
end Go.Proofs.Ytfbolgdecdfnaaa
