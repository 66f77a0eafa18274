/- The law's comparison of leases. -/
import Derived.Test.YtfbolgdecdfnaaaPLeave
namespace Go.Proofs.Ytfbolgdecdfnaaa
set_option maxRecDepth 4000
set_option linter.unusedVariables false
set_option linter.unusedSimpArgs false
open Go Go.RowKit Go.Maps Go.ChangeMaps Go.MapKept
theorem ne_lease (x y : Ls) (w : World) : (binOp .neq 46 (lsV x) (lsV y)).run Try.prog w = .ok (.bool (!decide (x = y))) w := by
  obtain ⟨xt, xr, xk, xi, xw, xu⟩ := x
  obtain ⟨yt, yr, yk, yi, yw, yu⟩ := y
  unfold lsV
  go_simp
  try simp only [Ls.mk.injEq]
  repeat' split
  all_goals simp_all
theorem eq_lease (x y : Ls) (w : World) : (binOp .eql 46 (lsV x) (lsV y)).run Try.prog w = .ok (.bool (decide (x = y))) w := by
  obtain ⟨xt, xr, xk, xi, xw, xu⟩ := x
  obtain ⟨yt, yr, yk, yi, yw, yu⟩ := y
  unfold lsV
  go_simp
  try simp only [Ls.mk.injEq]
  repeat' split
  all_goals simp_all
theorem ne_task (a b c d e f : Int) (w : World) : (binOp .neq 42 (taskV a b c) (taskV d e f)).run Try.prog w = .ok (.bool (!decide (a = d ∧ b = e ∧ c = f))) w := by
  go_simp
  repeat' split
  all_goals simp_all
def SmRel (w : World) (a b : List Ls) (v : Value) (wr : World) : Prop :=
  ∃ pre pa pb, a = pre ++ pa ∧ b = pre ++ pb ∧ v = .int .i64 pre.length ∧ Ext w wr
set_option maxRecDepth 100000 in
set_option maxHeartbeats 4000000 in
theorem same_any (W : World) (va vb : Value) (a b : List Ls) (ha : W.ownsRow 0 46 6 va a.length (flatL a)) (hb : W.ownsRow 0 46 6 vb b.length (flatL b)) (hl : a.length ≤ 1000) (hl2 : b.length ≤ 1000) :
    Calls Try.prog 21 #[va, vb] W fun e W' => e = .returned (.bool (decide (a = b))) ∧ Ext W W' := by
  obtain ⟨pa, ca, rfl⟩ := ownsRow_slice ha
  obtain ⟨pb, cb, rfl⟩ := ownsRow_slice hb
  obtain ⟨L, hL⟩ : ∃ n, a.length = n := ⟨_, rfl⟩
  obtain ⟨M, hM⟩ : ∃ n, b.length = n := ⟨_, rfl⟩
  rw [hL] at ha hl ⊢
  rw [hM] at hb hl2 ⊢
  have HL := Lib.hid hL
  have HM := Lib.hid hM
  clear hL hM
  obtain ⟨r, hr⟩ : ∃ r, decide (a = b) = r := ⟨_, rfl⟩
  rw [hr]
  have HR := Lib.hid hr
  clear hr
  by_cases hlm : L = M
  · subst hlm
    go_enter Try.func21, Try.ntmps21
    go_wp2_with fail
    go_loopw [13] (fun v wr => SmRel W a b v wr) (fun v _ => ((L : Int) + 1 - intOf v).toNat)
    case atStart => exact ⟨[], a, b, rfl, rfl, rfl, Ext.refl _⟩
    case round =>
      obtain ⟨pre, qa, qb, hxa, hxb, rfl, hE⟩ := hrel
      cases qa with
      | nil =>
        obtain rfl : a = pre := by simpa using hxa
        have hqb : qb = [] := by
          have h1 := congrArg List.length hxb
          rw [HM.out, List.length_append, HL.out] at h1
          exact List.eq_nil_of_length_eq_zero (by omega)
        have hl3 : ¬ ((a.length : Int) < L) := by rw [HL.out]; omega
        have hre : r = true := by rw [← HR.out, hxb, hqb]; simp
        subst hre
        clear hxa hxb
        go_wp2_with fail
        go_ret
        exact ⟨rfl, hE⟩
      | cons x qa =>
        cases qb with
        | nil =>
          exfalso
          have h1 := congrArg List.length hxb
          have h2 := congrArg List.length hxa
          rw [HM.out, List.length_append] at h1
          rw [HL.out, List.length_append] at h2
          simp at h1 h2; omega
        | cons y qb =>
          have hl3 : (pre.length : Int) < L := by rw [← HL.out, hxa]; simp; omega
          have hra := ownsRow_ext ha hE
          have hrb := ownsRow_ext hb hE
          rw [hxa] at hra
          rw [hxb] at hrb
          obtain ⟨ga, rfl, -, hga, x0, x1, x2, x3, x4, x5⟩ := lease_at (by rw [← HL.out, hxa]) hra
          obtain ⟨gb, rfl, -, hgb, y0, y1, y2, y3, y4, y5⟩ := lease_at (by rw [← HM.out, hxb]) hrb
          have HXA := Lib.hid hxa
          have HXB := Lib.hid hxb
          clear hxa hxb hra hrb
          obtain ⟨xt, xr, xk, xi, xw, xu⟩ := x
          obtain ⟨yt, yr, yk, yi, yw, yu⟩ := y
          go_upto_region 6 with fail
          have dx0 : ∀ x : Of (fun X => Ext wr X), x.val.cell? ⟨ga, pre.length * 6, none⟩ = some (.int .u64 xt) := fun x => (x.property.cell _ _ (by assumption)).trans x0
          have dx1 : ∀ x : Of (fun X => Ext wr X), x.val.cell? ⟨ga, pre.length * 6+ 1, none⟩ = some (.int .i64 xr) := fun x => (x.property.cell _ _ (by assumption)).trans x1
          have dx2 : ∀ x : Of (fun X => Ext wr X), x.val.cell? ⟨ga, pre.length * 6+ 2, none⟩ = some (.int .i64 xk) := fun x => (x.property.cell _ _ (by assumption)).trans x2
          have dx3 : ∀ x : Of (fun X => Ext wr X), x.val.cell? ⟨ga, pre.length * 6+ 3, none⟩ = some (.int .i64 xi) := fun x => (x.property.cell _ _ (by assumption)).trans x3
          have dx4 : ∀ x : Of (fun X => Ext wr X), x.val.cell? ⟨ga, pre.length * 6+ 4, none⟩ = some (.int .i64 xw) := fun x => (x.property.cell _ _ (by assumption)).trans x4
          have dx5 : ∀ x : Of (fun X => Ext wr X), x.val.cell? ⟨ga, pre.length * 6+ 5, none⟩ = some (.int .i64 xu) := fun x => (x.property.cell _ _ (by assumption)).trans x5
          have dy0 : ∀ x : Of (fun X => Ext wr X), x.val.cell? ⟨gb, pre.length * 6, none⟩ = some (.int .u64 yt) := fun x => (x.property.cell _ _ (by assumption)).trans y0
          have dy1 : ∀ x : Of (fun X => Ext wr X), x.val.cell? ⟨gb, pre.length * 6+ 1, none⟩ = some (.int .i64 yr) := fun x => (x.property.cell _ _ (by assumption)).trans y1
          have dy2 : ∀ x : Of (fun X => Ext wr X), x.val.cell? ⟨gb, pre.length * 6+ 2, none⟩ = some (.int .i64 yk) := fun x => (x.property.cell _ _ (by assumption)).trans y2
          have dy3 : ∀ x : Of (fun X => Ext wr X), x.val.cell? ⟨gb, pre.length * 6+ 3, none⟩ = some (.int .i64 yi) := fun x => (x.property.cell _ _ (by assumption)).trans y3
          have dy4 : ∀ x : Of (fun X => Ext wr X), x.val.cell? ⟨gb, pre.length * 6+ 4, none⟩ = some (.int .i64 yw) := fun x => (x.property.cell _ _ (by assumption)).trans y4
          have dy5 : ∀ x : Of (fun X => Ext wr X), x.val.cell? ⟨gb, pre.length * 6+ 5, none⟩ = some (.int .i64 yu) := fun x => (x.property.cell _ _ (by assumption)).trans y5
          obtain ⟨q, hq⟩ : ∃ q, decide ((⟨xt, xr, xk, xi, xw, xu⟩ : Ls) = ⟨yt, yr, yk, yi, yw, yu⟩) = q := ⟨_, rfl⟩
          have hne := fun w => ne_lease ⟨xt, xr, xk, xi, xw, xu⟩ ⟨yt, yr, yk, yi, yw, yu⟩ w
          rw [hq] at hne
          unfold lsV at hne
          have HQ := Lib.hid hq
          clear hq
          have hFd := (Ext.refl wr).drew
          have hne_ : Nonempty (Of ((fun X => Ext wr X))) := ⟨⟨_, hFd⟩⟩
          refine region_steps [0,1,2,3,4,5,6,7,8] [true,true,true,true,true,true,true,true,true] ((fun X => Ext wr X)) (by kernel_rfl) (by kernel_rfl) hFd ?_
          simp only [List.filterMap_cons, List.filterMap_nil, List.getElem?_cons_zero, List.getElem?_cons_succ]
          refine steps_quiet 9 (by kernel_rfl) ?_
          simp only [List.take_succ_cons, List.take_zero, List.drop_succ_cons, List.drop_zero]
          repeat (go_big_quiet_step (fail))
          refine wpQuiet_nil ?_
          refine steps_nil ?_
          try simp only [Act.put]
          cases q with
          | true =>
            have he := of_decide_eq_true HQ.out
            go_wp2_with fail
            refine ⟨⟨pre ++ [⟨xt, xr, xk, xi, xw, xu⟩], qa, qb, by rw [HXA.out]; simp, by rw [HXB.out, he]; simp, by simp, hE.trans (Ext.refl wr).drew⟩, by simp [intOf]; omega⟩
          | false =>
            have hre : r = false := by
              rw [← HR.out, decide_eq_false_iff_not]
              intro h
              rw [HXA.out, HXB.out] at h
              have h2 := List.append_cancel_left h
              injection h2 with h3 _
              exact of_decide_eq_false HQ.out h3
            subst hre
            go_wp2_with fail
            go_ret
            exact ⟨rfl, hE.trans (Ext.refl wr).drew⟩
  · have hre : r = false := by
      rw [← HR.out, decide_eq_false_iff_not]
      rintro rfl
      exact hlm (by rw [← HL.out, ← HM.out])
    subst hre
    have hlb : ((L : Int) != M) = true := by simp; omega
    clear hlm
    go_enter Try.func21, Try.ntmps21
    go_wp2_with fail
    go_ret
    exact ⟨rfl, Ext.refl _⟩
end Go.Proofs.Ytfbolgdecdfnaaa
