/- The walk of a match's Expire. -/
import Derived.Test.YtadmfoglajhdcaaMLose
namespace Go.Proofs.Ytadmfoglajhdcaa
set_option maxRecDepth 4000
set_option linter.unusedVariables false
set_option linter.unusedSimpArgs false
open Go Go.RowKit Go.Maps Go.ChangeMaps Go.MapKept
/-- a task that waited too long for its worker -/
def expOne (now : Int) (r : List It × List It) (x : It) : List It × List It :=
  if 5 ≤ now - x.since then (qadd r.1 x.run x.kind x.id now, if qaddE r.1 x.run x.kind x.id = 0 then others r.2 x.run x.kind x.id else r.2) else r
def expQ (xs : List It) (now : Int) (r : List It × List It) : List It × List It := xs.foldl (expOne now) r
theorem expQ_snoc (xs : List It) (now : Int) (r : List It × List It) (x : It) : expQ (xs ++ [x]) now r = expOne now (expQ xs now r) x := by simp [expQ]
def stI (s : MS) (k : Nat) (pre : List It) (now : Int) : MS := (s.setq k (expQ pre now (s.q 0, s.q k)).2).setq 0 (expQ pre now (s.q 0, s.q k)).1
def expS (s : MS) (now : Int) : Nat → MS
  | 0 => s
  | j + 1 => stI (expS s now j) (j + 1) ((expS s now j).q (j + 1)) now
theorem stI_start (s : MS) (k : Nat) (now : Int) : stI s k [] now = s := by
  unfold stI expQ
  simp only [List.foldl_nil]
  rw [MS.setq_same]; exact MS.setq_same s 0
theorem stI_0 (s : MS) (k : Nat) (pre : List It) (now : Int) : (stI s k pre now).q 0 = (expQ pre now (s.q 0, s.q k)).1 := by simp [stI, MS.setq]
theorem stI_k (s : MS) {k : Nat} (hk : k ≠ 0) (pre : List It) (now : Int) : (stI s k pre now).q k = (expQ pre now (s.q 0, s.q k)).2 := by simp [stI, MS.setq, hk]
theorem stI_ls (s : MS) (k : Nat) (pre : List It) (now : Int) : (stI s k pre now).ls = s.ls := rfl
theorem expS_ls (s : MS) (now : Int) : ∀ j, (expS s now j).ls = s.ls
  | 0 => rfl
  | j + 1 => by rw [expS, stI_ls, expS_ls s now j]
theorem expS_q (s : MS) (now : Int) : ∀ j k, j < k → (expS s now j).q k = s.q k
  | 0, _, _ => rfl
  | j + 1, k, h => by
    rw [expS, stI, MS.setq, MS.setq]
    simp only
    rw [if_neg (by omega), if_neg (by omega)]
    exact expS_q s now j k (by omega)
/-- not due, or there is no room -/
theorem stI_add (s : MS) {k : Nat} (hk : k ≠ 0) (pre : List It) (x : It) (now : Int) (hd : 5 ≤ now - x.since) :
    stI s k (pre ++ [x]) now = (if qaddE ((stI s k pre now).q 0) x.run x.kind x.id = 0 then (((stI s k pre now).setq 0 (qadd ((stI s k pre now).q 0) x.run x.kind x.id now)).setq k (others ((stI s k pre now).q k) x.run x.kind x.id)) else (stI s k pre now).setq 0 (qadd ((stI s k pre now).q 0) x.run x.kind x.id now)) := by
  rw [stI_0, stI_k s hk]
  rw [stI, expQ_snoc, expOne, if_pos hd]
  split
  · rename_i h
    simp only [stI, MS.setq, MS.mk.injEq, true_and, and_true]
    funext j
    by_cases h0 : j = 0
    · subst h0; simp [Ne.symm hk]
    · by_cases h1 : j = k <;> simp [h0, h1, hk]
  · simp only [stI, MS.setq, MS.mk.injEq, true_and, and_true]
    funext j
    by_cases h0 : j = 0
    · subst h0; simp
    · by_cases h1 : j = k <;> simp [h0, h1, hk]
theorem stI_not (s : MS) {k : Nat} (pre : List It) (x : It) (now : Int) (hd : ¬ 5 ≤ now - x.since) : stI s k (pre ++ [x]) now = stI s k pre now := by
  rw [stI, expQ_snoc, expOne, if_neg hd]; rfl
theorem others_at {a b : List It} {x : It} (h : (a ++ x :: b).Pairwise fun a b => isK a b.run b.kind b.id = false) : others (a ++ x :: b) x.run x.kind x.id = a ++ b := by
  rw [List.pairwise_append, List.pairwise_cons] at h
  obtain ⟨_, ⟨h1, _⟩, h2⟩ := h
  have hx : isK x x.run x.kind x.id = true := isK_iff.2 ⟨rfl, rfl, rfl⟩
  unfold others
  rw [List.filter_append, List.filter_cons, hx]
  simp only [Bool.not_true, Bool.false_eq_true, if_false]
  rw [List.filter_eq_self.2 (fun y hy => by rw [h2 y hy x (by simp)]; rfl), List.filter_eq_self.2 (fun y hy => ?_)]
  have h3 := h1 y hy
  have : isK y x.run x.kind x.id = false := by
    rw [Bool.eq_false_iff] at h3 ⊢
    intro h4
    rw [isK_iff] at h4
    exact h3 (isK_iff.2 ⟨h4.1.symm, h4.2.1.symm, h4.2.2.symm⟩)
  rw [this]; rfl
theorem find_at {a b : List It} {x : It} (h : (a ++ x :: b).Pairwise fun a b => isK a b.run b.kind b.id = false) : (a ++ x :: b).find? (isK · x.run x.kind x.id) = some x := by
  rw [List.pairwise_append] at h
  obtain ⟨_, _, h2⟩ := h
  rw [List.find?_append, List.find?_eq_none.2 (fun y hy => by rw [h2 y hy x (by simp)]; simp)]
  simp [List.find?_cons, isK_iff.2 ⟨rfl, rfl, rfl⟩]
def EORel (W : World) (m : Nat) (F : Nat → Prop) (s : MS) (now : Int) (v : Value) (wr : World) : Prop := ∃ j : Nat, j ≤ 64 ∧ v = .int .i64 j ∧ ∃ F1, Mid W m F (expS s now j) wr F1
def EIRel (W : World) (m : Nat) (F : Nat → Prop) (s' : MS) (k : Nat) (now : Int) (xs0 : List It) (pv : Option Addr) (L cv : Nat) (v : Value) (wr : World) : Prop :=
  ∃ pre post pre' F1, xs0 = pre ++ post ∧ v = .int .i64 pre.length ∧ (expQ pre now (s'.q 0, s'.q k)).2 = pre' ++ post ∧ Mid W m F (stI s' k pre now) wr F1 ∧ wr.ownsRow 0 43 3 (.slice pv L cv) L (flatIt xs0) ∧ ∀ g, pv = some ⟨g, 0, none⟩ → ¬ F1 g
set_option maxRecDepth 100000 in
set_option maxHeartbeats 4000000 in
theorem expire_any (W : World) (m : Nat) (s : MS) (F : Nat → Prop) (now : Int) (h : mP m s W F) (hn1 : 0 ≤ now) (hn2 : now ≤ 4611686018427387903) (hsi : ∀ k, k < 65 → ∀ x ∈ s.q k, 0 ≤ x.since ∧ x.since ≤ 4611686018427387903) :
    Calls Try.prog 12 #[.pointer (some ⟨m, 0, none⟩), .int .i64 now] W fun e W' => Out W m F { expS s now 64 with ls := keepL (fun l => decide (l.until_ ≤ now)) s.ls } (s.ls.filter fun l => decide (l.until_ ≤ now)) e W' := by
  have hm := mP_m h
  go_enter Try.func12, Try.ntmps12
  go_wp2_with fail
  go_loopw [14] (fun v wr => EORel W m F s now v wr) (fun v _ => (65 - intOf v).toNat)
  case atStart => exact ⟨0, by omega, rfl, F, Mid.start h (Ext.refl _)⟩
  case round =>
    obtain ⟨j, hj, rfl, F1, HM⟩ := hrel
    by_cases gj : (j : Int) < 64
    · have hjN : j < 64 := by omega
      have hk65 : j + 1 < 65 := by omega
      have hk0 : j + 1 ≠ 0 := by omega
      obtain ⟨s', hs'⟩ : ∃ t, expS s now j = t := ⟨_, rfl⟩
      have hq' : s'.q (j + 1) = s.q (j + 1) := by rw [← hs']; exact expS_q s now j (j + 1) (by omega)
      have HS' := Lib.hid hs'
      rw [hs'] at HM
      have hsx : ∀ x ∈ s'.q (j + 1), 0 ≤ x.since ∧ x.since ≤ 4611686018427387903 := by rw [hq']; exact hsi (j + 1) hk65
      clear hs' hq'
      obtain ⟨xs0, hxs0⟩ : ∃ l, s'.q (j + 1) = l := ⟨_, rfl⟩
      have HXS := Lib.hid hxs0
      obtain ⟨G, hG⟩ := mP_q HM.p (k := j + 1) (o := 4 + j * 3) hk65 (by omega)
      have hqn := mP_qn HM.p hk65
      rw [hxs0] at hG hqn hsx
      clear hxs0
      go_wp2_with fail
      refine (qp_list hG (by omega)).mono ?_
      rintro e w1 ⟨v, rfl, hown, hE1⟩
      have hlow : ∀ g, v.ownBlock = some g → ¬ F1 g := fun g hg hF => by
        have h1 := (mP_loc m _).lt HM.p hF
        have h2 := (hown.lt g hg).1
        omega
      obtain ⟨L, hL⟩ : ∃ L, Hid (L = xs0.length) := ⟨_, Lib.hid rfl⟩
      rw [← hL.out] at hown
      obtain ⟨pv, cv, rfl⟩ := ownsRow_slice hown
      have hown0 : w1.ownsRow 0 43 3 (.slice pv L cv) L (flatIt xs0) := ownsRow_base hown (fun _ _ => Nat.zero_le _)
      have hLb : (L : Int) ≤ 128 := by have := hL.out; omega
      have HM1 := HM.ext hE1
      clear hG HM hE1 hown
      go_wp2_with fail
      go_loopw [24] (fun v wr => EIRel W m F s' (j + 1) now xs0 pv L cv v wr) (fun v _ => ((L : Int) + 1 - intOf v).toNat)
      case atStart => exact ⟨[], xs0, [], F1, rfl, rfl, by rw [← HXS.out]; rfl, by rw [stI_start]; exact HM1, hown0, fun g hg => hlow g (by subst hg; rfl)⟩
      case round =>
        clear HM1 hown0 hlow
        obtain ⟨pre, post, pre', F2, hx, rfl, hpq, HM, hown, hlow⟩ := hrel
        have hlen : L = pre.length + post.length := by rw [hL.out, hx]; simp
        cases post with
        | nil =>
          have hx' : xs0 = pre := by simpa using hx
          subst hx'
          have hl2 : ¬ ((xs0.length : Int) < L) := by simp at hlen; omega
          clear hx hlen hpq
          go_wp2_with fail
          refine ⟨⟨j + 1, by omega, by go_num, F2, ?_⟩, by simp [intOf]; omega⟩
          rw [expS, HS'.out, HXS.out]
          exact HM
        | cons x post =>
          have hl : (pre.length : Int) < L := by simp at hlen; omega
          have hxm : x ∈ xs0 := by rw [hx]; simp
          obtain ⟨hsx1, hsx2⟩ := hsx x hxm
          have hown' := hown
          rw [hx] at hown'
          obtain ⟨g, hpe, -, hg, x0, x1, x2⟩ := task_at (by rw [hL.out, hx]) hown'
          subst hpe
          have hng := hlow g rfl
          have hcur : (stI s' (j + 1) pre now).q (j + 1) = pre' ++ x :: post := by rw [stI_k s' hk0]; exact hpq
          have hap := mP_apart HM.p hk65
          rw [hcur] at hap
          have hokx := (mP_ok HM.p hk65 x (by rw [hcur]; simp)).key
          have hfx := find_at hap
          have hox := others_at hap
          have HPQ := Lib.hid hpq
          have HX := Lib.hid hx
          have HL := Lib.hid hlen
          have HCUR := Lib.hid hcur
          have HOX := Lib.hid hox
          clear hown' hx hlen hcur hap hox hxm hpq
          obtain ⟨xr, xk, xi, xs_⟩ := x
          replace hsx1 : 0 ≤ xs_ := hsx1
          replace hsx2 : xs_ ≤ 4611686018427387903 := hsx2
          have hbt0 := Blk.new wr 43 (tkA zeroT)
          go_upto_region 7 with (refine wpList_store_row rfl _ _ _ rfl wr.heap.size (tkA ⟨xr, xk, xi, xs_⟩) rfl rfl _ _ hbt0 (tkInfo _) rfl (tkA_all _) ?_)
          refine gen_world' (fun X => Ext wr X ∧ Blk X wr.heap.size 43 (tkA ⟨xr, xk, xi, xs_⟩)) ⟨setRow_ext' (ext_alloc wr _) (Nat.le_refl _), setRow_blk hbt0⟩ ?_
          clear hbt0 x0 x1 x2
          rintro w2 ⟨hE2, hbt⟩
          have hnt : ¬ F2 wr.heap.size := fun hb => by have := (mP_loc m _).lt HM.p hb; omega
          have htg : wr.heap.size ≠ g := by omega
          generalize wr.heap.size = bt at *
          replace HM := HM.ext hE2
          replace hown := ownsRow_ext hown hE2
          clear hE2
          try simp only [Act.put]
          have hbx : BoxT w2 bt xr xk xi := ⟨hbt.cell 0, hbt.cell 1, hbt.cell 2, hbt.lt⟩
          obtain ⟨d0, d1, d2⟩ := hbx.at_
          obtain ⟨G1, hq1⟩ := mP_q HM.p (k := j + 1) (o := 4 + j * 3) hk65 (by omega)
          rw [HCUR.out] at hq1
          have HC : ∀ y : ExtOf w2, Calls Try.prog 30 #[.pointer (some ⟨m, 4 + j * 3, none⟩), taskV xr xk xi] y.val fun e W' => e = .returned (.tuple #[.int .i64 xs_, .bool true]) ∧ ∃ z : ExtOf w2, W' = z.val := fun y => quiet_ext (qp_since (hq1.ext y.property) xr xk xi ⟨xr, xk, xi, xs_⟩ hokx hfx)
          refine region_ext (by kernel_rfl) (by kernel_rfl) ?_
          repeat (go_big_quiet_step (exact HC _))
          refine wpQuiet_nil ?_
          intro wq hq
          obtain ⟨xq, rfl⟩ := hq
          have hEq := xq.property
          generalize xq.val = wq at *
          clear xq
          replace HM := HM.ext hEq
          replace hown := ownsRow_ext hown hEq
          replace hbt := hbt.of_eq (hEq.block bt hbt.lt)
          clear d0 d1 d2 HC hq1 hbx hEq
          go_upto_region 8 with fail
          have d0 : ∀ x : Of (fun X => Blk X bt 43 (tkA ⟨xr, xk, xi, xs_⟩)), x.val.cell? ⟨bt, 0, none⟩ = some (.int .i64 xr) := fun x => x.property.cell 0
          have d1 : ∀ x : Of (fun X => Blk X bt 43 (tkA ⟨xr, xk, xi, xs_⟩)), x.val.cell? ⟨bt, 1, none⟩ = some (.int .i64 xk) := fun x => x.property.cell 1
          have d2 : ∀ x : Of (fun X => Blk X bt 43 (tkA ⟨xr, xk, xi, xs_⟩)), x.val.cell? ⟨bt, 2, none⟩ = some (.int .i64 xi) := fun x => x.property.cell 2
          by_cases hd : 5 ≤ now - xs_
          · have hstep := stI_add s' hk0 pre ⟨xr, xk, xi, xs_⟩ now hd
            have HST := Lib.hid hstep
            have hwr : wrap64 (now - xs_) = now - xs_ := by unfold wrap64; omega
            have hdd : decide (5 ≤ now - xs_) = true := by simpa using hd
            clear hstep hd
            have hFd := (show Blk wq.drew bt 43 (tkA ⟨xr, xk, xi, xs_⟩) from hbt.of_eq rfl)
            have hne_ : Nonempty (Of ((fun X => Blk X bt 43 (tkA ⟨xr, xk, xi, xs_⟩)))) := ⟨⟨_, hFd⟩⟩
            refine region_steps [0,1,2,3,4,5,6,7,8,9,10,11,12] [true,true,true,true,true,true,true,true,true,true,false,true,true] ((fun X => Blk X bt 43 (tkA ⟨xr, xk, xi, xs_⟩))) (by kernel_rfl) (by kernel_rfl) hFd ?_
            simp only [List.filterMap_cons, List.filterMap_nil, List.getElem?_cons_zero, List.getElem?_cons_succ]
            refine steps_quiet 10 (by kernel_rfl) ?_
            simp only [List.take_succ_cons, List.take_zero, List.drop_succ_cons, List.drop_zero]
            repeat (go_big_quiet_step (fail))
            refine wpQuiet_nil ?_
            replace HM := HM.ext (Ext.refl wq).drew
            replace hbt : Blk wq.drew bt 43 (tkA ⟨xr, xk, xi, xs_⟩) := hbt.of_eq rfl
            replace hown := ownsRow_ext hown (Ext.refl wq).drew
            clear d0 d1 d2 hFd
            generalize World.drew wq = w4 at *
            refine steps_want rfl (fun K hK => ?_)
            go_simp
            refine (mP_act HM.p (k := 0) (by omega) (by omega) (qadd_len (mP_qn HM.p (by omega)) xr xk xi now) fun G hG => qp_add hG xr xk xi now ⟨hokx, show _ ≤ now by omega, show now ≤ _ by omega⟩).mono ?_
            rintro e w5 ⟨rfl, hS5⟩
            obtain ⟨F5, HM5, ht5, hn5⟩ := HM.step hS5
            have hbt5 := ht5.blk hbt hnt
            have hnt5 := hn5 bt hnt hbt.lt
            have hgl : g < w4.heap.size := (hown.lt g rfl).2
            have hng5 := hn5 g hng hgl
            have hown5 := ownsRow_same hown fun g' hg' => by
              have : g' = g := by simpa [Value.ownBlock] using hg'.symm
              subst this
              exact ht5.block g' hgl hng
            refine hK _ _ _ hbt5 (fun _ h => h) ?_
            clear hK K hS5 ht5 hn5 HM hbt hown hgl
            obtain ⟨cc, hcc⟩ : ∃ c, qaddE ((stI s' (j + 1) pre now).q 0) xr xk xi = c := ⟨_, rfl⟩
            have HCC := Lib.hid hcc
            rw [hcc]
            clear hcc
            by_cases hc0 : cc = 0
            · have hcb : (cc == 0) = true := by simp [hc0]
              have HC0 := Lib.hid hc0
              clear hc0
              refine steps_quiet 2 (by kernel_rfl) ?_
              simp only [List.take_succ_cons, List.take_zero, List.drop_succ_cons, List.drop_zero]
              repeat (go_big_quiet_step (fail))
              refine wpQuiet_nil ?_
              refine steps_nil ?_
              try simp only [Act.put]
              clear hcb
              go_upto_region 9 with fail
              have e0 : ∀ x : Of (fun X => Blk X bt 43 (tkA ⟨xr, xk, xi, xs_⟩)), x.val.cell? ⟨bt, 0, none⟩ = some (.int .i64 xr) := fun x => x.property.cell 0
              have e1 : ∀ x : Of (fun X => Blk X bt 43 (tkA ⟨xr, xk, xi, xs_⟩)), x.val.cell? ⟨bt, 1, none⟩ = some (.int .i64 xk) := fun x => x.property.cell 1
              have e2 : ∀ x : Of (fun X => Blk X bt 43 (tkA ⟨xr, xk, xi, xs_⟩)), x.val.cell? ⟨bt, 2, none⟩ = some (.int .i64 xi) := fun x => x.property.cell 2
              have hFd := (show Blk w5.drew bt 43 (tkA ⟨xr, xk, xi, xs_⟩) from hbt5.of_eq rfl)
              have hne_ : Nonempty (Of ((fun X => Blk X bt 43 (tkA ⟨xr, xk, xi, xs_⟩)))) := ⟨⟨_, hFd⟩⟩
              refine region_steps [0,1,2,3,4,5,6] [true,true,true,true,true,true,false] ((fun X => Blk X bt 43 (tkA ⟨xr, xk, xi, xs_⟩))) (by kernel_rfl) (by kernel_rfl) hFd ?_
              simp only [List.filterMap_cons, List.filterMap_nil, List.getElem?_cons_zero, List.getElem?_cons_succ]
              refine steps_quiet 6 (by kernel_rfl) ?_
              simp only [List.take_succ_cons, List.take_zero, List.drop_succ_cons, List.drop_zero]
              repeat (go_big_quiet_step (fail))
              refine wpQuiet_nil ?_
              replace HM5 := HM5.ext (Ext.refl w5).drew
              replace hbt5 : Blk w5.drew bt 43 (tkA ⟨xr, xk, xi, xs_⟩) := hbt5.of_eq rfl
              replace hown5 := ownsRow_ext hown5 (Ext.refl w5).drew
              clear e0 e1 e2 hFd
              generalize World.drew w5 = w6 at *
              refine steps_want rfl (fun K hK => ?_)
              go_simp
              refine (mP_act HM5.p (k := j + 1) (o := 4 + j * 3) hk65 (by omega) (Nat.le_trans (List.length_filter_le _ _) (mP_qn HM5.p hk65)) fun G hG => qp_remove hG xr xk xi hokx).mono ?_
              rintro e w7 ⟨rfl, hS7⟩
              obtain ⟨F7, HM7, ht7, hn7⟩ := HM5.step hS7
              have hgl : g < w6.heap.size := (hown5.lt g rfl).2
              have hng7 := hn7 g hng5 hgl
              have hown7 := ownsRow_same hown5 fun g' hg' => by
                have : g' = g := by simpa [Value.ownBlock] using hg'.symm
                subst this
                exact ht7.block g' hgl hng5
              refine hK _ _ _ (ht7.blk hbt5 hnt5) (fun _ h => h) ?_
              clear hK K hS7 ht7 hn7 HM5 hbt5 hown5 hgl
              refine steps_nil ?_
              try simp only [Act.put]
              go_wp2_with fail
              refine ⟨⟨pre ++ [⟨xr, xk, xi, xs_⟩], post, pre', F7, by rw [HX.out]; simp, by simp, ?_, ?_, hown7, fun g' hg' => by injection hg' with hg'; injection hg' with hg'; subst hg'; exact hng7⟩, by have := HL.out; simp [intOf] at *; omega⟩
              · rw [← stI_k s' hk0, HST.out, HCC.out, if_pos HC0.out]
                simp only [MS.setq, if_true]
                rw [HCUR.out]; exact HOX.out
              · rw [HST.out, HCC.out, if_pos HC0.out]
                simpa [MS.setq, hk0, others] using HM7
            · have hcb : (cc == 0) = false := by simp [hc0]
              have HC0 := Lib.hid hc0
              clear hc0
              refine steps_quiet 2 (by kernel_rfl) ?_
              simp only [List.take_succ_cons, List.take_zero, List.drop_succ_cons, List.drop_zero]
              repeat (go_big_quiet_step (fail))
              refine wpQuiet_nil ?_
              refine steps_nil ?_
              try simp only [Act.put]
              clear hcb
              go_wp2_with fail
              refine ⟨⟨pre ++ [⟨xr, xk, xi, xs_⟩], post, pre' ++ [⟨xr, xk, xi, xs_⟩], F5, by rw [HX.out]; simp, by simp, ?_, ?_, hown5, fun g' hg' => by injection hg' with hg'; injection hg' with hg'; subst hg'; exact hng5⟩, by have := HL.out; simp [intOf] at *; omega⟩
              · rw [← stI_k s' hk0, HST.out, HCC.out, if_neg HC0.out]
                simp only [MS.setq, if_neg hk0]
                rw [HCUR.out]; simp
              · rw [HST.out, HCC.out, if_neg HC0.out]
                exact HM5
          · have hstep := stI_not s' (k := j + 1) pre ⟨xr, xk, xi, xs_⟩ now hd
            have HST := Lib.hid hstep
            have hwr : wrap64 (now - xs_) = now - xs_ := by unfold wrap64; omega
            have hdd : decide (5 ≤ now - xs_) = false := by simpa using hd
            clear hstep hd
            have hFd := (show Blk wq.drew bt 43 (tkA ⟨xr, xk, xi, xs_⟩) from hbt.of_eq rfl)
            have hne_ : Nonempty (Of ((fun X => Blk X bt 43 (tkA ⟨xr, xk, xi, xs_⟩)))) := ⟨⟨_, hFd⟩⟩
            refine region_steps [0,1,2,3,4,5,6,7,8,9,10,11,12] [true,true,true,true,true,true,true,true,true,true,false,true,true] ((fun X => Blk X bt 43 (tkA ⟨xr, xk, xi, xs_⟩))) (by kernel_rfl) (by kernel_rfl) hFd ?_
            simp only [List.filterMap_cons, List.filterMap_nil, List.getElem?_cons_zero, List.getElem?_cons_succ]
            refine steps_quiet 10 (by kernel_rfl) ?_
            simp only [List.take_succ_cons, List.take_zero, List.drop_succ_cons, List.drop_zero]
            repeat (go_big_quiet_step (fail))
            refine wpQuiet_nil ?_
            refine steps_skip rfl ?_
            try simp only [Act.put, List.setIfInBounds_toArray, List.set_cons_succ, List.set_cons_zero]
            refine steps_quiet 2 (by kernel_rfl) ?_
            simp only [List.take_succ_cons, List.take_zero, List.drop_succ_cons, List.drop_zero]
            repeat (go_big_quiet_step (fail))
            refine wpQuiet_nil ?_
            refine steps_nil ?_
            try simp only [Act.put]
            replace HM := HM.ext (Ext.refl wq).drew
            replace hown := ownsRow_ext hown (Ext.refl wq).drew
            clear d0 d1 d2 hFd hbt
            go_wp2_with fail
            refine ⟨⟨pre ++ [⟨xr, xk, xi, xs_⟩], post, pre' ++ [⟨xr, xk, xi, xs_⟩], F2, by rw [HX.out]; simp, by simp, ?_, by rw [HST.out]; exact HM, hown, fun g' hg' => by injection hg' with hg'; injection hg' with hg'; subst hg'; exact hng⟩, by have := HL.out; simp [intOf] at *; omega⟩
            rw [← stI_k s' hk0, HST.out, HCUR.out]; simp
    · have hj64 : j = 64 := by omega
      obtain ⟨w2, rfl⟩ : ∃ wo : World, wo = wr := ⟨_, rfl⟩
      rw [hj64] at HM
      obtain ⟨s1, hs1⟩ : ∃ t, expS s now 64 = t := ⟨_, rfl⟩
      have HS1 := Lib.hid hs1
      have HLS : Hid (s1.ls = s.ls) := Lib.hid (by rw [← hs1]; exact expS_ls s now 64)
      rw [hs1] at HM
      clear hs1 hj64
      obtain ⟨Fq, lv, hR, hF1⟩ := HM.p
      have hc := hR.lcell
      have hrow := hR.own
      obtain ⟨pv, cv, rfl⟩ := ownsRow_slice hrow
      obtain ⟨L, hL⟩ : ∃ L, Hid (L = s.ls.length) := ⟨_, Lib.hid rfl⟩
      have hlL : s1.ls.length = L := by rw [HLS.out]; exact hL.out.symm
      rw [hlL] at hc hrow
      rw [HLS.out] at hrow
      have hLb : (L : Int) ≤ 256 := by have := hL.out; have h9 := mP_ln HM.p; rw [HLS.out] at h9; omega
      obtain ⟨i0, hi0, hi1, hi2, hi3⟩ := info_parts6 lsInfo
      go_wp2_with fail
      clear hc
      go_loopw [10, 11, 65] (fun v10 v11 vi wr => SPRel w2 s.ls ((fun l => decide (l.until_ ≤ now))) v10 v11 vi wr) (fun _ _ vi _ => ((L : Int) + 1 - intOf vi).toNat)
      case atStart => exact ⟨[], s.ls, rfl, rfl, Has.two_nil w2⟩
      case round =>
        obtain ⟨pre, post, hx, rfl, hH⟩ := hrel
        have hlen : L = pre.length + post.length := by rw [hL.out, hx]; simp
        cases post with
        | nil =>
          have hx' : s.ls = pre := by simpa using hx
          subst hx'
          have hl2 : ¬ ((s.ls.length : Int) < L) := by simp at hlen; omega
          clear hx hlen
          obtain ⟨Fa, hA, hAlo, Fb, hB, hBlo, hE⟩ := hH
          obtain ⟨va, rfl⟩ := hA
          obtain ⟨vb, rfl⟩ := hB
          obtain ⟨p10, c10, rfl⟩ := ownsRow_slice va
          obtain ⟨p11, c11, rfl⟩ := ownsRow_slice vb
          obtain ⟨hs1, hs2⟩ := (hR.ext hE).store (Tch.refl _ _)
          have hfin := hR.setl' (ls' := keepL (fun l => decide (l.until_ ≤ now)) s.ls) (Nat.le_trans (keepL_le _ _) (by rw [← hL.out]; omega)) (Tch.of_ext hE) vb (fun b hb => Or.inr (hBlo b hb).1)
          have HM9 := HM.step' (by rw [hF1]; exact hfin)
          have hown9 := ownsRow_setCell_other va (a := ⟨m, 196, none⟩) (fun h9 => by have h8 := (hAlo m h9).1; have := hR.m_lt; omega) (.slice p11 (keepL (fun l => decide (l.until_ ≤ now)) s.ls).length c11)
          have hdj : ∀ b, (Value.slice p10 (outL (fun l => decide (l.until_ ≤ now)) s.ls).length c10).ownBlock = some b → W.heap.size ≤ b ∧ ¬ MFoot m Fq (.slice p11 (keepL (fun l => decide (l.until_ ≤ now)) s.ls).length c11) b := fun b hb => by
            have h8 := (hAlo b hb).1
            refine ⟨Nat.le_trans HM.t.size h8, ?_⟩
            rintro (rfl | ⟨k, hk, hb'⟩ | hb')
            · have := hR.m_lt; omega
            · have := (hR.q k hk).lt hb'; omega
            · exact (hBlo b hb').2 (Or.inr hb)
          have HDJ := Lib.hid hdj
          clear hfin va vb hAlo hBlo hdj hrow HM
          go_wp2_with fail
          go_ret
          exact ⟨_, _, rfl, by rw [HS1.out]; exact HM9, hown9, HDJ.out⟩
        | cons l post =>
          have hl : (pre.length : Int) < L := by simp at hlen; omega
          have hrow' := ownsRow_ext hrow hH.base
          rw [hx] at hrow'
          obtain ⟨g, hpe, -, hg, x0, x1, x2, x3, x4, x5⟩ := lease_at (by rw [hL.out, hx]) hrow'
          subst hpe
          have HX := Lib.hid hx
          have HL := Lib.hid hlen
          have hbt0 := Blk.new wr 56 (lsA zeroL)
          obtain ⟨lt, lr, lk, li, lw, lu⟩ := l
          have hkn : (outL ((fun l => decide (l.until_ ≤ now))) pre).length ≤ pre.length := List.length_filter_le _ _
          have hkk : (keepL ((fun l => decide (l.until_ ≤ now))) pre).length ≤ pre.length := List.length_filter_le _ _
          obtain ⟨nk, hnk⟩ : ∃ n, (outL ((fun l => decide (l.until_ ≤ now))) pre).length = n := ⟨_, rfl⟩
          obtain ⟨kk, hkkn⟩ : ∃ n, (keepL ((fun l => decide (l.until_ ≤ now))) pre).length = n := ⟨_, rfl⟩
          have HNK := Lib.hid hnk
          have HKK := Lib.hid hkkn
          rw [hnk] at hkn
          rw [hkkn] at hkk
          clear hrow' hx hlen hnk hkkn
          go_upto_region 16 with (refine wpList_store_row rfl _ _ _ rfl wr.heap.size (lsA ⟨lt, lr, lk, li, lw, lu⟩) rfl rfl _ _ hbt0 (leaseInfo' _) rfl (lsA_all _) ?_)
          refine gen_world' (fun X => Ext wr X ∧ Blk X wr.heap.size 56 (lsA ⟨lt, lr, lk, li, lw, lu⟩)) ⟨setRow_ext' (ext_alloc wr _) (Nat.le_refl _), setRow_blk hbt0⟩ ?_
          clear hbt0 x0 x1 x2 x3 x4 x5
          rintro w3 ⟨hE3, hbt⟩
          obtain ⟨bt, hbtn⟩ : ∃ b, b = wr.heap.size := ⟨_, rfl⟩
          rw [← hbtn] at hbt ⊢
          clear hbtn
          have c4 : w3.cell? ⟨bt, 4, none⟩ = some (.int .i64 lw) := hbt.cell 4
          have c5 : w3.cell? ⟨bt, 5, none⟩ = some (.int .i64 lu) := hbt.cell 5
          try simp only [Act.put]
          have LR2 : ∀ va na la vb nb lb, Locs [rowA 56 6 va na la, rowA 56 6 vb nb lb] := fun va na la vb nb lb => .cons (rowA_loc _ _ _ _ _) (.cons (rowA_loc _ _ _ _ _) .nil)
          have LR1 : ∀ va na la, Locs [rowA 56 6 va na la] := fun va na la => .cons (rowA_loc _ _ _ _ _) .nil
          obtain ⟨pl, hpl⟩ : ∃ b, (decide (lu ≤ now)) = b := ⟨_, rfl⟩
          have HB := Lib.hid hpl
          cases pl with
          | true =>
            have e1 : outL ((fun l => decide (l.until_ ≤ now))) (pre ++ [⟨lt, lr, lk, li, lw, lu⟩]) = outL ((fun l => decide (l.until_ ≤ now))) pre ++ [⟨lt, lr, lk, li, lw, lu⟩] := by unfold outL; rw [List.filter_append]; simp [HB.out]
            have e2 : keepL ((fun l => decide (l.until_ ≤ now))) (pre ++ [⟨lt, lr, lk, li, lw, lu⟩]) = keepL ((fun l => decide (l.until_ ≤ now))) pre := by unfold keepL; rw [List.filter_append]; simp [HB.out]
            have E1 := Lib.hid e1
            have E2 := Lib.hid e2
            clear e1 e2
            have hH3 := hH.ext (LR2 _ _ _ _ _ _) hE3
            rw [HNK.out] at hH3
            clear hH
            have hH2 := hH3.ext (LR2 _ _ _ _ _ _) (ext_alloc w3 (.cells #[.int .u64 lt, .int .i64 lr, .int .i64 lk, .int .i64 li, .int .i64 lw, .int .i64 lu] 56))
            have hnews := news_new w3 (lsC ⟨lt, lr, lk, li, lw, lu⟩) 56
            obtain ⟨Fp, hFp⟩ := hH2.head
            have hown := hFp.1
            go_wp2_with (first | (refine wpList_load_row rfl _ _ rfl bt rfl _ #[.int .u64 lt, .int .i64 lr, .int .i64 lk, .int .i64 li, .int .i64 lw, .int .i64 lu] _ _ hbt Try.underlying56 rfl leaseInfo ?_) | (at_builtin; refine wpList_append_new rfl _ _ 39 rfl 56 i0 (.agg (lsA zeroL)) 6 48 Try.underlying39 hi0 hi1 hi2 hi3 rfl (by decide) _ _ _ rfl hown _ 1 1 (lsC ⟨lt, lr, lk, li, lw, lu⟩) rfl rfl (fun h => by cases h) hnews (lsC_one _) (by unfold maxLen; omega) (by omega) ?_))
            intro v4 w4 hown4 hg4 hf4
            have hH5 := hH2.next (LR1 _ _ _) fun F hF => Next.mk (p' := rowA 56 6 v4 (nk + 1) (flatL (outL ((fun l => decide (l.until_ ≤ now))) pre) ++ lsC ⟨lt, lr, lk, li, lw, lu⟩)) ⟨hown4, rfl⟩ (by rw [hF.2]; exact grownBy.tch hg4) (by rw [hF.2]; exact hf4.1)
            clear hH2 hH3 hFp hown hown4 hg4 hf4 hnews hbt c4 c5 hpl
            go_wp2_with fail
            refine ⟨⟨pre ++ [⟨lt, lr, lk, li, lw, lu⟩], post, by rw [HX.out]; simp, by simp, ?_⟩, by have := HL.out; simp [intOf] at *; omega⟩
            rw [E1.out, E2.out, flatL_append, List.length_append, HNK.out]
            simpa [flatL] using hH5
          | false =>
            have e1 : outL ((fun l => decide (l.until_ ≤ now))) (pre ++ [⟨lt, lr, lk, li, lw, lu⟩]) = outL ((fun l => decide (l.until_ ≤ now))) pre := by unfold outL; rw [List.filter_append]; simp [HB.out]
            have e2 : keepL ((fun l => decide (l.until_ ≤ now))) (pre ++ [⟨lt, lr, lk, li, lw, lu⟩]) = keepL ((fun l => decide (l.until_ ≤ now))) pre ++ [⟨lt, lr, lk, li, lw, lu⟩] := by unfold keepL; rw [List.filter_append]; simp [HB.out]
            have E1 := Lib.hid e1
            have E2 := Lib.hid e2
            clear e1 e2
            have hH3 := (hH.ext (LR2 _ _ _ _ _ _) hE3).swap
            rw [HKK.out] at hH3
            clear hH
            have hH2 := hH3.ext (LR2 _ _ _ _ _ _) (ext_alloc w3 (.cells #[.int .u64 lt, .int .i64 lr, .int .i64 lk, .int .i64 li, .int .i64 lw, .int .i64 lu] 56))
            have hnews := news_new w3 (lsC ⟨lt, lr, lk, li, lw, lu⟩) 56
            obtain ⟨Fp, hFp⟩ := hH2.head
            have hown := hFp.1
            go_wp2_with (first | (refine wpList_load_row rfl _ _ rfl bt rfl _ #[.int .u64 lt, .int .i64 lr, .int .i64 lk, .int .i64 li, .int .i64 lw, .int .i64 lu] _ _ hbt Try.underlying56 rfl leaseInfo ?_) | (at_builtin; refine wpList_append_new rfl _ _ 39 rfl 56 i0 (.agg (lsA zeroL)) 6 48 Try.underlying39 hi0 hi1 hi2 hi3 rfl (by decide) _ _ _ rfl hown _ 1 1 (lsC ⟨lt, lr, lk, li, lw, lu⟩) rfl rfl (fun h => by cases h) hnews (lsC_one _) (by unfold maxLen; omega) (by omega) ?_))
            intro v4 w4 hown4 hg4 hf4
            have hH5 := (hH2.next (LR1 _ _ _) fun F hF => Next.mk (p' := rowA 56 6 v4 (kk + 1) (flatL (keepL ((fun l => decide (l.until_ ≤ now))) pre) ++ lsC ⟨lt, lr, lk, li, lw, lu⟩)) ⟨hown4, rfl⟩ (by rw [hF.2]; exact grownBy.tch hg4) (by rw [hF.2]; exact hf4.1)).swap
            clear hH2 hH3 hFp hown hown4 hg4 hf4 hnews hbt c4 c5 hpl
            go_wp2_with fail
            refine ⟨⟨pre ++ [⟨lt, lr, lk, li, lw, lu⟩], post, by rw [HX.out]; simp, by simp, ?_⟩, by have := HL.out; simp [intOf] at *; omega⟩
            rw [E1.out, E2.out, flatL_append, List.length_append, HKK.out]
            simpa [flatL] using hH5
end Go.Proofs.Ytadmfoglajhdcaa
