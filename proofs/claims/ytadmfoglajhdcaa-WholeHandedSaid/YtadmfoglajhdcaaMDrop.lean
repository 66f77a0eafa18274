/- The walks of a match's Drop and Cancel. -/
import Derived.Test.YtadmfoglajhdcaaMEnd
namespace Go.Proofs.Ytadmfoglajhdcaa
set_option maxRecDepth 4000
set_option linter.unusedVariables false
set_option linter.unusedSimpArgs false
open Go Go.RowKit Go.Maps Go.ChangeMaps Go.MapKept
/-- a run's tasks wait no more in the first j + 1 queues -/
def dropQ (s : MS) (run : Int) : Nat → MS
  | 0 => s.setq 0 (restIt run (s.q 0))
  | j + 1 => (dropQ s run j).setq (j + 1) (restIt run (s.q (j + 1)))
def dropN (s : MS) (run : Int) : Nat → Int
  | 0 => (s.q 0).length - (restIt run (s.q 0)).length
  | j + 1 => dropN s run j + ((s.q (j + 1)).length - (restIt run (s.q (j + 1))).length)
theorem restIt_le (run : Int) (xs : List It) : (restIt run xs).length ≤ xs.length := List.length_filter_le _ _
theorem dropQ_q (s : MS) (run : Int) : ∀ j k, (dropQ s run j).q k = if k ≤ j then restIt run (s.q k) else s.q k
  | 0, k => by
    unfold dropQ MS.setq
    by_cases h : k = 0
    · subst h; simp
    · simp only [h, if_false]; rw [if_neg (by omega)]
  | j + 1, k => by
    unfold dropQ
    rw [MS.setq]
    simp only
    by_cases h : k = j + 1
    · subst h; simp
    · rw [if_neg h, dropQ_q s run j k]
      by_cases h2 : k ≤ j
      · rw [if_pos h2, if_pos (by omega)]
      · rw [if_neg h2, if_neg (by omega)]
theorem dropQ_ls (s : MS) (run : Int) : ∀ j, (dropQ s run j).ls = s.ls
  | 0 => rfl
  | j + 1 => dropQ_ls s run j
theorem dropN_bd {s : MS} (h : ∀ k, k < 65 → (s.q k).length ≤ 128) (run : Int) : ∀ j, j < 65 → 0 ≤ dropN s run j ∧ dropN s run j ≤ 128 * (j + 1)
  | 0, hj => by
    have h1 := h 0 hj
    have h2 := restIt_le run (s.q 0)
    unfold dropN; omega
  | j + 1, hj => by
    have h1 := h (j + 1) hj
    have h2 := restIt_le run (s.q (j + 1))
    have h3 := dropN_bd h run j (by omega)
    unfold dropN; omega
def MS.drop (s : MS) (run : Int) : MS := { dropQ s run 64 with ls := keepL (fun l => l.run == run) s.ls }
def MS.dropped (s : MS) (run : Int) : Int := dropN s run 64 + s.ls.length - (keepL (fun l => l.run == run) s.ls).length
def DpRel (W : World) (m : Nat) (F : Nat → Prop) (s : MS) (bx : Nat) (run : Int) (v5 vi : Value) (wr : World) : Prop :=
  ∃ (j : Nat) (F1 : Nat → Prop), j ≤ 64 ∧ vi = .int .i64 j ∧ v5 = .int .i64 (dropN s run j) ∧ Mid W m F (dropQ s run j) wr F1 ∧ wr.cell? ⟨bx, 0, none⟩ = some (.int .i64 run) ∧ ¬ F1 bx
def DropOut (W : World) (m : Nat) (F : Nat → Prop) (s : MS) (run : Int) (e : Ending) (W' : World) : Prop := e = .returned (.int .i64 (s.dropped run)) ∧ MStep W W' m F (s.drop run)
theorem tch_cell {S : Nat → Prop} {W W' : World} (h : Tch S W W') {b : Nat} {v : Value} (hc : W.cell? ⟨b, 0, none⟩ = some v) (hb : ¬ S b) : W'.cell? ⟨b, 0, none⟩ = some v :=
  h.cell hc (World.block_lt_of_cell? W _ hc) hb
set_option maxRecDepth 100000 in
set_option maxHeartbeats 4000000 in
theorem drop_match (W : World) (m : Nat) (s : MS) (F : Nat → Prop) (run : Int) (h : mP m s W F) :
    Calls Try.prog 7 #[.pointer (some ⟨m, 0, none⟩), .int .i64 run] W fun e W' => DropOut W m F s run e W' := by
  have hm := mP_m h
  have hqn := fun k (hk : k < 65) => mP_qn h hk
  have hE := ext_alloc W (.cells #[.int .i64 run] 3)
  have HM := Mid.start h hE
  have hnF : ¬ F W.heap.size := fun hb => by have := (mP_loc m s).lt h hb; omega
  have hbx : (W.alloc (.cells #[.int .i64 run] 3)).cell? ⟨W.heap.size, 0, none⟩ = some (.int .i64 run) := cell_box _ _ _
  have hdn := dropN_bd hqn run
  have HDN := Lib.hid hdn
  have HQN := Lib.hid hqn
  clear hdn hqn
  go_enter Try.func7, Try.ntmps7
  go_upto_region 1 with fail
  generalize hw0 : W.alloc _ = w at *
  obtain ⟨bx, hbxn⟩ : ∃ b, b = W.heap.size := ⟨_, rfl⟩
  rw [← hbxn] at hbx hnF ⊢
  have HBX := Lib.hid hbxn
  clear hw0 hbxn
  try simp only [Act.put]
  have d0 : ∀ x : Of (fun X => X.cell? ⟨bx, 0, none⟩ = some (.int .i64 run)), x.val.cell? ⟨bx, 0, none⟩ = some (.int .i64 run) := fun x => x.property
  have hFd := (show w.drew.cell? ⟨bx, 0, none⟩ = some (.int .i64 run) from hbx)
  have hne_ : Nonempty (Of ((fun X => X.cell? ⟨bx, 0, none⟩ = some (.int .i64 run)))) := ⟨⟨_, hFd⟩⟩
  refine region_steps [0,1,2,3,4,5] [true,true,true,true,false,true] ((fun X => X.cell? ⟨bx, 0, none⟩ = some (.int .i64 run))) (by kernel_rfl) (by kernel_rfl) hFd ?_
  simp only [List.filterMap_cons, List.filterMap_nil, List.getElem?_cons_zero, List.getElem?_cons_succ]
  refine steps_quiet 4 (by kernel_rfl) ?_
  simp only [List.take_succ_cons, List.take_zero, List.drop_succ_cons, List.drop_zero]
  repeat (go_big_quiet_step (fail))
  refine wpQuiet_nil ?_
  replace HM := HM.ext (Ext.refl w).drew
  replace hbx : w.drew.cell? ⟨bx, 0, none⟩ = some (.int .i64 run) := hbx
  clear d0 hFd
  generalize World.drew w = w1 at *
  refine steps_want rfl (fun K hK => ?_)
  go_simp
  refine (mP_act HM.p (k := 0) (o := 1) (by omega) (by omega) (Nat.le_trans (restIt_le _ _) (mP_qn HM.p (by omega))) fun G hG => qp_drop hG run (by have := HQN.out 0 (by omega); omega)).mono ?_
  rintro e w2 ⟨rfl, hS2⟩
  obtain ⟨F2, HM2, ht2, hn2⟩ := HM.step hS2
  have hnF2 := hn2 bx hnF (World.block_lt_of_cell? w1 _ hbx)
  have hbx2 := tch_cell ht2 hbx hnF
  refine hK _ _ _ hbx2 (fun _ h => h) ?_
  clear hK K hS2 ht2 hn2 HM hbx hnF
  refine steps_quiet 1 (by kernel_rfl) ?_
  simp only [List.take_succ_cons, List.take_zero, List.drop_succ_cons, List.drop_zero]
  repeat (go_big_quiet_step (fail))
  refine wpQuiet_nil ?_
  refine steps_nil ?_
  try simp only [Act.put]
  go_wp2_with fail
  go_loopw [5, 13] (fun v5 vi wr => DpRel W m F s bx run v5 vi wr) (fun _ vi _ => (65 - intOf vi).toNat)
  case atStart => exact ⟨0, F2, by omega, rfl, rfl, HM2, hbx2, hnF2⟩
  case round =>
    clear HM2 hbx2 hnF2
    obtain ⟨j, F1, hj, rfl, rfl, HM, hbx, hnF⟩ := hrel
    have hdj := HDN.out j (by omega)
    obtain ⟨D, hD⟩ : ∃ D, dropN s run j = D := ⟨_, rfl⟩
    have HD := Lib.hid hD
    rw [hD] at hdj ⊢
    clear hD
    by_cases gj : (j : Int) < 64
    · have hqj : (dropQ s run j).q (j + 1) = s.q (j + 1) := by rw [dropQ_q, if_neg (by omega)]
      have HQJ := Lib.hid hqj
      have hq1 := HQN.out (j + 1) (by omega)
      have hq2 := restIt_le run (s.q (j + 1))
      clear hqj
      go_upto_region 5 with fail
      have d0 : ∀ x : Of (fun X => X.cell? ⟨bx, 0, none⟩ = some (.int .i64 run)), x.val.cell? ⟨bx, 0, none⟩ = some (.int .i64 run) := fun x => x.property
      have hFd := (show wr.drew.cell? ⟨bx, 0, none⟩ = some (.int .i64 run) from hbx)
      have hne_ : Nonempty (Of ((fun X => X.cell? ⟨bx, 0, none⟩ = some (.int .i64 run)))) := ⟨⟨_, hFd⟩⟩
      refine region_steps [0,1,2,3,4,5,6,7,8,9] [true,true,true,true,true,true,true,false,true,true] ((fun X => X.cell? ⟨bx, 0, none⟩ = some (.int .i64 run))) (by kernel_rfl) (by kernel_rfl) hFd ?_
      simp only [List.filterMap_cons, List.filterMap_nil, List.getElem?_cons_zero, List.getElem?_cons_succ]
      refine steps_quiet 7 (by kernel_rfl) ?_
      simp only [List.take_succ_cons, List.take_zero, List.drop_succ_cons, List.drop_zero]
      repeat (go_big_quiet_step (fail))
      refine wpQuiet_nil ?_
      replace HM := HM.ext (Ext.refl wr).drew
      replace hbx : wr.drew.cell? ⟨bx, 0, none⟩ = some (.int .i64 run) := hbx
      clear d0 hFd
      generalize World.drew wr = w1 at *
      refine steps_want rfl (fun K hK => ?_)
      go_simp
      refine (mP_act HM.p (k := j + 1) (o := 4 + j * 3) (xs := restIt run (s.q (j + 1))) (by omega) (by omega) (by omega) fun G hG => qp_drop (by rw [HQJ.out] at hG; exact hG) run (by omega)).mono ?_
      rintro e w2 ⟨rfl, hS2⟩
      obtain ⟨F2, HM2, ht2, hn2⟩ := HM.step hS2
      have hnF2 := hn2 bx hnF (World.block_lt_of_cell? w1 _ hbx)
      have hbx2 := tch_cell ht2 hbx hnF
      refine hK _ _ _ hbx2 (fun _ h => h) ?_
      clear hK K hS2 ht2 hn2 HM hbx hnF
      obtain ⟨a, ha⟩ : ∃ a : Int, ((s.q (j + 1)).length : Int) - (restIt run (s.q (j + 1))).length = a := ⟨_, rfl⟩
      have ha0 : 0 ≤ a ∧ a ≤ 128 := by omega
      have HA := Lib.hid ha
      rw [ha]
      clear ha hq1 hq2
      have hwr : IntKind.i64.wrap (D + a) = D + a := IntWalk.i64_in _ (by omega)
      refine steps_quiet 2 (by kernel_rfl) ?_
      simp only [List.take_succ_cons, List.take_zero, List.drop_succ_cons, List.drop_zero]
      repeat (go_big_quiet_step (fail))
      refine wpQuiet_nil ?_
      clear hwr
      refine steps_nil ?_
      try simp only [Act.put]
      go_wp2_with fail
      refine ⟨⟨j + 1, F2, by omega, by go_num, ?_, HM2, hbx2, hnF2⟩, by simp [intOf]; omega⟩
      rw [dropN, HD.out, HA.out]
    · have hj64 : j = 64 := by omega
      subst hj64
      obtain ⟨Fq, lv, hR, hF⟩ := HM.p
      have hc := hR.lcell
      have hown := hR.own
      rw [dropQ_ls] at hown
      obtain ⟨pv, cv, rfl⟩ := ownsRow_slice hown
      obtain ⟨L, hL⟩ : ∃ L, Hid (L = s.ls.length) := ⟨_, Lib.hid rfl⟩
      rw [← hL.out] at hown hc
      have hLb : (L : Int) ≤ 256 := by have := hL.out; have h9 := mP_ln h; omega
      have hkl := keepL_le (fun l => l.run == run) s.ls
      have hmr : m ≠ bx := fun e => hnF (by rw [hF, e]; exact Or.inl rfl)
      go_wp2_with fail
      refine (clone_any wr pv L cv s.ls hL (by omega) hown).mono ?_
      rintro e w1 ⟨v, rfl, hown1, hnew1, hE1⟩
      obtain ⟨p1, c1, rfl⟩ := ownsRow_slice hown1
      have hbw : bx < wr.heap.size := World.block_lt_of_cell? wr _ hbx
      go_wp2_with fail
      refine (delDrop_any w1 p1 L c1 bx s.ls run hL (by omega) hown1 ⟨(hE1.cell _ _ hbw).trans hbx⟩ (fun g hg e => by have := hnew1 g (by subst hg; rfl); omega)).mono ?_
      rintro e w2 ⟨v2, rfl, hown2, hS2, hT2⟩
      obtain ⟨k, hk⟩ : ∃ k, Hid (k = (keepL (fun l => l.run == run) s.ls).length) := ⟨_, Lib.hid rfl⟩
      have hown2' := hown2
      rw [← hk.out] at hown2 hkl
      obtain ⟨p2, c2, rfl⟩ := ownsRow_slice hown2
      have hkb : (k : Int) ≤ 256 := by have := hL.out; omega
      have htw : Tch (fun b => (Value.slice pv L cv).ownBlock = some b) wr w2 := (Tch.of_ext (S := fun b => (Value.slice pv L cv).ownBlock = some b) hE1).trans hT2 (fun b hb hl => by
        have := hnew1 b hb; omega)
      obtain ⟨hs1, hs2⟩ := hR.store (htw.mono fun b hb _ => Or.inl (by rw [← hL.out]; exact hb))
      rw [← hL.out] at hs1
      have hfin := hR.setl' (ls' := keepL (fun l => l.run == run) s.ls) (W' := w2) (lv' := .slice p2 k c2) (by have := hL.out; rw [← hk.out]; omega) (by rw [← hL.out]; exact htw) hown2' (fun b hb => Or.inr (hnew1 b (hS2 b hb)))
      rw [← hF] at hfin
      have HM2 := HM.step' hfin
      have hlt2 := World.block_lt_of_cell? w2 _ hs1
      have hk2 : (w2.setCell ⟨m, 196, none⟩ (.slice p2 k c2)).cell? ⟨m, 196, none⟩ = some (.slice p2 k c2) := World.cell?_setCell_same _ _ _ hs1
      clear hown hown1 hown2 hown2' hT2 htw hnew1 hS2 hR hc hbx hfin HM hnF hF
      go_wp2_with fail
      go_ret
      exact ⟨by rw [MS.dropped, HD.out, ← hL.out, ← hk.out]; rfl, HM2.mstep⟩
/-! ### Cancel -/
theorem others_none {xs : List It} {r k i : Int} (h : xs.any (isK · r k i) = false) : others xs r k i = xs := by
  unfold others
  rw [List.filter_eq_self]
  intro x hx
  have := List.any_eq_false.1 h x hx
  simpa using this
theorem had_split {s : MS} {r k i : Int} (h : s.had r k i = true) : ∃ pre l post, s.ls = pre ++ l :: post ∧ isL l r k i = true ∧ (∀ x ∈ pre, isL x r k i = false) ∧ firstAt (isL · r k i) s.ls = pre.length ∧ s.ls.find? (isL · r k i) = some l := by
  unfold MS.had at h
  obtain ⟨l, hl⟩ : ∃ l, s.ls.find? (isL · r k i) = some l := by
    rw [List.any_eq_true] at h
    obtain ⟨x, hx, hp⟩ := h
    cases hf : s.ls.find? (isL · r k i) with
    | some l => exact ⟨l, rfl⟩
    | none => exact absurd hp (by simpa using List.find?_eq_none.1 hf x hx)
  obtain ⟨h1, pre, post, h2, h3⟩ := List.find?_eq_some_iff_append.1 hl
  have h3' : ∀ x ∈ pre, isL x r k i = false := fun x hx => by simpa using h3 x hx
  exact ⟨pre, l, post, h2, h1, h3', by rw [h2]; exact firstAt_some h3' h1, hl⟩
def MS.cancel (s : MS) (r k i : Int) : MS := if s.had r k i = true then s.done ((s.ls.find? (isL · r k i)).getD zeroL).tok else match s.where_ r k i with
  | some j => s.setq j (others (s.q j) r k i)
  | none => s
def MS.canceled (s : MS) (r k i : Int) : Bool := if s.had r k i = true then decide ((s.done ((s.ls.find? (isL · r k i)).getD zeroL).tok).ls.length < s.ls.length) else (s.where_ r k i).isSome
def CancelOut (W : World) (m : Nat) (F : Nat → Prop) (s : MS) (r k i : Int) (e : Ending) (W' : World) : Prop := e = .returned (.bool (s.canceled r k i)) ∧ MStep W W' m F (s.cancel r k i)
def CnRel (W : World) (m : Nat) (F : Nat → Prop) (s : MS) (bx : Nat) (r k i : Int) (vi : Value) (wr : World) : Prop :=
  ∃ (j : Nat) (F1 : Nat → Prop), j ≤ 64 ∧ vi = .int .i64 j ∧ (∀ x, x < j + 1 → (s.q x).any (isK · r k i) = false) ∧ Mid W m F s wr F1 ∧ BoxT wr bx r k i ∧ ¬ F1 bx
theorem BoxT.tch {S : Nat → Prop} {W w : World} {b : Nat} {r k i : Int} (h : BoxT W b r k i) (ht : Tch S W w) (hb : ¬ S b) : BoxT w b r k i :=
  ⟨ht.cell h.c0 h.lt hb, ht.cell h.c1 h.lt hb, ht.cell h.c2 h.lt hb, Nat.lt_of_lt_of_le h.lt ht.size⟩
end Go.Proofs.Ytadmfoglajhdcaa
