/- The walk of a match's Lose. -/
import Derived.Test.YtadmfoglajhdcaaMDone
import Derived.Deep.LoopGhost
namespace Go.Proofs.Ytadmfoglajhdcaa
set_option maxRecDepth 4000
set_option linter.unusedVariables false
set_option linter.unusedSimpArgs false
open Go Go.RowKit Go.Maps Go.ChangeMaps Go.MapKept
/-- tasks go to another queue, one by one -/
def moved (xs o : List It) (now : Int) : List It := xs.foldl (fun o x => qadd o x.run x.kind x.id now) o
theorem moved_snoc (xs o : List It) (x : It) (now : Int) : moved (xs ++ [x]) o now = qadd (moved xs o now) x.run x.kind x.id now := by simp [moved]
def loseQ (s : MS) (k : Nat) (pre post : List It) (now : Int) : MS := (s.setq k post).setq 0 (moved pre (s.q 0) now)
theorem loseQ_step (s : MS) {k : Nat} (hk : k ≠ 0) (pre post : List It) (x : It) (now : Int) : ((loseQ s k pre (x :: post) now).setq k post).setq 0 (qadd (((loseQ s k pre (x :: post) now).setq k post).q 0) x.run x.kind x.id now) = loseQ s k (pre ++ [x]) post now := by
  have h0 : ((loseQ s k pre (x :: post) now).setq k post).q 0 = moved pre (s.q 0) now := by simp [loseQ, MS.setq, Ne.symm hk]
  rw [h0]
  conv => rhs; rw [loseQ, moved_snoc]
  rw [MS.mk.injEq]
  refine ⟨rfl, ?_, rfl⟩
  funext j
  simp only [loseQ, MS.setq]
  by_cases h : j = 0
  · simp [h]
  · by_cases h2 : j = k <;> simp [h, h2]
theorem loseQ_at (s : MS) {k : Nat} (hk : k ≠ 0) (pre post : List It) (now : Int) : (loseQ s k pre post now).q k = post := by simp [loseQ, MS.setq, hk]
theorem loseQ_start (s : MS) {k : Nat} (hk : k ≠ 0) (now : Int) : loseQ s k [] (s.q k) now = s := by
  rw [loseQ, moved, List.foldl_nil, MS.setq_same]
  exact MS.setq_same s 0
/-- a call's step, and leases that are handed out -/
def Out (W : World) (m : Nat) (F : Nat → Prop) (s' : MS) (out : List Ls) (e : Ending) (W' : World) : Prop :=
  ∃ v F', e = .returned v ∧ Mid W m F s' W' F' ∧ W'.ownsRow 0 56 6 v out.length (flatL out) ∧ ∀ b, v.ownBlock = some b → W.heap.size ≤ b ∧ ¬ F' b
theorem lose_range (W : World) (m : Nat) (s : MS) (F : Nat → Prop) (z now : Int) (h : mP m s W F) (hz : z < 1 ∨ 64 < z) :
    Calls Try.prog 11 #[.pointer (some ⟨m, 0, none⟩), .int .i64 z, .int .i64 now] W fun e W' => Out W m F s [] e W' := by
  go_enter Try.func11, Try.ntmps11
  go_wp2_with fail
  refine (own_no W m z hz).mono ?_
  rintro e w1 ⟨rfl, rfl⟩
  go_wp2_with fail
  go_ret
  exact ⟨_, F, rfl, Mid.start h (Ext.refl _), World.ownsRow_nil _ _ _ _, fun b hb => by simp [Value.ownBlock] at hb⟩
def outL (p : Ls → Bool) (ls : List Ls) : List Ls := ls.filter p
/-- leases are parted in two -/
def SPRel (w : World) (ls : List Ls) (p : Ls → Bool) (v10 v11 vi : Value) (wr : World) : Prop :=
  ∃ pre post, ls = pre ++ post ∧ vi = .int .i64 pre.length ∧ Has w wr [rowA 56 6 v10 (outL p pre).length (flatL (outL p pre)), rowA 56 6 v11 (keepL p pre).length (flatL (keepL p pre))]
theorem Has.two_nil (w : World) : Has w w [rowA 56 6 (.slice none 0 0) 0 (flatL []), rowA 56 6 (.slice none 0 0) 0 (flatL [])] :=
  ⟨_, ⟨World.ownsRow_nil _ _ _ _, rfl⟩, fun k hk => by simp [Value.ownBlock] at hk, _, ⟨World.ownsRow_nil _ _ _ _, rfl⟩, fun k hk => by simp [Value.ownBlock] at hk, Ext.refl w⟩
def LORel (W : World) (m : Nat) (F : Nat → Prop) (s : MS) (z : Nat) (now : Int) (n : Nat) (wr : World) : Prop :=
  ∃ pre post F1, s.q z = pre ++ post ∧ n = post.length ∧ Mid W m F (loseQ s z pre post now) wr F1
set_option maxRecDepth 100000 in
set_option maxHeartbeats 4000000 in
theorem lose_go (W : World) (m : Nat) (s : MS) (F : Nat → Prop) (z now : Int) (h : mP m s W F) (hz1 : 1 ≤ z) (hz2 : z ≤ 64) (hn1 : -9223372036854775808 ≤ now) (hn2 : now ≤ 9223372036854775807) :
    Calls Try.prog 11 #[.pointer (some ⟨m, 0, none⟩), .int .i64 z, .int .i64 now] W fun e W' => Out W m F { loseQ s z.toNat (s.q z.toNat) [] now with ls := keepL (fun l => l.worker == z) s.ls } (s.ls.filter fun l => l.worker == z) e W' := by
  have hm := mP_m h
  obtain ⟨zn, hzn⟩ : ∃ n, z.toNat = n := ⟨_, rfl⟩
  have hz0 : zn ≠ 0 := by omega
  have hz65 : zn < 65 := by omega
  have hoff : 1 + z.toNat * 3 = 1 + zn * 3 := by omega
  have HOFF := Lib.hid hoff
  rw [hzn]
  go_enter Try.func11, Try.ntmps11
  clear hoff
  go_wp2_with fail
  refine (own_any W m z hz1 hz2).mono ?_
  rintro e w1 ⟨rfl, rfl⟩
  rw [HOFF.out]
  clear hzn
  go_wp2_with fail
  go_loopg [] ((s.q zn).length) (fun n wr => LORel W m F s zn now n wr)
  case atStart => exact ⟨[], s.q zn, F, rfl, rfl, by rw [loseQ_start s hz0]; exact Mid.start h (Ext.refl _)⟩
  case round =>
    obtain ⟨pre, post, F1, hx, hgk, HM⟩ := hrel
    cases post with
    | nil =>
      obtain ⟨G, hG⟩ := mP_q HM.p (k := zn) (o := 1 + zn * 3) (by omega) rfl
      rw [loseQ_at s hz0] at hG
      go_wp2_with fail
      refine (qp_take_no hG).mono ?_
      rintro e w1 ⟨rfl, hE1⟩
      have hbt0 := Blk.new w1 43 (tkA zeroT)
      have hpre : s.q zn = pre := by simpa using hx
      subst hpre
      replace HM := HM.ext hE1
      clear hG hx hgk hE1
      go_upto_region 5 with (refine wpList_store_row rfl _ _ _ rfl w1.heap.size (tkA zeroT) rfl rfl _ _ hbt0 (tkInfo _) rfl (tkA_all _) ?_)
      refine gen_world' (fun X => Ext w1 X) (setRow_ext' (ext_alloc w1 _) (Nat.le_refl _)) ?_
      rintro w2 hE2
      try simp only [Act.put]
      replace HM := HM.ext hE2
      clear hbt0 hE2
      obtain ⟨s1, hs1⟩ : ∃ t, loseQ s zn (s.q zn) [] now = t := ⟨_, rfl⟩
      have HS1 := Lib.hid hs1
      have HLS : Hid (s1.ls = s.ls) := Lib.hid (by rw [← hs1]; rfl)
      rw [hs1] at HM
      clear hs1
      obtain ⟨Fq, lv, hR, hF1⟩ := HM.p
      have hc := hR.lcell
      have hrow := hR.own
      obtain ⟨pv, cv, rfl⟩ := ownsRow_slice hrow
      obtain ⟨L, hL⟩ : ∃ L, Hid (L = s.ls.length) := ⟨_, Lib.hid rfl⟩
      have hlL : s1.ls.length = L := by rw [HLS.out]; exact hL.out.symm
      rw [hlL] at hc hrow
      rw [HLS.out] at hrow
      have hLb : (L : Int) ≤ 256 := by have := hL.out; have h9 := mP_ln HM.p; rw [HLS.out] at h9; omega
      obtain ⟨i0, hi0, hi1, hi2, hi3⟩ := info_parts6 lsInfo
      go_wp2_with fail
      clear hc
      go_loopw [10, 11, 37] (fun v10 v11 vi wr => SPRel w2 s.ls ((fun l => l.worker == z)) v10 v11 vi wr) (fun _ _ vi _ => ((L : Int) + 1 - intOf vi).toNat)
      case atStart => exact ⟨[], s.ls, rfl, rfl, Has.two_nil w2⟩
      case round =>
        obtain ⟨pre, post, hx, rfl, hH⟩ := hrel
        have hlen : L = pre.length + post.length := by rw [hL.out, hx]; simp
        cases post with
        | nil =>
          have hx' : s.ls = pre := by simpa using hx
          subst hx'
          have hl2 : ¬ ((s.ls.length : Int) < L) := by simp at hlen; omega
          clear hx hlen
          obtain ⟨Fa, hA, hAlo, Fb, hB, hBlo, hE⟩ := hH
          obtain ⟨va, rfl⟩ := hA
          obtain ⟨vb, rfl⟩ := hB
          obtain ⟨p10, c10, rfl⟩ := ownsRow_slice va
          obtain ⟨p11, c11, rfl⟩ := ownsRow_slice vb
          obtain ⟨hs1, hs2⟩ := (hR.ext hE).store (Tch.refl _ _)
          have hfin := hR.setl' (ls' := keepL (fun l => l.worker == z) s.ls) (Nat.le_trans (keepL_le _ _) (by rw [← hL.out]; omega)) (Tch.of_ext hE) vb (fun b hb => Or.inr (hBlo b hb).1)
          have HM9 := HM.step' (by rw [hF1]; exact hfin)
          have hown9 := ownsRow_setCell_other va (a := ⟨m, 196, none⟩) (fun h9 => by have h8 := (hAlo m h9).1; have := hR.m_lt; omega) (.slice p11 (keepL (fun l => l.worker == z) s.ls).length c11)
          have hdj : ∀ b, (Value.slice p10 (outL (fun l => l.worker == z) s.ls).length c10).ownBlock = some b → W.heap.size ≤ b ∧ ¬ MFoot m Fq (.slice p11 (keepL (fun l => l.worker == z) s.ls).length c11) b := fun b hb => by
            have h8 := (hAlo b hb).1
            refine ⟨Nat.le_trans HM.t.size h8, ?_⟩
            rintro (rfl | ⟨k, hk, hb'⟩ | hb')
            · have := hR.m_lt; omega
            · have := (hR.q k hk).lt hb'; omega
            · exact (hBlo b hb').2 (Or.inr hb)
          have HDJ := Lib.hid hdj
          clear hfin va vb hAlo hBlo hdj hrow HM
          go_wp2_with fail
          go_ret
          exact ⟨_, _, rfl, by rw [HS1.out]; exact HM9, hown9, HDJ.out⟩
        | cons l post =>
          have hl : (pre.length : Int) < L := by simp at hlen; omega
          have hrow' := ownsRow_ext hrow hH.base
          rw [hx] at hrow'
          obtain ⟨g, hpe, -, hg, x0, x1, x2, x3, x4, x5⟩ := lease_at (by rw [hL.out, hx]) hrow'
          subst hpe
          have HX := Lib.hid hx
          have HL := Lib.hid hlen
          have hbt0 := Blk.new wr 56 (lsA zeroL)
          obtain ⟨lt, lr, lk, li, lw, lu⟩ := l
          have hkn : (outL ((fun l => l.worker == z)) pre).length ≤ pre.length := List.length_filter_le _ _
          have hkk : (keepL ((fun l => l.worker == z)) pre).length ≤ pre.length := List.length_filter_le _ _
          obtain ⟨nk, hnk⟩ : ∃ n, (outL ((fun l => l.worker == z)) pre).length = n := ⟨_, rfl⟩
          obtain ⟨kk, hkkn⟩ : ∃ n, (keepL ((fun l => l.worker == z)) pre).length = n := ⟨_, rfl⟩
          have HNK := Lib.hid hnk
          have HKK := Lib.hid hkkn
          rw [hnk] at hkn
          rw [hkkn] at hkk
          clear hrow' hx hlen hnk hkkn
          go_upto_region 11 with (refine wpList_store_row rfl _ _ _ rfl wr.heap.size (lsA ⟨lt, lr, lk, li, lw, lu⟩) rfl rfl _ _ hbt0 (leaseInfo' _) rfl (lsA_all _) ?_)
          refine gen_world' (fun X => Ext wr X ∧ Blk X wr.heap.size 56 (lsA ⟨lt, lr, lk, li, lw, lu⟩)) ⟨setRow_ext' (ext_alloc wr _) (Nat.le_refl _), setRow_blk hbt0⟩ ?_
          clear hbt0 x0 x1 x2 x3 x4 x5
          rintro w3 ⟨hE3, hbt⟩
          obtain ⟨bt, hbtn⟩ : ∃ b, b = wr.heap.size := ⟨_, rfl⟩
          rw [← hbtn] at hbt ⊢
          clear hbtn
          have c4 : w3.cell? ⟨bt, 4, none⟩ = some (.int .i64 lw) := hbt.cell 4
          have c5 : w3.cell? ⟨bt, 5, none⟩ = some (.int .i64 lu) := hbt.cell 5
          try simp only [Act.put]
          have LR2 : ∀ va na la vb nb lb, Locs [rowA 56 6 va na la, rowA 56 6 vb nb lb] := fun va na la vb nb lb => .cons (rowA_loc _ _ _ _ _) (.cons (rowA_loc _ _ _ _ _) .nil)
          have LR1 : ∀ va na la, Locs [rowA 56 6 va na la] := fun va na la => .cons (rowA_loc _ _ _ _ _) .nil
          obtain ⟨pl, hpl⟩ : ∃ b, (lw == z) = b := ⟨_, rfl⟩
          have HB := Lib.hid hpl
          cases pl with
          | true =>
            have e1 : outL ((fun l => l.worker == z)) (pre ++ [⟨lt, lr, lk, li, lw, lu⟩]) = outL ((fun l => l.worker == z)) pre ++ [⟨lt, lr, lk, li, lw, lu⟩] := by unfold outL; rw [List.filter_append]; simp [HB.out]
            have e2 : keepL ((fun l => l.worker == z)) (pre ++ [⟨lt, lr, lk, li, lw, lu⟩]) = keepL ((fun l => l.worker == z)) pre := by unfold keepL; rw [List.filter_append]; simp [HB.out]
            have E1 := Lib.hid e1
            have E2 := Lib.hid e2
            clear e1 e2
            have hH3 := hH.ext (LR2 _ _ _ _ _ _) hE3
            rw [HNK.out] at hH3
            clear hH
            have hH2 := hH3.ext (LR2 _ _ _ _ _ _) (ext_alloc w3 (.cells #[.int .u64 lt, .int .i64 lr, .int .i64 lk, .int .i64 li, .int .i64 lw, .int .i64 lu] 56))
            have hnews := news_new w3 (lsC ⟨lt, lr, lk, li, lw, lu⟩) 56
            obtain ⟨Fp, hFp⟩ := hH2.head
            have hown := hFp.1
            go_wp2_with (first | (refine wpList_load_row rfl _ _ rfl bt rfl _ #[.int .u64 lt, .int .i64 lr, .int .i64 lk, .int .i64 li, .int .i64 lw, .int .i64 lu] _ _ hbt Try.underlying56 rfl leaseInfo ?_) | (at_builtin; refine wpList_append_new rfl _ _ 39 rfl 56 i0 (.agg (lsA zeroL)) 6 48 Try.underlying39 hi0 hi1 hi2 hi3 rfl (by decide) _ _ _ rfl hown _ 1 1 (lsC ⟨lt, lr, lk, li, lw, lu⟩) rfl rfl (fun h => by cases h) hnews (lsC_one _) (by unfold maxLen; omega) (by omega) ?_))
            intro v4 w4 hown4 hg4 hf4
            have hH5 := hH2.next (LR1 _ _ _) fun F hF => Next.mk (p' := rowA 56 6 v4 (nk + 1) (flatL (outL ((fun l => l.worker == z)) pre) ++ lsC ⟨lt, lr, lk, li, lw, lu⟩)) ⟨hown4, rfl⟩ (by rw [hF.2]; exact grownBy.tch hg4) (by rw [hF.2]; exact hf4.1)
            clear hH2 hH3 hFp hown hown4 hg4 hf4 hnews hbt c4 c5 hpl
            go_wp2_with fail
            refine ⟨⟨pre ++ [⟨lt, lr, lk, li, lw, lu⟩], post, by rw [HX.out]; simp, by simp, ?_⟩, by have := HL.out; simp [intOf] at *; omega⟩
            rw [E1.out, E2.out, flatL_append, List.length_append, HNK.out]
            simpa [flatL] using hH5
          | false =>
            have e1 : outL ((fun l => l.worker == z)) (pre ++ [⟨lt, lr, lk, li, lw, lu⟩]) = outL ((fun l => l.worker == z)) pre := by unfold outL; rw [List.filter_append]; simp [HB.out]
            have e2 : keepL ((fun l => l.worker == z)) (pre ++ [⟨lt, lr, lk, li, lw, lu⟩]) = keepL ((fun l => l.worker == z)) pre ++ [⟨lt, lr, lk, li, lw, lu⟩] := by unfold keepL; rw [List.filter_append]; simp [HB.out]
            have E1 := Lib.hid e1
            have E2 := Lib.hid e2
            clear e1 e2
            have hH3 := (hH.ext (LR2 _ _ _ _ _ _) hE3).swap
            rw [HKK.out] at hH3
            clear hH
            have hH2 := hH3.ext (LR2 _ _ _ _ _ _) (ext_alloc w3 (.cells #[.int .u64 lt, .int .i64 lr, .int .i64 lk, .int .i64 li, .int .i64 lw, .int .i64 lu] 56))
            have hnews := news_new w3 (lsC ⟨lt, lr, lk, li, lw, lu⟩) 56
            obtain ⟨Fp, hFp⟩ := hH2.head
            have hown := hFp.1
            go_wp2_with (first | (refine wpList_load_row rfl _ _ rfl bt rfl _ #[.int .u64 lt, .int .i64 lr, .int .i64 lk, .int .i64 li, .int .i64 lw, .int .i64 lu] _ _ hbt Try.underlying56 rfl leaseInfo ?_) | (at_builtin; refine wpList_append_new rfl _ _ 39 rfl 56 i0 (.agg (lsA zeroL)) 6 48 Try.underlying39 hi0 hi1 hi2 hi3 rfl (by decide) _ _ _ rfl hown _ 1 1 (lsC ⟨lt, lr, lk, li, lw, lu⟩) rfl rfl (fun h => by cases h) hnews (lsC_one _) (by unfold maxLen; omega) (by omega) ?_))
            intro v4 w4 hown4 hg4 hf4
            have hH5 := (hH2.next (LR1 _ _ _) fun F hF => Next.mk (p' := rowA 56 6 v4 (kk + 1) (flatL (keepL ((fun l => l.worker == z)) pre) ++ lsC ⟨lt, lr, lk, li, lw, lu⟩)) ⟨hown4, rfl⟩ (by rw [hF.2]; exact grownBy.tch hg4) (by rw [hF.2]; exact hf4.1)).swap
            clear hH2 hH3 hFp hown hown4 hg4 hf4 hnews hbt c4 c5 hpl
            go_wp2_with fail
            refine ⟨⟨pre ++ [⟨lt, lr, lk, li, lw, lu⟩], post, by rw [HX.out]; simp, by simp, ?_⟩, by have := HL.out; simp [intOf] at *; omega⟩
            rw [E1.out, E2.out, flatL_append, List.length_append, HKK.out]
            simpa [flatL] using hH5
    | cons x post =>
      have hlx : (x :: post).length ≤ 128 := by
        have := mP_qn HM.p hz65
        rwa [loseQ_at s hz0] at this
      have hxm : x ∈ s.q zn := by rw [hx]; simp
      have hokx := (mP_ok h hz65 _ hxm).key
      have HX := Lib.hid hx
      have HGK := Lib.hid hgk
      clear hx hgk
      obtain ⟨xr, xk, xi, xs_⟩ := x
      go_wp2_with fail
      refine (mP_act HM.p (k := zn) (o := 1 + zn * 3) (xs := post) (by omega) rfl (by simp at hlx; omega) fun G hG => qp_take (x := ⟨xr, xk, xi, xs_⟩) (by rw [loseQ_at s hz0] at hG; exact hG)).mono ?_
      rintro e w1 ⟨rfl, hS1⟩
      obtain ⟨F2, HM2, -, -⟩ := HM.step hS1
      have hbt0 := Blk.new w1 43 (tkA zeroT)
      clear HM hS1
      go_upto_region 5 with (refine wpList_store_row rfl _ _ _ rfl w1.heap.size (tkA ⟨xr, xk, xi, xs_⟩) rfl rfl _ _ hbt0 (tkInfo _) rfl (tkA_all _) ?_)
      refine gen_world' (fun X => Ext w1 X ∧ Blk X w1.heap.size 43 (tkA ⟨xr, xk, xi, xs_⟩)) ⟨setRow_ext' (ext_alloc w1 _) (Nat.le_refl _), setRow_blk hbt0⟩ ?_
      clear hbt0
      rintro w2 ⟨hE2, hbt⟩
      have HM3 := HM2.ext hE2
      have hnt : ¬ F2 w1.heap.size := fun hb => by have := (mP_loc m _).lt HM2.p hb; omega
      generalize w1.heap.size = bt at *
      try simp only [Act.put]
      clear HM2 hE2
      go_upto_region 6 with fail
      have d0 : ∀ x : Of (fun X => Blk X bt 43 (tkA ⟨xr, xk, xi, xs_⟩)), x.val.cell? ⟨bt, 0, none⟩ = some (.int .i64 xr) := fun x => x.property.cell 0
      have d1 : ∀ x : Of (fun X => Blk X bt 43 (tkA ⟨xr, xk, xi, xs_⟩)), x.val.cell? ⟨bt, 1, none⟩ = some (.int .i64 xk) := fun x => x.property.cell 1
      have d2 : ∀ x : Of (fun X => Blk X bt 43 (tkA ⟨xr, xk, xi, xs_⟩)), x.val.cell? ⟨bt, 2, none⟩ = some (.int .i64 xi) := fun x => x.property.cell 2
      have hFd := (show Blk w2.drew bt 43 (tkA ⟨xr, xk, xi, xs_⟩) from hbt.of_eq rfl)
      have hne_ : Nonempty (Of ((fun X => Blk X bt 43 (tkA ⟨xr, xk, xi, xs_⟩)))) := ⟨⟨_, hFd⟩⟩
      refine region_steps [0,1,2,3,4,5] [true,true,true,true,true,false] ((fun X => Blk X bt 43 (tkA ⟨xr, xk, xi, xs_⟩))) (by kernel_rfl) (by kernel_rfl) hFd ?_
      simp only [List.filterMap_cons, List.filterMap_nil, List.getElem?_cons_zero, List.getElem?_cons_succ]
      refine steps_quiet 5 (by kernel_rfl) ?_
      simp only [List.take_succ_cons, List.take_zero, List.drop_succ_cons, List.drop_zero]
      repeat (go_big_quiet_step (fail))
      refine wpQuiet_nil ?_
      have HM4 := HM3.ext (Ext.refl w2).drew
      have hbt4 : Blk w2.drew bt 43 (tkA ⟨xr, xk, xi, xs_⟩) := hbt.of_eq rfl
      clear d0 d1 d2 hFd HM3 hbt
      generalize World.drew w2 = w4 at *
      refine steps_want rfl (fun K hK => ?_)
      go_simp
      refine (mP_act HM4.p (k := 0) (by omega) (by omega) (qadd_len (mP_qn HM4.p (by omega)) xr xk xi now) fun G hG => qp_add hG xr xk xi now ⟨hokx, hn1, hn2⟩).mono ?_
      rintro e w5 ⟨rfl, hS5⟩
      obtain ⟨F5, HM5, ht5, -⟩ := HM4.step hS5
      refine hK _ _ _ (ht5.blk hbt4 hnt) (fun _ h => h) ?_
      clear hK K
      refine steps_nil ?_
      try simp only [Act.put]
      rw [loseQ_step s hz0 pre post ⟨xr, xk, xi, xs_⟩ now] at HM5
      clear hS5 ht5 hbt4 hnt HM4
      go_wp2_with fail
      go_roundg post.length
      case measure => have := HGK.out; simp at this; omega
      case rel => exact ⟨pre ++ [⟨xr, xk, xi, xs_⟩], post, F5, by rw [HX.out]; simp, rfl, HM5⟩
end Go.Proofs.Ytadmfoglajhdcaa
