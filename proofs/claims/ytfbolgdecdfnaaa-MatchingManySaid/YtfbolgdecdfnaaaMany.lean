/- The walk of MatchingMany. -/
import Derived.Test.YtfbolgdecdfnaaaManyPlain
namespace Go.Proofs.Ytfbolgdecdfnaaa
set_option maxRecDepth 4000
set_option linter.unusedVariables false
set_option linter.unusedSimpArgs false
open Go Go.RowKit Go.Maps Go.ChangeMaps Go.MapKept
def MnRel (W : World) (mb n : Nat) (v : Value) (wr : World) : Prop := ∃ i s, i ≤ n ∧ v = .int .i64 i ∧ Has W wr [mP mb s] ∧ MI s i
def MdRel (W : World) (mb n done : Nat) (q : Nat → List It) (t : Int) (v : Value) (wr : World) : Prop := ∃ i, i ≤ done ∧ v = .int .i64 i ∧ Has W wr [mP mb ⟨t, q, (Lr 0 n).drop i⟩]
theorem done_drop (t : Int) (q : Nat → List It) (n i : Nat) : (⟨t, q, (Lr 0 n).drop i⟩ : MS).done ((i : Int) + 1) = ⟨t, q, (Lr 0 n).drop (i + 1)⟩ := by
  have hd : ∀ i, (Lr 0 n).drop i = Lr i (n - i) := fun i => by
    unfold Lr
    rw [← List.map_drop, List.drop_range']; simp
  unfold MS.done
  simp only [MS.mk.injEq, true_and]
  rw [hd, hd]
  by_cases h : i < n
  · obtain ⟨m, hm⟩ : ∃ m, n - i = m + 1 := ⟨n - i - 1, by omega⟩
    rw [hm, keep_Lr]
    congr 1; omega
  · rw [show n - i = 0 by omega, show n - (i + 1) = 0 by omega]; rfl
set_option maxRecDepth 100000 in
set_option maxHeartbeats 4000000 in
theorem many_any (W : World) (n done : Int) (ho1 : -9223372036854775808 ≤ n) (ho2 : n ≤ 9223372036854775807) (hp1 : -9223372036854775808 ≤ done) (hp2 : done ≤ 9223372036854775807) :
    Calls Try.prog 3 #[.int .i64 n, .int .i64 done] W fun e W' => e = .returned (.bool true) ∧ Ext W W' := by
  have hz := mcells_zero
  go_enter Try.func3, Try.ntmps3
  go_wp2_with fail
  refine (brings_any W).mono ?_
  rintro e w1 ⟨rfl, hE1⟩
  by_cases g1 : n < 0
  · go_wp2_with fail
    go_ret
    exact ⟨rfl, hE1⟩
  by_cases g2 : 300 < n
  · go_wp2_with fail
    go_ret
    exact ⟨rfl, hE1⟩
  by_cases g3 : done < 0
  · go_wp2_with fail
    go_ret
    exact ⟨rfl, hE1⟩
  by_cases g4 : 200 < done
  · go_wp2_with fail
    go_ret
    exact ⟨rfl, hE1⟩
  have hH := hm_new (Has.nil hE1) .nil
  go_upto_region 6 with fail
  generalize hw : World.alloc w1 _ = w2 at *
  generalize w1.heap.size = mb at *
  clear hw
  try simp only [Act.put]
  obtain ⟨nn, rfl⟩ : ∃ k : Nat, n = k := ⟨n.toNat, by omega⟩
  obtain ⟨dd, rfl⟩ : ∃ k : Nat, done = k := ⟨done.toNat, by omega⟩
  go_wp2_with fail
  go_loopw [29] (fun v wr => MnRel W mb nn v wr) (fun v _ => ((nn : Int) + 1 - intOf v).toNat)
  case atStart => exact ⟨0, zeroMS, Nat.zero_le _, rfl, hH, MI.zero⟩
  case round =>
    clear hH
    obtain ⟨i, s, hi, rfl, hH, hI⟩ := hrel
    by_cases gi : (i : Int) < nn
    · have hi3 : i < 300 := by omega
      have okI : It.Ok ⟨i, 2, 0, 0⟩ := ok_small (by omega) (by omega) (by decide) (by decide) (by decide) (by decide) (by decide) (by decide)
      have hIt := hI.tok
      have htok : (madd s i 2 0 (1 + (i : Int) % 3) 0).tok = s.tok := by unfold madd; split; rfl; split <;> rfl
      have hmin : ((min i 256 : Nat) : Int) ≤ 256 ∧ 0 ≤ ((min i 256 : Nat) : Int) := by omega
      have AE := Lib.hid (hI.addE hi3)
      have HT := Lib.hid hIt
      have HTK := Lib.hid htok
      have HI := Lib.hid hI
      clear hI hIt htok
      replace hH := hm_blk hH (by repeat first | exact Locs.nil | refine Locs.cons (mP_loc _ _) ?_ | refine Locs.cons (blkA_loc _ _ _) ?_ | refine Locs.cons (rowA_loc _ _ _ _ _) ?_) 42 #[.int .i64 i, .int .i64 2, .int .i64 0]
      go_upto_region 10 with fail
      generalize hw : wr.alloc _ = w3 at *
      generalize wr.heap.size = tb at *
      clear hw
      have hb := hH.blk (g := tb) (T := 42) (cs := #[.int .i64 i, .int .i64 2, .int .i64 0]) (by simp)
      have c0 : World.cell? w3 ⟨tb, 0, none⟩ = some (.int .i64 i) := hb.cell 0
      have c1 : World.cell? w3 ⟨tb, 1, none⟩ = some (.int .i64 2) := hb.cell 1
      have c2 : World.cell? w3 ⟨tb, 2, none⟩ = some (.int .i64 0) := hb.cell 2
      replace hH := hH.drop
      go_wp2_with fail
      refine (hm_add hH (by repeat first | exact Locs.nil | refine Locs.cons (mP_loc _ _) ?_ | refine Locs.cons (blkA_loc _ _ _) ?_ | refine Locs.cons (rowA_loc _ _ _ _ _) ?_) i 2 0 (1 + (i : Int) % 3) 0 okI).mono ?_
      clear hH hb c0 c1 c2
      rintro e w4 ⟨rfl, hH⟩
      rw [AE.out]
      by_cases g5 : (i : Int) < 256
      · have PL := Lib.hid (HI.out.less (by omega))
        go_wp2_with fail
        refine (hm_poll hH (by repeat first | exact Locs.nil | refine Locs.cons (mP_loc _ _) ?_ | refine Locs.cons (blkA_loc _ _ _) ?_ | refine Locs.cons (rowA_loc _ _ _ _ _) ?_) (1 + (i : Int) % 3) 2 0 (by rw [HTK.out, HT.out]; omega) (by rw [HTK.out, HT.out]; omega) (by decide) (by decide)).mono ?_
        clear hH
        rintro e w5 ⟨rfl, hH⟩
        rw [PL.out.1]
        generalize pollL _ _ _ _ = lx
        unfold lsV
        go_upto_region 13 with fail
        generalize hw_ : World.alloc w5 _ = w6 at *
        have hE_ : Ext w5 w6 := by rw [← hw_]; exact ext_alloc _ _
        generalize (w5).heap.size = bb at *
        clear hw_
        replace hH := hH.ext (by repeat first | exact Locs.nil | refine Locs.cons (mP_loc _ _) ?_ | refine Locs.cons (blkA_loc _ _ _) ?_ | refine Locs.cons (rowA_loc _ _ _ _ _) ?_) hE_
        clear hE_
        go_wp2_with fail
        exact ⟨⟨i + 1, _, by omega, by go_num, hH, PL.out.2⟩, by simp [intOf]; omega⟩
      · have PL := Lib.hid (HI.out.more hi3 (by omega))
        go_wp2_with fail
        refine (hm_poll hH (by repeat first | exact Locs.nil | refine Locs.cons (mP_loc _ _) ?_ | refine Locs.cons (blkA_loc _ _ _) ?_ | refine Locs.cons (rowA_loc _ _ _ _ _) ?_) (1 + (i : Int) % 3) 2 0 (by rw [HTK.out, HT.out]; omega) (by rw [HTK.out, HT.out]; omega) (by decide) (by decide)).mono ?_
        clear hH
        rintro e w5 ⟨rfl, hH⟩
        rw [PL.out.1]
        generalize pollL _ _ _ _ = lx
        unfold lsV
        go_upto_region 13 with fail
        generalize hw_ : World.alloc w5 _ = w6 at *
        have hE_ : Ext w5 w6 := by rw [← hw_]; exact ext_alloc _ _
        generalize (w5).heap.size = bb at *
        clear hw_
        replace hH := hH.ext (by repeat first | exact Locs.nil | refine Locs.cons (mP_loc _ _) ?_ | refine Locs.cons (blkA_loc _ _ _) ?_ | refine Locs.cons (rowA_loc _ _ _ _ _) ?_) hE_
        clear hE_
        go_wp2_with fail
        exact ⟨⟨i + 1, _, by omega, by go_num, hH, PL.out.2.2⟩, by simp [intOf]; omega⟩
    · have hin : i = nn := by omega
      subst hin
      clear gi
      have HI := Lib.hid hI
      obtain ⟨k, hk⟩ : ∃ k : Nat, min i 256 = k := ⟨_, rfl⟩
      have hkb : k ≤ 256 ∧ k ≤ i ∧ (k = 256 ∨ k = i) := by omega
      have hls : s.ls.length = k := by rw [hI.ls, Lr_length]; exact hk
      have hse : s = ⟨s.tok, s.q, (Lr 0 k).drop 0⟩ := by
        rw [← hk, List.drop_zero, ← hI.ls]
      have hwl := hI.wl
      obtain ⟨N, hN⟩ : ∃ N : Nat, (waitQ s 64).length = N := ⟨_, rfl⟩
      have hNb : N = i - 256 := by omega
      have hwq : ∀ t ls, (waitQ ⟨t, s.q, ls⟩ 64).length = N := fun t ls => by
        rw [← hN]
        have : ∀ j, waitQ ⟨t, s.q, ls⟩ j = waitQ s j := fun j => by
          induction j with
          | zero => rfl
          | succ j ih => rw [waitQ, waitQ, ih]
        rw [this]
      have HLS := Lib.hid hls
      have HSE := Lib.hid hse
      have HWQ := Lib.hid hwq
      have HNB := Lib.hid hNb
      clear hI hk hls hse hwl hN hwq hNb
      go_wp2_with fail
      refine (hm_leases hH (by repeat first | exact Locs.nil | refine Locs.cons (mP_loc _ _) ?_ | refine Locs.cons (blkA_loc _ _ _) ?_ | refine Locs.cons (rowA_loc _ _ _ _ _) ?_)).mono ?_
      clear hH
      rintro e w3 ⟨v, rfl, hH⟩
      obtain ⟨F_, hF_⟩ := hH.head
      obtain ⟨pr_, cr_, rfl⟩ := ownsRow_slice hF_.1
      replace hH := hH.drop
      clear hF_
      rw [HLS.out]
      rw [HSE.out] at hH
      go_wp2_with fail
      go_loopw [64] (fun v wr => MdRel W mb k dd s.q s.tok v wr) (fun v _ => ((dd : Int) + 1 - intOf v).toNat)
      case atStart => exact ⟨0, Nat.zero_le _, rfl, hH⟩
      case round =>
        clear hH
        obtain ⟨j, hj, rfl, hH⟩ := hrel
        by_cases gj : (j : Int) < dd
        · have HD := Lib.hid (done_drop s.tok s.q k j)
          go_wp2_with fail
          refine (hm_done hH (by repeat first | exact Locs.nil | refine Locs.cons (mP_loc _ _) ?_ | refine Locs.cons (blkA_loc _ _ _) ?_ | refine Locs.cons (rowA_loc _ _ _ _ _) ?_) ((j : Int) + 1)).mono ?_
          clear hH
          rintro e w4 ⟨rfl, hH⟩
          rw [HD.out] at hH ⊢
          have hlt : decide ((⟨s.tok, s.q, (Lr 0 k).drop (j + 1)⟩ : MS).ls.length < (⟨s.tok, s.q, (Lr 0 k).drop j⟩ : MS).ls.length) = decide ((j : Int) < k) := by
            simp only [List.length_drop, Lr_length]
            rw [decide_eq_decide]; omega
          rw [hlt]
          clear hlt
          by_cases g6 : (j : Int) < k
          all_goals
            go_wp2_with fail
            exact ⟨⟨j + 1, by omega, by go_num, hH⟩, by simp [intOf]; omega⟩
        · have hjd : j = dd := by omega
          subst hjd
          go_wp2_with fail
          refine (hm_leases hH (by repeat first | exact Locs.nil | refine Locs.cons (mP_loc _ _) ?_ | refine Locs.cons (blkA_loc _ _ _) ?_ | refine Locs.cons (rowA_loc _ _ _ _ _) ?_)).mono ?_
          clear hH
          rintro e w4 ⟨v, rfl, hH⟩
          obtain ⟨F_, hF_⟩ := hH.head
          obtain ⟨pr_, cr_, rfl⟩ := ownsRow_slice hF_.1
          replace hH := hH.drop
          clear hF_
          simp only [List.length_drop, Lr_length]
          obtain ⟨L, hL⟩ : ∃ L : Nat, k - j = L := ⟨_, rfl⟩
          rw [hL]
          have hLb : (L : Int) = max 0 ((k : Int) - j) := by omega
          have HL := Lib.hid hLb
          clear hLb
          rcases Nat.lt_trichotomy j k with g7 | g7 | g7
          · have e1 : ((L : Int) == (k : Int) - j) = true := by rw [beq_iff_eq]; omega
            have e2 : (0 : Int) < (k : Int) - j := by omega
            clear hL
            go_wp2_with fail
            refine (hm_waiting hH (by repeat first | exact Locs.nil | refine Locs.cons (mP_loc _ _) ?_ | refine Locs.cons (blkA_loc _ _ _) ?_ | refine Locs.cons (rowA_loc _ _ _ _ _) ?_)).mono ?_
            clear hH
            rintro e w5 ⟨v, rfl, hH⟩
            obtain ⟨F_, hF_⟩ := hH.head
            obtain ⟨pr_, cr_, rfl⟩ := ownsRow_slice hF_.1
            replace hH := hH.drop
            clear hF_
            rw [HWQ.out]
            have hNB := HNB.out
            rcases Nat.lt_trichotomy 256 i with g8 | g8 | g8
            · have f1 : ((N : Int) == (i : Int) - 256) = true := by rw [beq_iff_eq]; omega
              have f2 : (0 : Int) < (i : Int) - 256 := by omega
              clear hNB
              go_wp2_with fail
              go_ret
              exact ⟨rfl, hH.base⟩
            · obtain rfl : N = 0 := by omega
              subst g8
              clear hNB
              go_wp2_with fail
              go_ret
              exact ⟨rfl, hH.base⟩
            · obtain rfl : N = 0 := by omega
              have f2 : (i : Int) - 256 < 0 := by omega
              clear hNB
              go_wp2_with fail
              go_ret
              exact ⟨rfl, hH.base⟩
          · obtain rfl : L = 0 := by omega
            subst g7
            clear hL
            go_wp2_with fail
            refine (hm_waiting hH (by repeat first | exact Locs.nil | refine Locs.cons (mP_loc _ _) ?_ | refine Locs.cons (blkA_loc _ _ _) ?_ | refine Locs.cons (rowA_loc _ _ _ _ _) ?_)).mono ?_
            clear hH
            rintro e w5 ⟨v, rfl, hH⟩
            obtain ⟨F_, hF_⟩ := hH.head
            obtain ⟨pr_, cr_, rfl⟩ := ownsRow_slice hF_.1
            replace hH := hH.drop
            clear hF_
            rw [HWQ.out]
            have hNB := HNB.out
            rcases Nat.lt_trichotomy 256 i with g8 | g8 | g8
            · have f1 : ((N : Int) == (i : Int) - 256) = true := by rw [beq_iff_eq]; omega
              have f2 : (0 : Int) < (i : Int) - 256 := by omega
              clear hNB
              go_wp2_with fail
              go_ret
              exact ⟨rfl, hH.base⟩
            · obtain rfl : N = 0 := by omega
              subst g8
              clear hNB
              go_wp2_with fail
              go_ret
              exact ⟨rfl, hH.base⟩
            · obtain rfl : N = 0 := by omega
              have f2 : (i : Int) - 256 < 0 := by omega
              clear hNB
              go_wp2_with fail
              go_ret
              exact ⟨rfl, hH.base⟩
          · obtain rfl : L = 0 := by omega
            have e2 : (k : Int) - j < 0 := by omega
            clear hL
            go_wp2_with fail
            refine (hm_waiting hH (by repeat first | exact Locs.nil | refine Locs.cons (mP_loc _ _) ?_ | refine Locs.cons (blkA_loc _ _ _) ?_ | refine Locs.cons (rowA_loc _ _ _ _ _) ?_)).mono ?_
            clear hH
            rintro e w5 ⟨v, rfl, hH⟩
            obtain ⟨F_, hF_⟩ := hH.head
            obtain ⟨pr_, cr_, rfl⟩ := ownsRow_slice hF_.1
            replace hH := hH.drop
            clear hF_
            clear e2
            rw [HWQ.out]
            have hNB := HNB.out
            rcases Nat.lt_trichotomy 256 i with g8 | g8 | g8
            · have f1 : ((N : Int) == (i : Int) - 256) = true := by rw [beq_iff_eq]; omega
              have f2 : (0 : Int) < (i : Int) - 256 := by omega
              clear hNB
              go_wp2_with fail
              go_ret
              exact ⟨rfl, hH.base⟩
            · obtain rfl : N = 0 := by omega
              subst g8
              clear hNB
              go_wp2_with fail
              go_ret
              exact ⟨rfl, hH.base⟩
            · obtain rfl : N = 0 := by omega
              have f2 : (i : Int) - 256 < 0 := by omega
              clear hNB
              go_wp2_with fail
              go_ret
              exact ⟨rfl, hH.base⟩
end Go.Proofs.Ytfbolgdecdfnaaa
