/- The walk of MatchingPlays. -/
import Derived.Test.YtfbolgdecdfnaaaBrings
import Derived.Test.YtfbolgdecdfnaaaMOps
import Derived.Test.YtfbolgdecdfnaaaPWorld
import Derived.Test.YtfbolgdecdfnaaaPTurnSim
import Derived.Test.YtfbolgdecdfnaaaOnce
import Derived.Deep.LoopGhost
namespace Go.Proofs.Ytfbolgdecdfnaaa
set_option maxRecDepth 4000
set_option linter.unusedVariables false
set_option linter.unusedSimpArgs false
open Go Go.RowKit Go.Maps Go.ChangeMaps Go.MapKept
theorem Has.last6 {w W : World} {p q r s t u : Asr} (h : Has w W [p, q, r, s, t, u]) : Has w W [u, p, q, r, s, t] :=
  h.perm (show List.Perm [p, q, r, s, t, u] ([u] ++ [p, q, r, s, t]) from (List.perm_append_comm (l₁ := [p, q, r, s, t]) (l₂ := [u])))
theorem Has.back4 {w W : World} {m r wb b : Asr} (h : Has w W [wb, r, m, b]) : Has w W [b, r, wb, m] := h.fourth.perm (List.Perm.cons _ (List.Perm.swap _ _ _))
theorem Has.back5 {w W : World} {m r wb b : Asr} (h : Has w W [m, wb, r, b]) : Has w W [b, r, wb, m] := h.perm (List.reverse_perm [m, wb, r, b]).symm
theorem Has.rot4 {w W : World} {m r wb b : Asr} (h : Has w W [m, b, r, wb]) : Has w W [b, r, wb, m] := h.perm (List.perm_append_comm (l₁ := [m]) (l₂ := [b, r, wb]))
theorem Has.join {w W : World} {vw vl v : Value} {ws : List Hd} {ls ks : List Ls} {n : Nat} {ps : List Asr} (h : Has w W (rowA 46 6 v n (flatL ks) :: rrA vw ws vl ls :: ps)) (hn : ks.length = n) : Has w W (rrA vw ws v ks :: ps) := by
  subst hn
  obtain ⟨F, ⟨h1, rfl⟩, h2, G, ⟨h3, rfl⟩, h4, h5⟩ := h
  refine ⟨_, ⟨⟨h3.w, h1⟩, rfl⟩, fun k hk => ⟨?_, id⟩, Side.weaken h5 fun k hk => ?_⟩
  · rcases hk with hk | hk
    · exact (h4 k (Or.inl hk)).1
    · exact (h2 k hk).1
  · rcases hk with hk | hk | hk
    · exact hk.elim
    · exact Or.inr (Or.inl hk)
    · exact Or.inl (Or.inr hk)
def PkRel (w : World) (ls : List Ls) (p : Ls → Bool) (ps : List Asr) (v20 v : Value) (wr : World) : Prop :=
  ∃ pre post, ls = pre ++ post ∧ v = .int .i64 pre.length ∧ Has w wr (rowA 46 6 v20 (keepL p pre).length (flatL (keepL p pre)) :: ps)
def PgRel (w : World) (ls : List Ls) (zb : Nat) (p : Ls → Bool) (ps : List Asr) (v : Value) (wr : World) : Prop :=
  ∃ pre post, ls = pre ++ post ∧ v = .int .i64 pre.length ∧ Has w wr (blkA zb 46 (lsA (lastL p pre)) :: ps)
theorem flatL_one1 (l : Ls) : flatL [l] = lsC l := by simp [flatL]
theorem lastL_snoc (p : Ls → Bool) (a : List Ls) (x : Ls) : lastL p (a ++ [x]) = if p x = true then x else lastL p a := by simp [lastL]
def PlRel (w : World) (mb wb : Nat) (os : List Mop) (v5 v36 : Value) (wr : World) : Prop :=
  ∃ (i : Nat) (s : MS) (ws : List Hd) (ls : List Ls) (t now : Int) (vw vl : Value), i ≤ os.length ∧ v36 = .int .i64 i ∧ v5 = .int .i64 now ∧ 0 ≤ now ∧ now ≤ 100 * i ∧ PInv s ws ls t i now ∧
    Has w wr [rrA vw ws vl ls, blkA wb 65 #[vw, vl, .int .u64 t], mP mb s]
/-- after the switch -/
def PlCut (w : World) (mb wb : Nat) (n : Nat) (now : Int) (B : Asr) (wr : World) : Prop :=
  ∃ (s : MS) (ws : List Hd) (ls : List Ls) (t : Int) (vw vl : Value), PInv s ws ls t n now ∧
    Has w wr [B, rrA vw ws vl ls, blkA wb 65 #[vw, vl, .int .u64 t], mP mb s]
set_option maxRecDepth 100000 in
set_option maxHeartbeats 40000000 in
theorem plays_any (w : World) (p : Option Addr) (c : Nat) (os : List Mop) (hO : MopsAt w p os) :
    Calls Try.prog 6 #[.slice p os.length c] w fun e w' => e = .returned (.bool true) ∧ Ext w w' := by
  have hz := mcells_zero
  go_enter Try.func6, Try.ntmps6
  go_wp2_with fail
  refine (brings_any w).mono ?_
  rintro e w1 ⟨rfl, hE1⟩
  by_cases g1 : (60 : Int) < os.length
  · go_wp2_with fail
    go_ret
    exact ⟨rfl, hE1⟩
  have hH := hm_new (Has.nil hE1) .nil
  go_upto_region 6 with fail
  generalize hw : World.alloc w1 _ = w2 at *
  generalize w1.heap.size = mb at *
  clear hw hE1
  try simp only [Act.put]
  have hX := hm_blk hH (by repeat first | exact Locs.nil | refine Locs.cons (mP_loc _ _) ?_ | refine Locs.cons (blkA_loc _ _ _) ?_ | refine Locs.cons (rowA_loc _ _ _ _ _) ?_ | refine Locs.cons (rrA_loc _ _ _ _) ?_) 65 #[.slice none 0 0, .slice none 0 0, .int .u64 0]
  clear hH
  go_upto_region 7 with fail
  generalize hw : World.alloc w2 _ = w3 at *
  generalize w2.heap.size = wb at *
  clear hw
  have hX2 := hX.add (by repeat first | exact Locs.nil | refine Locs.cons (mP_loc _ _) ?_ | refine Locs.cons (blkA_loc _ _ _) ?_ | refine Locs.cons (rowA_loc _ _ _ _ _) ?_ | refine Locs.cons (rrA_loc _ _ _ _) ?_) (Ext.refl w3) (p := rrA (.slice none 0 0) [] (.slice none 0 0) []) ⟨⟨World.ownsRow_nil _ _ _ _, World.ownsRow_nil _ _ _ _⟩, rfl⟩ (fun k hk => by simp [Value.ownBlock] at hk)
  clear hX
  go_wp2_with fail
  go_loopw [5, 36] (fun v5 v36 wr => PlRel w mb wb os v5 v36 wr) (fun _ v _ => ((os.length : Int) + 1 - intOf v).toNat)
  case atStart => exact ⟨0, zeroMS, [], [], 0, 0, _, _, Nat.zero_le _, rfl, rfl, Int.le_refl _, by simp, PInv.zero, hX2⟩
  case round =>
    clear hX2
    obtain ⟨i, s, ws, ls, t, now, vw, vl, hi, rfl, rfl, hn0, hn1, hI, hH⟩ := hrel
    by_cases gi : (i : Int) < os.length
    · obtain ⟨pb, po, rfl, hpb, hcells, hok⟩ := hO i (by omega)
      have hEb := hH.base
      have x0 := (hEb.cell pb _ hpb).trans (hcells 0 (by omega))
      have x1 := (hEb.cell pb _ hpb).trans (hcells 1 (by omega))
      have x2 := (hEb.cell pb _ hpb).trans (hcells 2 (by omega))
      have x3 := (hEb.cell pb _ hpb).trans (hcells 3 (by omega))
      have x4 := (hEb.cell pb _ hpb).trans (hcells 4 (by omega))
      have x5 := (hEb.cell pb _ hpb).trans (hcells 5 (by omega))
      have x6 := (hEb.cell pb _ hpb).trans (hcells 6 (by omega))
      clear hcells hEb hpb
      generalize os[i]'(by omega) = o at *
      obtain ⟨oo, orr, ok, oi, oz, ot, oc⟩ := o
      simp only [Mop.cells, List.getElem?_cons_zero, List.getElem?_cons_succ] at x0 x1 x2 x3 x4 x5 x6
      simp only [← Nat.add_assoc, Nat.add_zero] at x0 x1 x2 x3 x4 x5 x6
      have hX := hm_blk hH (by repeat first | exact Locs.nil | refine Locs.cons (mP_loc _ _) ?_ | refine Locs.cons (blkA_loc _ _ _) ?_ | refine Locs.cons (rowA_loc _ _ _ _ _) ?_ | refine Locs.cons (rrA_loc _ _ _ _) ?_) 59 #[.int .i64 oo, .int .i64 orr, .int .i64 ok, .int .i64 oi, .int .i64 oz, .int .u64 ot, .int .i64 oc]
      go_upto_region 11 with fail
      generalize hw : wr.alloc _ = w3 at *
      generalize wr.heap.size = bx at *
      clear hw x0 x1 x2 x3 x4 x5 x6 hH
      have hbl := hX.blk (g := bx) (T := 59) (cs := #[.int .i64 oo, .int .i64 orr, .int .i64 ok, .int .i64 oi, .int .i64 oz, .int .u64 ot, .int .i64 oc]) (by simp)
      have b0 : World.cell? w3 ⟨bx, 0, none⟩ = some (.int .i64 oo) := hbl.cell 0
      have b1 : World.cell? w3 ⟨bx, 1, none⟩ = some (.int .i64 orr) := hbl.cell 1
      have b2 : World.cell? w3 ⟨bx, 2, none⟩ = some (.int .i64 ok) := hbl.cell 2
      have b3 : World.cell? w3 ⟨bx, 3, none⟩ = some (.int .i64 oi) := hbl.cell 3
      have b4 : World.cell? w3 ⟨bx, 4, none⟩ = some (.int .i64 oz) := hbl.cell 4
      have b5 : World.cell? w3 ⟨bx, 5, none⟩ = some (.int .u64 ot) := hbl.cell 5
      have b6 : World.cell? w3 ⟨bx, 6, none⟩ = some (.int .i64 oc) := hbl.cell 6
      have hcb := clip_bd oc
      obtain ⟨n2, hn2⟩ : ∃ n : Int, now + clip oc = n := ⟨_, rfl⟩
      go_cut [5] (fun v wx => v = .int .i64 n2 ∧ wx = w3)
      case first =>
        as_aux_lemma =>
          rcases (show oc ≤ 0 ∨ (0 < oc ∧ oc < 100) ∨ 100 ≤ oc by omega) with hc | ⟨hc1, hc2⟩ | hc
          all_goals
            go_wp2_with fail
            all_goals
              go_meet
              refine ⟨?_, rfl⟩
              rw [← hn2]
              unfold clip
              first | (congr 1; omega) | (exfalso; omega)
      case rest =>
        obtain ⟨rfl, rfl⟩ := hcut
        have hnb : 0 ≤ n2 ∧ n2 ≤ 100 * (i + 1) := by omega
        have hI := hI.time (now' := n2) (by omega)
        clear hn2 hcb
        go_upto_block 2 with fail
        go_cut [47] (fun _ wx => PlCut w mb wb (i + 1) n2 (blkA bx 59 #[.int .i64 oo, .int .i64 orr, .int .i64 ok, .int .i64 oi, .int .i64 oz, .int .u64 ot, .int .i64 oc]) wx)
        case first =>
          have hok1 := hok.key
          have hokn : It.Ok ⟨orr, ok, oi, n2⟩ := ⟨hok1, show _ ≤ n2 by omega, show n2 ≤ _ by omega⟩
          have ht := hI.t0
          have hlb : ls.length ≤ 256 := by
            obtain ⟨F_, hF_⟩ := hX.match_ (m := mb) (s := s) (by simp)
            rw [← hI.sim.ls]; exact mP_ln hF_
          have hlw : ws.length ≤ 60 := by have := hI.len; omega
          obtain ⟨pw, cw, rfl⟩ := ownsRow_slice hX.swap.rr.w
          obtain ⟨pl, cl, rfl⟩ := ownsRow_slice hX.swap.rr.l
          obtain ⟨M, hM⟩ : ∃ n, ws.length = n := ⟨_, rfl⟩
          obtain ⟨L, hL⟩ : ∃ n, ls.length = n := ⟨_, rfl⟩
          rw [hM, hL] at hX
          rw [hM] at hlw
          rw [hL] at hlb
          have HM := Lib.hid hM
          have HL := Lib.hid hL
          clear hM hL
          have hbw := hX.blk (g := wb) (T := 65) (cs := #[.slice pw M cw, .slice pl L cl, .int .u64 t]) (by simp)
          have a0 : World.cell? wc ⟨wb, 0, none⟩ = some (.slice pw M cw) := hbw.cell 0
          have a1 : World.cell? wc ⟨wb, 1, none⟩ = some (.slice pl L cl) := hbw.cell 1
          have a2 : World.cell? wc ⟨wb, 2, none⟩ = some (.int .u64 t) := hbw.cell 2
          rcases (show oo = 0 ∨ oo = 1 ∨ oo = 2 ∨ oo = 3 ∨ oo = 4 ∨ oo = 5 ∨ oo = 6 ∨ oo = 7 ∨ (oo ≠ 0 ∧ oo ≠ 1 ∧ oo ≠ 2 ∧ oo ≠ 3 ∧ oo ≠ 4 ∧ oo ≠ 5 ∧ oo ≠ 6 ∧ oo ≠ 7) by omega) with hk | hk | hk | hk | hk | hk | hk | hk | hk
          · rw [hk] at b0
            as_aux_lemma =>
              replace hX := hX.fourth
              obtain ⟨ec, hec⟩ : ∃ e, maddE s orr ok oi oz = e := ⟨_, rfl⟩
              have hec2 := (hI.sim.addE orr ok oi oz).symm.trans hec
              go_wp2_with fail
              refine (hm_add hX (by repeat first | exact Locs.nil | refine Locs.cons (mP_loc _ _) ?_ | refine Locs.cons (blkA_loc _ _ _) ?_ | refine Locs.cons (rowA_loc _ _ _ _ _) ?_ | refine Locs.cons (rrA_loc _ _ _ _) ?_) orr ok oi oz n2 hokn).mono ?_
              clear hbl b0 b1 b2 b3 b4 b5 b6 hbw a0 a1 a2
              rintro e w4 ⟨rfl, hX⟩
              rw [hec]
              have HEC2 := Lib.hid hec2
              clear hec hec2
              have hbl := hX.blk (g := bx) (T := 59) (cs := #[.int .i64 oo, .int .i64 orr, .int .i64 ok, .int .i64 oi, .int .i64 oz, .int .u64 ot, .int .i64 oc]) (by simp)
              have b0 : World.cell? w4 ⟨bx, 0, none⟩ = some (.int .i64 oo) := hbl.cell 0
              have b1 : World.cell? w4 ⟨bx, 1, none⟩ = some (.int .i64 orr) := hbl.cell 1
              have b2 : World.cell? w4 ⟨bx, 2, none⟩ = some (.int .i64 ok) := hbl.cell 2
              have b3 : World.cell? w4 ⟨bx, 3, none⟩ = some (.int .i64 oi) := hbl.cell 3
              have b4 : World.cell? w4 ⟨bx, 4, none⟩ = some (.int .i64 oz) := hbl.cell 4
              have b5 : World.cell? w4 ⟨bx, 5, none⟩ = some (.int .u64 ot) := hbl.cell 5
              have b6 : World.cell? w4 ⟨bx, 6, none⟩ = some (.int .i64 oc) := hbl.cell 6
              have hbw := hX.blk (g := wb) (T := 65) (cs := #[.slice pw M cw, .slice pl L cl, .int .u64 t]) (by simp)
              have a0 : World.cell? w4 ⟨wb, 0, none⟩ = some (.slice pw M cw) := hbw.cell 0
              have a1 : World.cell? w4 ⟨wb, 1, none⟩ = some (.slice pl L cl) := hbw.cell 1
              have a2 : World.cell? w4 ⟨wb, 2, none⟩ = some (.int .u64 t) := hbw.cell 2
              go_wp2_with fail
              refine (radd_any w4 (.slice pw M cw) (.slice pl L cl) t ws ls orr ok oi oz n2 hX.third.rr (by rw [HM.out]; omega) (by rw [HL.out]; omega)).mono ?_
              clear hbl b0 b1 b2 b3 b4 b5 b6 hbw a0 a1 a2
              rintro e w5 ⟨vw', rfl, hR, hE, hV⟩
              rw [HEC2.out]
              obtain ⟨pv, cv, rfl⟩ := ownsRow_slice hR.w
              replace hX := hX.third.rrs (by repeat first | exact Locs.nil | refine Locs.cons (mP_loc _ _) ?_ | refine Locs.cons (blkA_loc _ _ _) ?_ | refine Locs.cons (rowA_loc _ _ _ _ _) ?_ | refine Locs.cons (rrA_loc _ _ _ _) ?_) hE hR hV .l
              have HI2 := Lib.hid (hI.add orr ok oi oz hok1 hnb.1)
              clear hE hR hV
              generalize radd ws ls orr ok oi oz n2 = ws1 at *
              obtain ⟨N, hN⟩ : ∃ n, ws1.length = n := ⟨_, rfl⟩
              rw [hN] at hX ⊢
              clear hN
              have hbw := hX.blk (g := wb) (T := 65) (cs := #[.slice pw M cw, .slice pl L cl, .int .u64 t]) (by simp)
              replace hX := hX.fourth.row (cs := rwA (.slice pv N cv) (.slice pl L cl) t) (by repeat first | exact Locs.nil | refine Locs.cons (mP_loc _ _) ?_ | refine Locs.cons (blkA_loc _ _ _) ?_ | refine Locs.cons (rowA_loc _ _ _ _ _) ?_ | refine Locs.cons (rrA_loc _ _ _ _) ?_)
              go_wp2_with (refine wpList_store_row rfl _ _ _ rfl wb (rwA (.slice pv N cv) (.slice pl L cl) t) rfl rfl _ _ hbw rwInfo rfl (rwA_all _ _ _ _ _ _ _) ?_)
              generalize World.setRow w5 _ _ = w6 at *
              clear hbw
              go_wp2_with fail
              go_meet
              exact ⟨_, _, _, _, _, _, HI2.out, hX.fourth.perm (List.Perm.cons _ (List.Perm.swap _ _ _))⟩
          · rw [hk] at b0
            as_aux_lemma =>
              replace hX := hX.fourth
              obtain ⟨hpe, hpl, -⟩ := hI.sim.poll hI.inv.one oz ok n2
              have HI2 := Lib.hid (hI.poll oz ok)
              go_wp2_with fail
              refine (hm_poll hX (by repeat first | exact Locs.nil | refine Locs.cons (mP_loc _ _) ?_ | refine Locs.cons (blkA_loc _ _ _) ?_ | refine Locs.cons (rowA_loc _ _ _ _ _) ?_ | refine Locs.cons (rrA_loc _ _ _ _) ?_) oz ok n2 hI.inv.tok1 (by have := hI.inv.tok2; omega) (by omega) (by omega)).mono ?_
              clear hbl b0 b1 b2 b3 b4 b5 b6 hbw a0 a1 a2
              rintro e w4 ⟨rfl, hX⟩
              rw [hpe, hpl]
              clear hpe hpl
              obtain ⟨ec, hec⟩ : ∃ e, rpollE ws ls oz ok = e := ⟨_, rfl⟩
              obtain ⟨lx, hlx⟩ : ∃ l, rpollL (rpollO ws ls oz ok) t oz n2 = l := ⟨_, rfl⟩
              rw [hec, hlx]
              have HEC := Lib.hid hec
              have HLX := Lib.hid hlx
              clear hec hlx
              generalize pollS s oz ok n2 = s1 at *
              obtain ⟨lt, lr, lk, li, lw, lu⟩ := lx
              unfold lsV
              replace hX := hm_blk hX (by repeat first | exact Locs.nil | refine Locs.cons (mP_loc _ _) ?_ | refine Locs.cons (blkA_loc _ _ _) ?_ | refine Locs.cons (rowA_loc _ _ _ _ _) ?_ | refine Locs.cons (rrA_loc _ _ _ _) ?_) 46 #[.int .u64 lt, .int .i64 lr, .int .i64 lk, .int .i64 li, .int .i64 lw, .int .i64 lu]
              go_upto_region 21 with fail
              generalize hw : w4.alloc _ = w5 at *
              generalize w4.heap.size = lb at *
              clear hw
              replace hX := hm_blk hX (by repeat first | exact Locs.nil | refine Locs.cons (mP_loc _ _) ?_ | refine Locs.cons (blkA_loc _ _ _) ?_ | refine Locs.cons (rowA_loc _ _ _ _ _) ?_ | refine Locs.cons (rrA_loc _ _ _ _) ?_) 46 #[.int .u64 0, .int .i64 0, .int .i64 0, .int .i64 0, .int .i64 0, .int .i64 0]
              go_upto_region 22 with fail
              generalize hw : w5.alloc _ = w6 at *
              generalize w5.heap.size = zb at *
              clear hw
              replace hX := hX.fifth
              have hbl := hX.blk (g := bx) (T := 59) (cs := #[.int .i64 oo, .int .i64 orr, .int .i64 ok, .int .i64 oi, .int .i64 oz, .int .u64 ot, .int .i64 oc]) (by simp)
              have b0 : World.cell? w6 ⟨bx, 0, none⟩ = some (.int .i64 oo) := hbl.cell 0
              have b1 : World.cell? w6 ⟨bx, 1, none⟩ = some (.int .i64 orr) := hbl.cell 1
              have b2 : World.cell? w6 ⟨bx, 2, none⟩ = some (.int .i64 ok) := hbl.cell 2
              have b3 : World.cell? w6 ⟨bx, 3, none⟩ = some (.int .i64 oi) := hbl.cell 3
              have b4 : World.cell? w6 ⟨bx, 4, none⟩ = some (.int .i64 oz) := hbl.cell 4
              have b5 : World.cell? w6 ⟨bx, 5, none⟩ = some (.int .u64 ot) := hbl.cell 5
              have b6 : World.cell? w6 ⟨bx, 6, none⟩ = some (.int .i64 oc) := hbl.cell 6
              have hbw := hX.blk (g := wb) (T := 65) (cs := #[.slice pw M cw, .slice pl L cl, .int .u64 t]) (by simp)
              have a0 : World.cell? w6 ⟨wb, 0, none⟩ = some (.slice pw M cw) := hbw.cell 0
              have a1 : World.cell? w6 ⟨wb, 1, none⟩ = some (.slice pl L cl) := hbw.cell 1
              have a2 : World.cell? w6 ⟨wb, 2, none⟩ = some (.int .u64 t) := hbw.cell 2
              go_wp2_with fail
              refine (rpoll_any w6 (.slice pw M cw) (.slice pl L cl) t ws ls oz ok n2 hX.rr (by rw [HM.out]; omega) (by rw [HL.out]; omega) ht.1 (by omega) hnb.1 (by omega)).mono ?_
              clear hbl b0 b1 b2 b3 b4 b5 b6 hbw a0 a1 a2
              rintro e w7 ⟨vw', vl', rfl, hR, hE, hV, hV2⟩
              rw [HLX.out, HEC.out]
              clear HLX HEC
              obtain ⟨pv, cv, rfl⟩ := ownsRow_slice hR.w
              obtain ⟨pu, cu, rfl⟩ := ownsRow_slice hR.l
              replace hX := hX.rrs (by repeat first | exact Locs.nil | refine Locs.cons (mP_loc _ _) ?_ | refine Locs.cons (blkA_loc _ _ _) ?_ | refine Locs.cons (rowA_loc _ _ _ _ _) ?_ | refine Locs.cons (rrA_loc _ _ _ _) ?_) hE hR hV hV2
              clear hE hR hV hV2
              generalize rpollT (rpollO ws ls oz ok) t = t1 at *
              generalize rpollLs (rpollO ws ls oz ok) ls t oz n2 = ls1 at *
              generalize rpollW (rpollO ws ls oz ok) ws = ws1 at *
              obtain ⟨N, hN⟩ : ∃ n, ws1.length = n := ⟨_, rfl⟩
              obtain ⟨R, hR⟩ : ∃ n, ls1.length = n := ⟨_, rfl⟩
              rw [hN, hR] at hX ⊢
              clear hN hR
              have hbw := hX.blk (g := wb) (T := 65) (cs := #[.slice pw M cw, .slice pl L cl, .int .u64 t]) (by simp)
              replace hX := (hX.last6).row (cs := rwA (.slice pv N cv) (.slice pu R cu) t1) (by repeat first | exact Locs.nil | refine Locs.cons (mP_loc _ _) ?_ | refine Locs.cons (blkA_loc _ _ _) ?_ | refine Locs.cons (rowA_loc _ _ _ _ _) ?_ | refine Locs.cons (rrA_loc _ _ _ _) ?_)
              have hbz := hX.blk (g := zb) (T := 46) (cs := #[.int .u64 0, .int .i64 0, .int .i64 0, .int .i64 0, .int .i64 0, .int .i64 0]) (by simp)
              replace hX := hX.third.row (cs := lsA ⟨lt, lr, lk, li, lw, lu⟩) (by repeat first | exact Locs.nil | refine Locs.cons (mP_loc _ _) ?_ | refine Locs.cons (blkA_loc _ _ _) ?_ | refine Locs.cons (rowA_loc _ _ _ _ _) ?_ | refine Locs.cons (rrA_loc _ _ _ _) ?_)
              unfold lsV
              go_upto_region 24 with (first | (refine wpList_store_row rfl _ _ _ rfl wb (rwA (.slice pv N cv) (.slice pu R cu) t1) rfl rfl _ _ hbw rwInfo rfl (rwA_all _ _ _ _ _ _ _) ?_) | (refine wpList_store_row rfl _ _ _ rfl zb (lsA ⟨lt, lr, lk, li, lw, lu⟩) rfl rfl _ _ hbz (leaseInfo' _) rfl (lsA_all _) ?_))
              generalize World.setRow (World.setRow w7 _ _) _ _ = w8 at *
              clear hbw hbz
              have hly := hX.blk (g := lb) (T := 46) (cs := #[.int .u64 lt, .int .i64 lr, .int .i64 lk, .int .i64 li, .int .i64 lw, .int .i64 lu]) (by simp)
              have $n0 : World.cell? w8 ⟨lb, 0, none⟩ = some (.int .u64 lt) := hly.cell 0
              have $n1 : World.cell? w8 ⟨lb, 1, none⟩ = some (.int .i64 lr) := hly.cell 1
              have $n2 : World.cell? w8 ⟨lb, 2, none⟩ = some (.int .i64 lk) := hly.cell 2
              have $n3 : World.cell? w8 ⟨lb, 3, none⟩ = some (.int .i64 li) := hly.cell 3
              have $n4 : World.cell? w8 ⟨lb, 4, none⟩ = some (.int .i64 lw) := hly.cell 4
              have $n5 : World.cell? w8 ⟨lb, 5, none⟩ = some (.int .i64 lu) := hly.cell 5
              have hlz := hX.blk (g := zb) (T := 46) (cs := lsA ⟨lt, lr, lk, li, lw, lu⟩) (by simp)
              have $n0 : World.cell? w8 ⟨zb, 0, none⟩ = some (.int .u64 lt) := hlz.cell 0
              have $n1 : World.cell? w8 ⟨zb, 1, none⟩ = some (.int .i64 lr) := hlz.cell 1
              have $n2 : World.cell? w8 ⟨zb, 2, none⟩ = some (.int .i64 lk) := hlz.cell 2
              have $n3 : World.cell? w8 ⟨zb, 3, none⟩ = some (.int .i64 li) := hlz.cell 3
              have $n4 : World.cell? w8 ⟨zb, 4, none⟩ = some (.int .i64 lw) := hlz.cell 4
              have $n5 : World.cell? w8 ⟨zb, 5, none⟩ = some (.int .i64 lu) := hlz.cell 5
              go_wp2_with fail
              go_meet
              exact ⟨_, _, _, _, _, _, HI2.out, (hX.drop.third.drop).back4⟩
          · rw [hk] at b0
            as_aux_lemma =>
              replace hX := hX.fourth
              obtain ⟨hgl, hg0, hg1⟩ := get_last hI.inv ot n2
              rw [hI.sim.ls] at hgl
              go_wp2_with fail
              refine (hm_get hX (by repeat first | exact Locs.nil | refine Locs.cons (mP_loc _ _) ?_ | refine Locs.cons (blkA_loc _ _ _) ?_ | refine Locs.cons (rowA_loc _ _ _ _ _) ?_ | refine Locs.cons (rrA_loc _ _ _ _) ?_) ot n2).mono ?_
              clear hbl b0 b1 b2 b3 b4 b5 b6 hbw a0 a1 a2
              rintro e w4 ⟨rfl, hX, -⟩
              obtain ⟨ec, hec⟩ : ∃ e, getE s ot n2 = e := ⟨_, rfl⟩
              rw [hec] at hg0 hg1 ⊢
              obtain ⟨lx, hlx⟩ : ∃ l, getL s ot n2 = l := ⟨_, rfl⟩
              rw [hlx] at hgl hg0 ⊢
              clear hec hlx
              obtain ⟨lt, lr, lk, li, lw, lu⟩ := lx
              replace hg0 : ec = 0 ↔ 0 < lt := hg0
              obtain ⟨pp, hpp⟩ : ∃ p, (fun x : Ls => x.tok == ot && decide (n2 < x.until_)) = p := ⟨_, rfl⟩
              rw [hpp] at hgl
              have HPP := Lib.hid hpp
              have HG := Lib.hid hgl
              have HG0 := Lib.hid hg0
              have HG1 := Lib.hid hg1
              clear hgl hg0 hg1 hpp
              unfold lsV
              replace hX := hm_blk hX (by repeat first | exact Locs.nil | refine Locs.cons (mP_loc _ _) ?_ | refine Locs.cons (blkA_loc _ _ _) ?_ | refine Locs.cons (rowA_loc _ _ _ _ _) ?_ | refine Locs.cons (rrA_loc _ _ _ _) ?_) 46 #[.int .u64 lt, .int .i64 lr, .int .i64 lk, .int .i64 li, .int .i64 lw, .int .i64 lu]
              go_upto_region 28 with fail
              generalize hw : w4.alloc _ = w5 at *
              generalize w4.heap.size = lb at *
              clear hw
              replace hX := hm_blk hX (by repeat first | exact Locs.nil | refine Locs.cons (mP_loc _ _) ?_ | refine Locs.cons (blkA_loc _ _ _) ?_ | refine Locs.cons (rowA_loc _ _ _ _ _) ?_ | refine Locs.cons (rrA_loc _ _ _ _) ?_) 46 #[.int .u64 0, .int .i64 0, .int .i64 0, .int .i64 0, .int .i64 0, .int .i64 0]
              go_upto_region 29 with fail
              generalize hw : w5.alloc _ = w6 at *
              generalize w5.heap.size = zb at *
              clear hw
              have hbw := hX.blk (g := wb) (T := 65) (cs := #[.slice pw M cw, .slice pl L cl, .int .u64 t]) (by simp)
              have a0 : World.cell? w6 ⟨wb, 0, none⟩ = some (.slice pw M cw) := hbw.cell 0
              have a1 : World.cell? w6 ⟨wb, 1, none⟩ = some (.slice pl L cl) := hbw.cell 1
              have a2 : World.cell? w6 ⟨wb, 2, none⟩ = some (.int .u64 t) := hbw.cell 2
              go_wp2_with fail
              clear hbw a0 a1 a2
              go_loopw [114] (fun v wr => PgRel w ls zb pp [blkA lb 46 #[.int .u64 lt, .int .i64 lr, .int .i64 lk, .int .i64 li, .int .i64 lw, .int .i64 lu], mP mb s, blkA bx 59 #[.int .i64 oo, .int .i64 orr, .int .i64 ok, .int .i64 oi, .int .i64 oz, .int .u64 ot, .int .i64 oc], rrA (.slice pw M cw) ws (.slice pl L cl) ls, blkA wb 65 #[.slice pw M cw, .slice pl L cl, .int .u64 t]] v wr) (fun v _ => ((L : Int) + 1 - intOf v).toNat)
              case atStart => exact ⟨[], ls, rfl, rfl, hX⟩
              case round =>
                clear hX
                obtain ⟨pre, post, hx, rfl, hX⟩ := hrel
                cases post with
                | nil =>
                  obtain rfl : ls = pre := by simpa using hx
                  have hl2 : ¬ ((ls.length : Int) < L) := by rw [← HL.out]; omega
                  clear hx
                  rw [← HG.out] at hX
                  have hly := hX.blk (g := lb) (T := 46) (cs := #[.int .u64 lt, .int .i64 lr, .int .i64 lk, .int .i64 li, .int .i64 lw, .int .i64 lu]) (by simp)
                  have $n0 : World.cell? wr ⟨lb, 0, none⟩ = some (.int .u64 lt) := hly.cell 0
                  have $n1 : World.cell? wr ⟨lb, 1, none⟩ = some (.int .i64 lr) := hly.cell 1
                  have $n2 : World.cell? wr ⟨lb, 2, none⟩ = some (.int .i64 lk) := hly.cell 2
                  have $n3 : World.cell? wr ⟨lb, 3, none⟩ = some (.int .i64 li) := hly.cell 3
                  have $n4 : World.cell? wr ⟨lb, 4, none⟩ = some (.int .i64 lw) := hly.cell 4
                  have $n5 : World.cell? wr ⟨lb, 5, none⟩ = some (.int .i64 lu) := hly.cell 5
                  have hlz := hX.blk (g := zb) (T := 46) (cs := lsA ⟨lt, lr, lk, li, lw, lu⟩) (by simp)
                  have $n0 : World.cell? wr ⟨zb, 0, none⟩ = some (.int .u64 lt) := hlz.cell 0
                  have $n1 : World.cell? wr ⟨zb, 1, none⟩ = some (.int .i64 lr) := hlz.cell 1
                  have $n2 : World.cell? wr ⟨zb, 2, none⟩ = some (.int .i64 lk) := hlz.cell 2
                  have $n3 : World.cell? wr ⟨zb, 3, none⟩ = some (.int .i64 li) := hlz.cell 3
                  have $n4 : World.cell? wr ⟨zb, 4, none⟩ = some (.int .i64 lw) := hlz.cell 4
                  have $n5 : World.cell? wr ⟨zb, 5, none⟩ = some (.int .i64 lu) := hlz.cell 5
                  rcases HG1.out with rfl | rfl
                  · have hpos : 0 < lt := HG0.out.1 rfl
                    go_wp2_with fail
                    go_meet
                    exact ⟨_, _, _, _, _, _, hI.up, hX.drop.drop.rot4⟩
                  · have hpos : ¬ 0 < lt := fun h => by have := HG0.out.2 h; omega
                    go_wp2_with fail
                    go_meet
                    exact ⟨_, _, _, _, _, _, hI.up, hX.drop.drop.rot4⟩
                | cons l post =>
                  have hl2 : (pre.length : Int) < L := by rw [← HL.out, hx]; simp; omega
                  have hrw := (hX.fifth.rr).l
                  rw [HL.out, hx] at hrw
                  obtain ⟨g, rfl, -, hg, x0, x1, x2, x3, x4, x5⟩ := lease_at (by rw [← HL.out, hx]) hrw
                  have HX := Lib.hid hx
                  clear hx hrw
                  obtain ⟨xt, xr, xk, xi, xw, xu⟩ := l
                  go_upto_region 32 with fail
                  replace hX := hm_blk hX (by repeat first | exact Locs.nil | refine Locs.cons (mP_loc _ _) ?_ | refine Locs.cons (blkA_loc _ _ _) ?_ | refine Locs.cons (rowA_loc _ _ _ _ _) ?_ | refine Locs.cons (rrA_loc _ _ _ _) ?_) 46 #[.int .u64 xt, .int .i64 xr, .int .i64 xk, .int .i64 xi, .int .i64 xw, .int .i64 xu]
                  generalize hw : World.alloc wr _ = w5 at *
                  generalize wr.heap.size = nb at *
                  clear hw x0 x1 x2 x3 x4 x5
                  have hl := hX.blk (g := nb) (T := 46) (cs := #[.int .u64 xt, .int .i64 xr, .int .i64 xk, .int .i64 xi, .int .i64 xw, .int .i64 xu]) (by simp)
                  have y0 : World.cell? w5 ⟨nb, 0, none⟩ = some (.int .u64 xt) := hl.cell 0
                  have y1 : World.cell? w5 ⟨nb, 1, none⟩ = some (.int .i64 xr) := hl.cell 1
                  have y2 : World.cell? w5 ⟨nb, 2, none⟩ = some (.int .i64 xk) := hl.cell 2
                  have y3 : World.cell? w5 ⟨nb, 3, none⟩ = some (.int .i64 xi) := hl.cell 3
                  have y4 : World.cell? w5 ⟨nb, 4, none⟩ = some (.int .i64 xw) := hl.cell 4
                  have y5 : World.cell? w5 ⟨nb, 5, none⟩ = some (.int .i64 xu) := hl.cell 5
                  have hbl := hX.blk (g := bx) (T := 59) (cs := #[.int .i64 oo, .int .i64 orr, .int .i64 ok, .int .i64 oi, .int .i64 oz, .int .u64 ot, .int .i64 oc]) (by simp)
                  have b5 : World.cell? w5 ⟨bx, 5, none⟩ = some (.int .u64 ot) := hbl.cell 5
                  have hpx : pp ⟨xt, xr, xk, xi, xw, xu⟩ = (xt == ot && decide (n2 < xu)) := by rw [← HPP.out]
                  have hsn := lastL_snoc pp pre ⟨xt, xr, xk, xi, xw, xu⟩
                  rw [hpx] at hsn
                  clear hpx
                  by_cases h1 : xt = ot
                  · subst h1
                    by_cases h2 : n2 < xu
                    · have e : lastL pp (pre ++ [⟨xt, xr, xk, xi, xw, xu⟩]) = ⟨xt, xr, xk, xi, xw, xu⟩ := by rw [hsn]; simp [h2]
                      have E := Lib.hid e
                      clear e hsn
                      have hlz := hX.blk (g := zb) (T := 46) (cs := lsA (lastL pp pre)) (by simp)
                      replace hX := hX.swap.row (cs := lsA ⟨xt, xr, xk, xi, xw, xu⟩) (by repeat first | exact Locs.nil | refine Locs.cons (mP_loc _ _) ?_ | refine Locs.cons (blkA_loc _ _ _) ?_ | refine Locs.cons (rowA_loc _ _ _ _ _) ?_ | refine Locs.cons (rrA_loc _ _ _ _) ?_)
                      go_wp2_with (refine wpList_store_row rfl _ _ _ rfl zb (lsA ⟨xt, xr, xk, xi, xw, xu⟩) rfl rfl _ _ hlz (leaseInfo' _) rfl (lsA_all _) ?_)
                      exact ⟨⟨pre ++ [⟨xt, xr, xk, xi, xw, xu⟩], post, by rw [HX.out]; simp, by simp, by rw [E.out]; exact hX.swap.drop⟩, by simp [intOf]; omega⟩
                    · have e : lastL pp (pre ++ [⟨xt, xr, xk, xi, xw, xu⟩]) = lastL pp pre := by rw [hsn]; simp [h2]
                      have E := Lib.hid e
                      clear e hsn
                      go_wp2_with fail
                      exact ⟨⟨pre ++ [⟨xt, xr, xk, xi, xw, xu⟩], post, by rw [HX.out]; simp, by simp, by rw [E.out]; exact hX.drop⟩, by simp [intOf]; omega⟩
                  · have h1b : (xt == ot) = false := by simpa using h1
                    have e : lastL pp (pre ++ [⟨xt, xr, xk, xi, xw, xu⟩]) = lastL pp pre := by rw [hsn, h1b]; simp
                    have E := Lib.hid e
                    clear e hsn h1
                    go_wp2_with fail
                    exact ⟨⟨pre ++ [⟨xt, xr, xk, xi, xw, xu⟩], post, by rw [HX.out]; simp, by simp, by rw [E.out]; exact hX.drop⟩, by simp [intOf]; omega⟩
          · rw [hk] at b0
            obtain ⟨i0, hi0, hi1, hi2, hi3⟩ := info_parts6 lsInfo
            replace hX := hX.add (by repeat first | exact Locs.nil | refine Locs.cons (mP_loc _ _) ?_ | refine Locs.cons (blkA_loc _ _ _) ?_ | refine Locs.cons (rowA_loc _ _ _ _ _) ?_ | refine Locs.cons (rrA_loc _ _ _ _) ?_) (Ext.refl wc) (p := rowA 46 6 (.slice none 0 0) 0 (flatL [])) ⟨World.ownsRow_nil _ _ _ _, rfl⟩ (fun k hk => by simp [Value.ownBlock] at hk)
            obtain ⟨pp, hpp⟩ : ∃ p, (fun x : Ls => x.tok == ot) = p := ⟨_, rfl⟩
            have HPP := Lib.hid hpp
            clear hpp
            go_wp2_with fail
            clear hbl b0 b1 b2 b3 b4 b5 b6 hbw a0 a1 a2
            go_loopw [20, 158] (fun v20 vi wr => PkRel w ls pp [blkA bx 59 #[.int .i64 oo, .int .i64 orr, .int .i64 ok, .int .i64 oi, .int .i64 oz, .int .u64 ot, .int .i64 oc], rrA (.slice pw M cw) ws (.slice pl L cl) ls, blkA wb 65 #[.slice pw M cw, .slice pl L cl, .int .u64 t], mP mb s] v20 vi wr) (fun _ vi _ => ((L : Int) + 1 - intOf vi).toNat)
            case atStart => exact ⟨[], ls, rfl, rfl, hX⟩
            case round =>
              clear hX
              obtain ⟨pre, post, hx, rfl, hX⟩ := hrel
              cases post with
              | nil =>
                obtain rfl : ls = pre := by simpa using hx
                have hl2 : ¬ ((ls.length : Int) < L) := by rw [← HL.out]; omega
                clear hx
                obtain ⟨F_, hF_⟩ := hX.head
                obtain ⟨p20, c20, rfl⟩ := ownsRow_slice hF_.1
                clear hF_
                obtain ⟨kk, hkk⟩ : ∃ n, (keepL pp ls).length = n := ⟨_, rfl⟩
                rw [hkk] at hX ⊢
                replace hX := hX.third.swap.join hkk
                have hbw := hX.blk (g := wb) (T := 65) (cs := #[.slice pw M cw, .slice pl L cl, .int .u64 t]) (by simp)
                have fz : wr.frozen? ⟨wb, 1, none⟩ = false := hbw.frozen 1
                have hlt := hbw.lt
                have a1 : World.cell? wr ⟨wb, 1, none⟩ = some (.slice pl L cl) := hbw.cell 1
                replace hX := hX.third.set (by repeat first | exact Locs.nil | refine Locs.cons (mP_loc _ _) ?_ | refine Locs.cons (blkA_loc _ _ _) ?_ | refine Locs.cons (rowA_loc _ _ _ _ _) ?_ | refine Locs.cons (rrA_loc _ _ _ _) ?_) 1 (.slice p20 kk c20)
                have hd : decide ((s.done ot).ls.length < s.ls.length) = decide ((kk : Int) < L) := by
                  have h1 : (s.done ot).ls = keepL pp ls := by rw [← HPP.out, ← hI.sim.ls]; rfl
                  rw [h1, hI.sim.ls, hkk, HL.out, decide_eq_decide]
                  omega
                have HD := Lib.hid hd
                clear hd hkk
                go_upto_region 47 with fail
                generalize World.setCell wr _ _ = w5 at *
                clear hbw fz hlt a1
                replace hX := hX.fourth
                have hbl := hX.blk (g := bx) (T := 59) (cs := #[.int .i64 oo, .int .i64 orr, .int .i64 ok, .int .i64 oi, .int .i64 oz, .int .u64 ot, .int .i64 oc]) (by simp)
                have b5 : World.cell? w5 ⟨bx, 5, none⟩ = some (.int .u64 ot) := hbl.cell 5
                go_wp2_with fail
                refine (hm_done hX (by repeat first | exact Locs.nil | refine Locs.cons (mP_loc _ _) ?_ | refine Locs.cons (blkA_loc _ _ _) ?_ | refine Locs.cons (rowA_loc _ _ _ _ _) ?_ | refine Locs.cons (rrA_loc _ _ _ _) ?_) ot).mono ?_
                clear hbl b5 hX
                rintro e w6 ⟨rfl, hX⟩
                rw [HD.out]
                have HI2 := Lib.hid (hI.done ot hnb.1)
                rw [HPP.out] at HI2
                by_cases hc : (kk : Int) < L
                · rw [decide_eq_true hc]
                  go_wp2_with fail
                  go_meet
                  exact ⟨_, _, _, _, _, _, HI2.out, hX.back5⟩
                · rw [decide_eq_false hc]
                  go_wp2_with fail
                  go_meet
                  exact ⟨_, _, _, _, _, _, HI2.out, hX.back5⟩
              | cons l post =>
                have hl2 : (pre.length : Int) < L := by rw [← HL.out, hx]; simp; omega
                have hrw := (hX.third.rr).l
                rw [HL.out, hx] at hrw
                obtain ⟨g, rfl, -, hg, x0, x1, x2, x3, x4, x5⟩ := lease_at (by rw [← HL.out, hx]) hrw
                have HX := Lib.hid hx
                clear hx hrw
                obtain ⟨lt, lr, lk, li, lw, lu⟩ := l
                have hkk : (keepL pp pre).length ≤ pre.length := List.length_filter_le _ _
                obtain ⟨kk, hkkn⟩ : ∃ n, (keepL pp pre).length = n := ⟨_, rfl⟩
                rw [hkkn] at hkk hX
                have HKK2 := Lib.hid hkkn
                clear hkkn
                go_upto_region 43 with fail
                replace hX := hm_blk hX (by repeat first | exact Locs.nil | refine Locs.cons (mP_loc _ _) ?_ | refine Locs.cons (blkA_loc _ _ _) ?_ | refine Locs.cons (rowA_loc _ _ _ _ _) ?_ | refine Locs.cons (rrA_loc _ _ _ _) ?_) 46 #[.int .u64 lt, .int .i64 lr, .int .i64 lk, .int .i64 li, .int .i64 lw, .int .i64 lu]
                generalize hw : World.alloc wr _ = w3 at *
                generalize wr.heap.size = bt at *
                clear hw x0 x1 x2 x3 x4 x5
                have hbt := hX.blk (g := bt) (T := 46) (cs := #[.int .u64 lt, .int .i64 lr, .int .i64 lk, .int .i64 li, .int .i64 lw, .int .i64 lu]) (by simp)
                have c0 : World.cell? w3 ⟨bt, 0, none⟩ = some (.int .u64 lt) := hbt.cell 0
                have hbl := hX.blk (g := bx) (T := 59) (cs := #[.int .i64 oo, .int .i64 orr, .int .i64 ok, .int .i64 oi, .int .i64 oz, .int .u64 ot, .int .i64 oc]) (by simp)
                have b5 : World.cell? w3 ⟨bx, 5, none⟩ = some (.int .u64 ot) := hbl.cell 5
                have hpx : pp ⟨lt, lr, lk, li, lw, lu⟩ = (lt == ot) := by rw [← HPP.out]
                by_cases h1 : lt = ot
                · have hpt : pp ⟨lt, lr, lk, li, lw, lu⟩ = true := by rw [hpx]; simpa using h1
                  have e2 : keepL pp (pre ++ [⟨lt, lr, lk, li, lw, lu⟩]) = keepL pp pre := by unfold keepL; rw [List.filter_append]; simp [hpt]
                  have E2 := Lib.hid e2
                  clear e2 hpx hpt
                  subst h1
                  go_wp2_with fail
                  exact ⟨⟨pre ++ [⟨lt, lr, lk, li, lw, lu⟩], post, by rw [HX.out]; simp, by simp, by rw [E2.out, HKK2.out]; exact hX.drop⟩, by simp [intOf]; omega⟩
                · have h1b : (lt == ot) = false := by simpa using h1
                  have e2 : keepL pp (pre ++ [⟨lt, lr, lk, li, lw, lu⟩]) = keepL pp pre ++ [⟨lt, lr, lk, li, lw, lu⟩] := by unfold keepL; rw [List.filter_append]; simp [hpx.trans h1b]
                  have E2 := Lib.hid e2
                  clear e2 hpx h1
                  have hH3 := hX.swap
                  clear hX
                  have hH2 := hH3.ext (by repeat first | exact Locs.nil | refine Locs.cons (mP_loc _ _) ?_ | refine Locs.cons (blkA_loc _ _ _) ?_ | refine Locs.cons (rowA_loc _ _ _ _ _) ?_ | refine Locs.cons (rrA_loc _ _ _ _) ?_) (ext_alloc w3 (.cells #[.int .u64 lt, .int .i64 lr, .int .i64 lk, .int .i64 li, .int .i64 lw, .int .i64 lu] 46))
                  have hnews : ∀ a, some (⟨w3.heap.size, 0, none⟩ : Addr) = some a → ∀ j u, ([.int .u64 lt, .int .i64 lr, .int .i64 lk, .int .i64 li, .int .i64 lw, .int .i64 lu] : List Value)[j]? = some u → (w3.alloc (.cells #[.int .u64 lt, .int .i64 lr, .int .i64 lk, .int .i64 li, .int .i64 lw, .int .i64 lu] 46)).cell? (a.add j) = some u := news_new w3 [.int .u64 lt, .int .i64 lr, .int .i64 lk, .int .i64 li, .int .i64 lw, .int .i64 lu] 46
                  have hone : ∀ u ∈ ([.int .u64 lt, .int .i64 lr, .int .i64 lk, .int .i64 li, .int .i64 lw, .int .i64 lu] : List Value), u.oneCell' = true := lsC_one ⟨lt, lr, lk, li, lw, lu⟩
                  obtain ⟨Fp, hFp⟩ := hH2.head
                  have hown := hFp.1
                  go_wp2_with (first | (refine wpList_load_row rfl _ _ rfl bt rfl _ #[.int .u64 lt, .int .i64 lr, .int .i64 lk, .int .i64 li, .int .i64 lw, .int .i64 lu] _ _ hbt Try.underlying46 rfl leaseInfo ?_) | (at_builtin; refine wpList_append_new rfl _ _ 38 rfl 46 i0 (.agg (lsA zeroL)) 6 48 Try.underlying38 hi0 hi1 hi2 hi3 rfl (by decide) _ _ _ rfl hown _ 1 1 [.int .u64 lt, .int .i64 lr, .int .i64 lk, .int .i64 li, .int .i64 lw, .int .i64 lu] rfl rfl (fun h => by cases h) hnews hone (by unfold maxLen; omega) (by omega) ?_))
                  intro v4 w4 hown4 hg4 hf4
                  have hH5 := hH2.next (by repeat first | exact Locs.nil | refine Locs.cons (mP_loc _ _) ?_ | refine Locs.cons (blkA_loc _ _ _) ?_ | refine Locs.cons (rowA_loc _ _ _ _ _) ?_ | refine Locs.cons (rrA_loc _ _ _ _) ?_) fun F hF => Next.mk (p' := rowA 46 6 v4 (kk + 1) (flatL (keepL pp pre) ++ [.int .u64 lt, .int .i64 lr, .int .i64 lk, .int .i64 li, .int .i64 lw, .int .i64 lu])) ⟨hown4, rfl⟩ (by rw [hF.2]; exact grownBy.tch hg4) (by rw [hF.2]; exact hf4.1)
                  clear hH2 hH3 hFp hown hown4 hg4 hf4 hnews hone hbt c0 hbl b5
                  go_wp2_with fail
                  refine ⟨⟨pre ++ [⟨lt, lr, lk, li, lw, lu⟩], post, by rw [HX.out]; simp, by simp, ?_⟩, by simp [intOf]; omega⟩
                  have hH6 := hH5.swap.drop
                  clear hH5
                  have e5 : flatL (keepL pp pre) ++ [.int .u64 lt, .int .i64 lr, .int .i64 lk, .int .i64 li, .int .i64 lw, .int .i64 lu] = flatL (keepL pp pre ++ [⟨lt, lr, lk, li, lw, lu⟩]) := by rw [flatL_append, flatL_one1]; rfl
                  have e6 : (keepL pp pre ++ [(⟨lt, lr, lk, li, lw, lu⟩ : Ls)]).length = kk + 1 := by rw [List.length_append, HKK2.out]; rfl
                  rw [e5] at hH6
                  rw [E2.out, e6]
                  exact hH6
          · rw [hk] at b0
            as_aux_lemma =>
              replace hX := hX.fourth
              obtain ⟨hout, -⟩ := hI.sim.expire hI.inv.one n2
              have HI2 := Lib.hid (hI.expire hnb.1)
              have hLb : (s.late n2).length ≤ 256 := by
                obtain ⟨F_, hF_⟩ := hX.head
                exact Nat.le_trans (List.length_filter_le _ _) (mP_ln hF_)
              go_wp2_with fail
              refine (hm_expire hX (by repeat first | exact Locs.nil | refine Locs.cons (mP_loc _ _) ?_ | refine Locs.cons (blkA_loc _ _ _) ?_ | refine Locs.cons (rowA_loc _ _ _ _ _) ?_ | refine Locs.cons (rrA_loc _ _ _ _) ?_) n2 hnb.1 (by omega) (fun k hk x hx => by have := hI.inv.since k (by omega) x hx; omega)).mono ?_
              clear hbl b0 b1 b2 b3 b4 b5 b6 hbw a0 a1 a2
              rintro e w4 ⟨v, rfl, hX⟩
              rw [hout] at hX hLb
              generalize s.expire n2 = s1 at *
              obtain ⟨out, ho⟩ : ∃ l, outL (leaves true 0 n2) ls = l := ⟨_, rfl⟩
              rw [ho] at hX hLb
              have HO := Lib.hid ho
              clear ho hout
              obtain ⟨F_, hF_⟩ := hX.head
              obtain ⟨pv, cv, rfl⟩ := ownsRow_slice hF_.1
              clear hF_
              obtain ⟨Lo, hLo⟩ : ∃ n, out.length = n := ⟨_, rfl⟩
              rw [hLo] at hX hLb ⊢
              have HLO := Lib.hid hLo
              clear hLo
              have hbl := hX.blk (g := bx) (T := 59) (cs := #[.int .i64 oo, .int .i64 orr, .int .i64 ok, .int .i64 oi, .int .i64 oz, .int .u64 ot, .int .i64 oc]) (by simp)
              have b0 : World.cell? w4 ⟨bx, 0, none⟩ = some (.int .i64 oo) := hbl.cell 0
              have b1 : World.cell? w4 ⟨bx, 1, none⟩ = some (.int .i64 orr) := hbl.cell 1
              have b2 : World.cell? w4 ⟨bx, 2, none⟩ = some (.int .i64 ok) := hbl.cell 2
              have b3 : World.cell? w4 ⟨bx, 3, none⟩ = some (.int .i64 oi) := hbl.cell 3
              have b4 : World.cell? w4 ⟨bx, 4, none⟩ = some (.int .i64 oz) := hbl.cell 4
              have b5 : World.cell? w4 ⟨bx, 5, none⟩ = some (.int .u64 ot) := hbl.cell 5
              have b6 : World.cell? w4 ⟨bx, 6, none⟩ = some (.int .i64 oc) := hbl.cell 6
              have hbw := hX.blk (g := wb) (T := 65) (cs := #[.slice pw M cw, .slice pl L cl, .int .u64 t]) (by simp)
              have a0 : World.cell? w4 ⟨wb, 0, none⟩ = some (.slice pw M cw) := hbw.cell 0
              have a1 : World.cell? w4 ⟨wb, 1, none⟩ = some (.slice pl L cl) := hbw.cell 1
              have a2 : World.cell? w4 ⟨wb, 2, none⟩ = some (.int .u64 t) := hbw.cell 2
              replace hX := hX.fourth
              go_wp2_with fail
              refine (rturn_any w4 (.slice pw M cw) (.slice pl L cl) t ws ls 0 n2 false hX.rr (by rw [HM.out]; omega) hI.since hnb.1 (by omega)).mono ?_
              clear hbl b0 b1 b2 b3 b4 b5 b6 hbw a0 a1 a2
              rintro e w5 ⟨vw', rfl, hR, hE, hV⟩
              obtain ⟨pu, cu, rfl⟩ := ownsRow_slice hR.w
              replace hX := hX.rrs (by repeat first | exact Locs.nil | refine Locs.cons (mP_loc _ _) ?_ | refine Locs.cons (blkA_loc _ _ _) ?_ | refine Locs.cons (rowA_loc _ _ _ _ _) ?_ | refine Locs.cons (rrA_loc _ _ _ _) ?_) hE hR hV .l
              clear hE hR hV
              generalize rturn 0 n2 false ws 64 = ws1 at *
              obtain ⟨N, hN⟩ : ∃ n, ws1.length = n := ⟨_, rfl⟩
              rw [hN] at hX ⊢
              clear hN
              have hbw := hX.blk (g := wb) (T := 65) (cs := #[.slice pw M cw, .slice pl L cl, .int .u64 t]) (by simp)
              replace hX := hX.fifth.row (cs := rwA (.slice pu N cu) (.slice pl L cl) t) (by repeat first | exact Locs.nil | refine Locs.cons (mP_loc _ _) ?_ | refine Locs.cons (blkA_loc _ _ _) ?_ | refine Locs.cons (rowA_loc _ _ _ _ _) ?_ | refine Locs.cons (rrA_loc _ _ _ _) ?_)
              go_upto_region 53 with (refine wpList_store_row rfl _ _ _ rfl wb (rwA (.slice pu N cu) (.slice pl L cl) t) rfl rfl _ _ hbw rwInfo rfl (rwA_all _ _ _ _ _ _ _) ?_)
              generalize World.setRow w5 _ _ = w6 at *
              clear hbw
              have hbw := hX.blk (g := wb) (T := 65) (cs := rwA (.slice pu N cu) (.slice pl L cl) t) (by simp)
              have a0 : World.cell? w6 ⟨wb, 0, none⟩ = some (.slice pu N cu) := hbw.cell 0
              have a1 : World.cell? w6 ⟨wb, 1, none⟩ = some (.slice pl L cl) := hbw.cell 1
              have a2 : World.cell? w6 ⟨wb, 2, none⟩ = some (.int .u64 t) := hbw.cell 2
              have hbl := hX.blk (g := bx) (T := 59) (cs := #[.int .i64 oo, .int .i64 orr, .int .i64 ok, .int .i64 oi, .int .i64 oz, .int .u64 ot, .int .i64 oc]) (by simp)
              have b0 : World.cell? w6 ⟨bx, 0, none⟩ = some (.int .i64 oo) := hbl.cell 0
              have b1 : World.cell? w6 ⟨bx, 1, none⟩ = some (.int .i64 orr) := hbl.cell 1
              have b2 : World.cell? w6 ⟨bx, 2, none⟩ = some (.int .i64 ok) := hbl.cell 2
              have b3 : World.cell? w6 ⟨bx, 3, none⟩ = some (.int .i64 oi) := hbl.cell 3
              have b4 : World.cell? w6 ⟨bx, 4, none⟩ = some (.int .i64 oz) := hbl.cell 4
              have b5 : World.cell? w6 ⟨bx, 5, none⟩ = some (.int .u64 ot) := hbl.cell 5
              have b6 : World.cell? w6 ⟨bx, 6, none⟩ = some (.int .i64 oc) := hbl.cell 6
              replace hX := hX.swap
              go_wp2_with fail
              refine (rleave_any w6 (.slice pu N cu) (.slice pl L cl) t ws1 ls true 0 n2 hX.rr (by rw [HL.out]; omega)).mono ?_
              clear hbl b0 b1 b2 b3 b4 b5 b6 hbw a0 a1 a2
              rintro e w7 ⟨vl', vo, rfl, hR, hown, hE, hV, hVo⟩
              rw [HO.out] at hown
              obtain ⟨pq, cq, rfl⟩ := ownsRow_slice hR.l
              obtain ⟨po2, co2, rfl⟩ := ownsRow_slice hown
              have hwlt := (hX.blk (g := wb) (T := 65) (cs := rwA (.slice pu N cu) (.slice pl L cl) t) (by simp)).lt
              replace hX := hX.rrs (by repeat first | exact Locs.nil | refine Locs.cons (mP_loc _ _) ?_ | refine Locs.cons (blkA_loc _ _ _) ?_ | refine Locs.cons (rowA_loc _ _ _ _ _) ?_ | refine Locs.cons (rrA_loc _ _ _ _) ?_) hE hR .w (.new hV)
              clear hE hR hV
              generalize keepL (leaves true 0 n2) ls = ls1 at *
              obtain ⟨R, hR⟩ : ∃ n, ls1.length = n := ⟨_, rfl⟩
              rw [hR] at hX ⊢
              rw [HLO.out] at hown hVo ⊢
              clear hR
              have hbw := hX.blk (g := wb) (T := 65) (cs := rwA (.slice pu N cu) (.slice pl L cl) t) (by simp)
              replace hX := hX.swap.row (cs := rwA (.slice pu N cu) (.slice pq R cq) t) (by repeat first | exact Locs.nil | refine Locs.cons (mP_loc _ _) ?_ | refine Locs.cons (blkA_loc _ _ _) ?_ | refine Locs.cons (rowA_loc _ _ _ _ _) ?_ | refine Locs.cons (rrA_loc _ _ _ _) ?_)
              replace hown : World.ownsRow (World.setRow w7 wb (rwA (.slice pu N cu) (.slice pq R cq) t)) 0 46 6 (.slice po2 Lo co2) Lo (flatL out) := ownsRow_same hown (fun g hg => setRow_other _ _ _ _ (by have := (hVo g hg).1; omega))
              clear hVo hwlt
              go_upto_region 54 with (refine wpList_store_row rfl _ _ _ rfl wb (rwA (.slice pu N cu) (.slice pq R cq) t) rfl rfl _ _ hbw rwInfo rfl (rwA_all _ _ _ _ _ _ _) ?_)
              generalize World.setRow w7 _ _ = w8 at *
              clear hbw
              have how := (hX.owned (e := 46) (size := 6) (v := .slice pv Lo cv) (n := Lo) (xs := flatL out) (by simp)).1
              go_wp2_with fail
              refine (same_any w8 (.slice pv Lo cv) (.slice po2 Lo co2) out out (by rw [HLO.out]; exact how) (by rw [HLO.out]; exact hown) (by rw [HLO.out]; omega) (by rw [HLO.out]; omega)).mono ?_
              rintro e w9 ⟨rfl, hE⟩
              rw [show decide (out = out) = true by simp]
              replace hX := hX.ext (by repeat first | exact Locs.nil | refine Locs.cons (mP_loc _ _) ?_ | refine Locs.cons (blkA_loc _ _ _) ?_ | refine Locs.cons (rowA_loc _ _ _ _ _) ?_ | refine Locs.cons (rrA_loc _ _ _ _) ?_) hE
              clear hE how hown
              go_wp2_with fail
              go_meet
              exact ⟨_, _, _, _, _, _, HI2.out, hX.third.drop.back4⟩
          · rw [hk] at b0
            as_aux_lemma =>
              replace hX := hX.fourth
              have hLb : (s.lost oz).length ≤ 256 := by
                obtain ⟨F_, hF_⟩ := hX.head
                exact Nat.le_trans (lost_le s oz) (mP_ln hF_)
              go_wp2_with fail
              refine (hm_lose hX (by repeat first | exact Locs.nil | refine Locs.cons (mP_loc _ _) ?_ | refine Locs.cons (blkA_loc _ _ _) ?_ | refine Locs.cons (rowA_loc _ _ _ _ _) ?_ | refine Locs.cons (rrA_loc _ _ _ _) ?_) oz n2 (by omega) (by omega)).mono ?_
              clear hbl b0 b1 b2 b3 b4 b5 b6 hbw a0 a1 a2
              rintro e w4 ⟨v, rfl, hX⟩
              by_cases hz : oz < 1 ∨ 64 < oz
              · obtain ⟨h1, h2⟩ := lose_out (s := s) (now := n2) hz
                rw [h1, h2] at hX
                clear h1 h2
                obtain ⟨F_, hF_⟩ := hX.head
                obtain ⟨pv, cv, rfl⟩ := ownsRow_slice hF_.1
                clear hF_
                replace hX : Has w w4 [rowA 46 6 (.slice pv 0 cv) 0 (flatL []), mP mb s, blkA bx 59 #[.int .i64 oo, .int .i64 orr, .int .i64 ok, .int .i64 oi, .int .i64 oz, .int .u64 ot, .int .i64 oc], rrA (.slice pw M cw) ws (.slice pl L cl) ls, blkA wb 65 #[.slice pw M cw, .slice pl L cl, .int .u64 t]] := hX
                have how := (hX.owned (e := 46) (size := 6) (v := .slice pv 0 cv) (n := 0) (xs := flatL []) (by simp)).1
                have hbl := hX.blk (g := bx) (T := 59) (cs := #[.int .i64 oo, .int .i64 orr, .int .i64 ok, .int .i64 oi, .int .i64 oz, .int .u64 ot, .int .i64 oc]) (by simp)
                have b0 : World.cell? w4 ⟨bx, 0, none⟩ = some (.int .i64 oo) := hbl.cell 0
                have b1 : World.cell? w4 ⟨bx, 1, none⟩ = some (.int .i64 orr) := hbl.cell 1
                have b2 : World.cell? w4 ⟨bx, 2, none⟩ = some (.int .i64 ok) := hbl.cell 2
                have b3 : World.cell? w4 ⟨bx, 3, none⟩ = some (.int .i64 oi) := hbl.cell 3
                have b4 : World.cell? w4 ⟨bx, 4, none⟩ = some (.int .i64 oz) := hbl.cell 4
                have b5 : World.cell? w4 ⟨bx, 5, none⟩ = some (.int .u64 ot) := hbl.cell 5
                have b6 : World.cell? w4 ⟨bx, 6, none⟩ = some (.int .i64 oc) := hbl.cell 6
                rcases hz with hz | hz
                all_goals
                  go_upto_region 62 with fail
                  go_wp2_with fail
                  refine (same_any w4 (.slice pv 0 cv) (.slice none 0 0) [] [] how (World.ownsRow_nil _ _ _ _) (by simp) (by simp)).mono ?_
                  rintro e w9 ⟨rfl, hE⟩
                  rw [show decide (([] : List Ls) = []) = true by simp]
                  have hX9 := hX.drop.ext (by repeat first | exact Locs.nil | refine Locs.cons (mP_loc _ _) ?_ | refine Locs.cons (blkA_loc _ _ _) ?_ | refine Locs.cons (rowA_loc _ _ _ _ _) ?_ | refine Locs.cons (rrA_loc _ _ _ _) ?_) hE
                  clear hE
                  go_wp2_with fail
                  go_meet
                  exact ⟨_, _, _, _, _, _, hI.up, hX9.rot4⟩
              · have hz1 : 1 ≤ oz := by omega
                have hz2 : oz ≤ 64 := by omega
                obtain ⟨hout, -⟩ := hI.sim.lose hI.inv.one hz1 hz2 n2
                have HI2 := Lib.hid (hI.lose hz1 hz2 hnb.1)
                rw [hout] at hX hLb
                generalize s.lose oz n2 = s1 at *
                clear hz
                obtain ⟨out, ho⟩ : ∃ l, outL (leaves false oz n2) ls = l := ⟨_, rfl⟩
                rw [ho] at hX hLb
                have HO := Lib.hid ho
                clear ho hout
                obtain ⟨F_, hF_⟩ := hX.head
                obtain ⟨pv, cv, rfl⟩ := ownsRow_slice hF_.1
                clear hF_
                obtain ⟨Lo, hLo⟩ : ∃ n, out.length = n := ⟨_, rfl⟩
                rw [hLo] at hX hLb ⊢
                have HLO := Lib.hid hLo
                clear hLo
                have hbl := hX.blk (g := bx) (T := 59) (cs := #[.int .i64 oo, .int .i64 orr, .int .i64 ok, .int .i64 oi, .int .i64 oz, .int .u64 ot, .int .i64 oc]) (by simp)
                have b0 : World.cell? w4 ⟨bx, 0, none⟩ = some (.int .i64 oo) := hbl.cell 0
                have b1 : World.cell? w4 ⟨bx, 1, none⟩ = some (.int .i64 orr) := hbl.cell 1
                have b2 : World.cell? w4 ⟨bx, 2, none⟩ = some (.int .i64 ok) := hbl.cell 2
                have b3 : World.cell? w4 ⟨bx, 3, none⟩ = some (.int .i64 oi) := hbl.cell 3
                have b4 : World.cell? w4 ⟨bx, 4, none⟩ = some (.int .i64 oz) := hbl.cell 4
                have b5 : World.cell? w4 ⟨bx, 5, none⟩ = some (.int .u64 ot) := hbl.cell 5
                have b6 : World.cell? w4 ⟨bx, 6, none⟩ = some (.int .i64 oc) := hbl.cell 6
                have hbw := hX.blk (g := wb) (T := 65) (cs := #[.slice pw M cw, .slice pl L cl, .int .u64 t]) (by simp)
                have a0 : World.cell? w4 ⟨wb, 0, none⟩ = some (.slice pw M cw) := hbw.cell 0
                have a1 : World.cell? w4 ⟨wb, 1, none⟩ = some (.slice pl L cl) := hbw.cell 1
                have a2 : World.cell? w4 ⟨wb, 2, none⟩ = some (.int .u64 t) := hbw.cell 2
                replace hX := hX.fourth
                go_wp2_with fail
                refine (rturn_any w4 (.slice pw M cw) (.slice pl L cl) t ws ls oz n2 true hX.rr (by rw [HM.out]; omega) hI.since hnb.1 (by omega)).mono ?_
                clear hbl b0 b1 b2 b3 b4 b5 b6 hbw a0 a1 a2
                rintro e w5 ⟨vw', rfl, hR, hE, hV⟩
                obtain ⟨pu, cu, rfl⟩ := ownsRow_slice hR.w
                replace hX := hX.rrs (by repeat first | exact Locs.nil | refine Locs.cons (mP_loc _ _) ?_ | refine Locs.cons (blkA_loc _ _ _) ?_ | refine Locs.cons (rowA_loc _ _ _ _ _) ?_ | refine Locs.cons (rrA_loc _ _ _ _) ?_) hE hR hV .l
                clear hE hR hV
                generalize rturn oz n2 true ws 64 = ws1 at *
                obtain ⟨N, hN⟩ : ∃ n, ws1.length = n := ⟨_, rfl⟩
                rw [hN] at hX ⊢
                clear hN
                have hbw := hX.blk (g := wb) (T := 65) (cs := #[.slice pw M cw, .slice pl L cl, .int .u64 t]) (by simp)
                replace hX := hX.fifth.row (cs := rwA (.slice pu N cu) (.slice pl L cl) t) (by repeat first | exact Locs.nil | refine Locs.cons (mP_loc _ _) ?_ | refine Locs.cons (blkA_loc _ _ _) ?_ | refine Locs.cons (rowA_loc _ _ _ _ _) ?_ | refine Locs.cons (rrA_loc _ _ _ _) ?_)
                go_upto_region 61 with (refine wpList_store_row rfl _ _ _ rfl wb (rwA (.slice pu N cu) (.slice pl L cl) t) rfl rfl _ _ hbw rwInfo rfl (rwA_all _ _ _ _ _ _ _) ?_)
                generalize World.setRow w5 _ _ = w6 at *
                clear hbw
                have hbw := hX.blk (g := wb) (T := 65) (cs := rwA (.slice pu N cu) (.slice pl L cl) t) (by simp)
                have a0 : World.cell? w6 ⟨wb, 0, none⟩ = some (.slice pu N cu) := hbw.cell 0
                have a1 : World.cell? w6 ⟨wb, 1, none⟩ = some (.slice pl L cl) := hbw.cell 1
                have a2 : World.cell? w6 ⟨wb, 2, none⟩ = some (.int .u64 t) := hbw.cell 2
                have hbl := hX.blk (g := bx) (T := 59) (cs := #[.int .i64 oo, .int .i64 orr, .int .i64 ok, .int .i64 oi, .int .i64 oz, .int .u64 ot, .int .i64 oc]) (by simp)
                have b0 : World.cell? w6 ⟨bx, 0, none⟩ = some (.int .i64 oo) := hbl.cell 0
                have b1 : World.cell? w6 ⟨bx, 1, none⟩ = some (.int .i64 orr) := hbl.cell 1
                have b2 : World.cell? w6 ⟨bx, 2, none⟩ = some (.int .i64 ok) := hbl.cell 2
                have b3 : World.cell? w6 ⟨bx, 3, none⟩ = some (.int .i64 oi) := hbl.cell 3
                have b4 : World.cell? w6 ⟨bx, 4, none⟩ = some (.int .i64 oz) := hbl.cell 4
                have b5 : World.cell? w6 ⟨bx, 5, none⟩ = some (.int .u64 ot) := hbl.cell 5
                have b6 : World.cell? w6 ⟨bx, 6, none⟩ = some (.int .i64 oc) := hbl.cell 6
                replace hX := hX.swap
                go_wp2_with fail
                refine (rleave_any w6 (.slice pu N cu) (.slice pl L cl) t ws1 ls false oz n2 hX.rr (by rw [HL.out]; omega)).mono ?_
                clear hbl b0 b1 b2 b3 b4 b5 b6 hbw a0 a1 a2
                rintro e w7 ⟨vl', vo, rfl, hR, hown, hE, hV, hVo⟩
                rw [HO.out] at hown
                obtain ⟨pq, cq, rfl⟩ := ownsRow_slice hR.l
                obtain ⟨po2, co2, rfl⟩ := ownsRow_slice hown
                have hwlt := (hX.blk (g := wb) (T := 65) (cs := rwA (.slice pu N cu) (.slice pl L cl) t) (by simp)).lt
                replace hX := hX.rrs (by repeat first | exact Locs.nil | refine Locs.cons (mP_loc _ _) ?_ | refine Locs.cons (blkA_loc _ _ _) ?_ | refine Locs.cons (rowA_loc _ _ _ _ _) ?_ | refine Locs.cons (rrA_loc _ _ _ _) ?_) hE hR .w (.new hV)
                clear hE hR hV
                generalize keepL (leaves false oz n2) ls = ls1 at *
                obtain ⟨R, hR⟩ : ∃ n, ls1.length = n := ⟨_, rfl⟩
                rw [hR] at hX ⊢
                rw [HLO.out] at hown hVo ⊢
                clear hR
                have hbw := hX.blk (g := wb) (T := 65) (cs := rwA (.slice pu N cu) (.slice pl L cl) t) (by simp)
                replace hX := hX.swap.row (cs := rwA (.slice pu N cu) (.slice pq R cq) t) (by repeat first | exact Locs.nil | refine Locs.cons (mP_loc _ _) ?_ | refine Locs.cons (blkA_loc _ _ _) ?_ | refine Locs.cons (rowA_loc _ _ _ _ _) ?_ | refine Locs.cons (rrA_loc _ _ _ _) ?_)
                replace hown : World.ownsRow (World.setRow w7 wb (rwA (.slice pu N cu) (.slice pq R cq) t)) 0 46 6 (.slice po2 Lo co2) Lo (flatL out) := ownsRow_same hown (fun g hg => setRow_other _ _ _ _ (by have := (hVo g hg).1; omega))
                clear hVo hwlt
                go_upto_region 62 with (refine wpList_store_row rfl _ _ _ rfl wb (rwA (.slice pu N cu) (.slice pq R cq) t) rfl rfl _ _ hbw rwInfo rfl (rwA_all _ _ _ _ _ _ _) ?_)
                generalize World.setRow w7 _ _ = w8 at *
                clear hbw
                have how := (hX.owned (e := 46) (size := 6) (v := .slice pv Lo cv) (n := Lo) (xs := flatL out) (by simp)).1
                go_wp2_with fail
                refine (same_any w8 (.slice pv Lo cv) (.slice po2 Lo co2) out out (by rw [HLO.out]; exact how) (by rw [HLO.out]; exact hown) (by rw [HLO.out]; omega) (by rw [HLO.out]; omega)).mono ?_
                rintro e w9 ⟨rfl, hE⟩
                rw [show decide (out = out) = true by simp]
                replace hX := hX.ext (by repeat first | exact Locs.nil | refine Locs.cons (mP_loc _ _) ?_ | refine Locs.cons (blkA_loc _ _ _) ?_ | refine Locs.cons (rowA_loc _ _ _ _ _) ?_ | refine Locs.cons (rrA_loc _ _ _ _) ?_) hE
                clear hE how hown
                go_wp2_with fail
                go_meet
                exact ⟨_, _, _, _, _, _, HI2.out, hX.third.drop.back4⟩
          · rw [hk] at b0
            as_aux_lemma =>
              have hcn := (hI.sim.drop orr ok oi).2
              have HI2 := Lib.hid (hI.drop orr ok oi hnb.1)
              replace hX := hX.swap
              go_wp2_with fail
              refine (rcut_any wc (.slice pw M cw) (.slice pl L cl) t ws ls orr ok oi true hX.rr (by rw [HM.out]; omega) (by rw [HL.out]; omega)).mono ?_
              clear hbl b0 b1 b2 b3 b4 b5 b6 hbw a0 a1 a2
              rintro e w5 ⟨vw', vl', rfl, hR, hE, hV, hV2⟩
              obtain ⟨dn, hdn⟩ : ∃ d, (ws.length : Int) - (rcutW orr ok oi true ws).length + ls.length - (rcutL orr ok oi true ls).length = d := ⟨_, rfl⟩
              rw [hdn] at hcn ⊢
              obtain ⟨pv, cv, rfl⟩ := ownsRow_slice hR.w
              obtain ⟨pu, cu, rfl⟩ := ownsRow_slice hR.l
              replace hX := hX.rrs (by repeat first | exact Locs.nil | refine Locs.cons (mP_loc _ _) ?_ | refine Locs.cons (blkA_loc _ _ _) ?_ | refine Locs.cons (rowA_loc _ _ _ _ _) ?_ | refine Locs.cons (rrA_loc _ _ _ _) ?_) hE hR (.new hV) (.new hV2)
              clear hE hR hV hV2 hdn
              have HCN := Lib.hid hcn
              clear hcn
              generalize rcutW orr ok oi true ws = ws1 at *
              generalize rcutL orr ok oi true ls = ls1 at *
              obtain ⟨N, hN⟩ : ∃ n, ws1.length = n := ⟨_, rfl⟩
              obtain ⟨R, hR⟩ : ∃ n, ls1.length = n := ⟨_, rfl⟩
              rw [hN, hR] at hX ⊢
              clear hN hR
              have hbw := hX.blk (g := wb) (T := 65) (cs := #[.slice pw M cw, .slice pl L cl, .int .u64 t]) (by simp)
              replace hX := hX.third.row (cs := rwA (.slice pv N cv) (.slice pu R cu) t) (by repeat first | exact Locs.nil | refine Locs.cons (mP_loc _ _) ?_ | refine Locs.cons (blkA_loc _ _ _) ?_ | refine Locs.cons (rowA_loc _ _ _ _ _) ?_ | refine Locs.cons (rrA_loc _ _ _ _) ?_)
              go_upto_region 68 with (refine wpList_store_row rfl _ _ _ rfl wb (rwA (.slice pv N cv) (.slice pu R cu) t) rfl rfl _ _ hbw rwInfo rfl (rwA_all _ _ _ _ _ _ _) ?_)
              generalize World.setRow w5 _ _ = w6 at *
              clear hbw
              replace hX := hX.fourth
              have hbl := hX.blk (g := bx) (T := 59) (cs := #[.int .i64 oo, .int .i64 orr, .int .i64 ok, .int .i64 oi, .int .i64 oz, .int .u64 ot, .int .i64 oc]) (by simp)
              have b0 : World.cell? w6 ⟨bx, 0, none⟩ = some (.int .i64 oo) := hbl.cell 0
              have b1 : World.cell? w6 ⟨bx, 1, none⟩ = some (.int .i64 orr) := hbl.cell 1
              have b2 : World.cell? w6 ⟨bx, 2, none⟩ = some (.int .i64 ok) := hbl.cell 2
              have b3 : World.cell? w6 ⟨bx, 3, none⟩ = some (.int .i64 oi) := hbl.cell 3
              have b4 : World.cell? w6 ⟨bx, 4, none⟩ = some (.int .i64 oz) := hbl.cell 4
              have b5 : World.cell? w6 ⟨bx, 5, none⟩ = some (.int .u64 ot) := hbl.cell 5
              have b6 : World.cell? w6 ⟨bx, 6, none⟩ = some (.int .i64 oc) := hbl.cell 6
              rw [hk] at b0
              go_wp2_with fail
              refine (hm_drop hX (by repeat first | exact Locs.nil | refine Locs.cons (mP_loc _ _) ?_ | refine Locs.cons (blkA_loc _ _ _) ?_ | refine Locs.cons (rowA_loc _ _ _ _ _) ?_ | refine Locs.cons (rrA_loc _ _ _ _) ?_) orr).mono ?_
              clear hbl b0 b1 b2 b3 b4 b5 b6
              rintro e w7 ⟨rfl, hX⟩
              rw [HCN.out]
              clear HCN
              have hbl := hX.blk (g := bx) (T := 59) (cs := #[.int .i64 oo, .int .i64 orr, .int .i64 ok, .int .i64 oi, .int .i64 oz, .int .u64 ot, .int .i64 oc]) (by simp)
              have b0 : World.cell? w7 ⟨bx, 0, none⟩ = some (.int .i64 oo) := hbl.cell 0
              rw [hk] at b0
              go_wp2_with fail
              skip
              go_meet
              exact ⟨_, _, _, _, _, _, HI2.out, hX.back5⟩
          · rw [hk] at b0
            as_aux_lemma =>
              have hcn := (hI.sim.cancel hI.inv orr ok oi).2
              have HI2 := Lib.hid (hI.cancel orr ok oi hnb.1)
              replace hX := hX.swap
              go_wp2_with fail
              refine (rcut_any wc (.slice pw M cw) (.slice pl L cl) t ws ls orr ok oi false hX.rr (by rw [HM.out]; omega) (by rw [HL.out]; omega)).mono ?_
              clear hbl b0 b1 b2 b3 b4 b5 b6 hbw a0 a1 a2
              rintro e w5 ⟨vw', vl', rfl, hR, hE, hV, hV2⟩
              obtain ⟨dn, hdn⟩ : ∃ d, (ws.length : Int) - (rcutW orr ok oi false ws).length + ls.length - (rcutL orr ok oi false ls).length = d := ⟨_, rfl⟩
              rw [hdn] at hcn ⊢
              obtain ⟨pv, cv, rfl⟩ := ownsRow_slice hR.w
              obtain ⟨pu, cu, rfl⟩ := ownsRow_slice hR.l
              replace hX := hX.rrs (by repeat first | exact Locs.nil | refine Locs.cons (mP_loc _ _) ?_ | refine Locs.cons (blkA_loc _ _ _) ?_ | refine Locs.cons (rowA_loc _ _ _ _ _) ?_ | refine Locs.cons (rrA_loc _ _ _ _) ?_) hE hR (.new hV) (.new hV2)
              clear hE hR hV hV2 hdn
              have HCN := Lib.hid hcn
              clear hcn
              generalize rcutW orr ok oi false ws = ws1 at *
              generalize rcutL orr ok oi false ls = ls1 at *
              obtain ⟨N, hN⟩ : ∃ n, ws1.length = n := ⟨_, rfl⟩
              obtain ⟨R, hR⟩ : ∃ n, ls1.length = n := ⟨_, rfl⟩
              rw [hN, hR] at hX ⊢
              clear hN hR
              have hbw := hX.blk (g := wb) (T := 65) (cs := #[.slice pw M cw, .slice pl L cl, .int .u64 t]) (by simp)
              replace hX := hX.third.row (cs := rwA (.slice pv N cv) (.slice pu R cu) t) (by repeat first | exact Locs.nil | refine Locs.cons (mP_loc _ _) ?_ | refine Locs.cons (blkA_loc _ _ _) ?_ | refine Locs.cons (rowA_loc _ _ _ _ _) ?_ | refine Locs.cons (rrA_loc _ _ _ _) ?_)
              go_upto_region 68 with (refine wpList_store_row rfl _ _ _ rfl wb (rwA (.slice pv N cv) (.slice pu R cu) t) rfl rfl _ _ hbw rwInfo rfl (rwA_all _ _ _ _ _ _ _) ?_)
              generalize World.setRow w5 _ _ = w6 at *
              clear hbw
              replace hX := hX.fourth
              have hbl := hX.blk (g := bx) (T := 59) (cs := #[.int .i64 oo, .int .i64 orr, .int .i64 ok, .int .i64 oi, .int .i64 oz, .int .u64 ot, .int .i64 oc]) (by simp)
              have b0 : World.cell? w6 ⟨bx, 0, none⟩ = some (.int .i64 oo) := hbl.cell 0
              have b1 : World.cell? w6 ⟨bx, 1, none⟩ = some (.int .i64 orr) := hbl.cell 1
              have b2 : World.cell? w6 ⟨bx, 2, none⟩ = some (.int .i64 ok) := hbl.cell 2
              have b3 : World.cell? w6 ⟨bx, 3, none⟩ = some (.int .i64 oi) := hbl.cell 3
              have b4 : World.cell? w6 ⟨bx, 4, none⟩ = some (.int .i64 oz) := hbl.cell 4
              have b5 : World.cell? w6 ⟨bx, 5, none⟩ = some (.int .u64 ot) := hbl.cell 5
              have b6 : World.cell? w6 ⟨bx, 6, none⟩ = some (.int .i64 oc) := hbl.cell 6
              rw [hk] at b0
              go_wp2_with fail
              refine (hm_cancel hX (by repeat first | exact Locs.nil | refine Locs.cons (mP_loc _ _) ?_ | refine Locs.cons (blkA_loc _ _ _) ?_ | refine Locs.cons (rowA_loc _ _ _ _ _) ?_ | refine Locs.cons (rrA_loc _ _ _ _) ?_) orr ok oi hok1).mono ?_
              clear hbl b0 b1 b2 b3 b4 b5 b6
              rintro e w7 ⟨rfl, hX⟩
              rw [HCN.out]
              clear HCN
              have hbl := hX.blk (g := bx) (T := 59) (cs := #[.int .i64 oo, .int .i64 orr, .int .i64 ok, .int .i64 oi, .int .i64 oz, .int .u64 ot, .int .i64 oc]) (by simp)
              have b0 : World.cell? w7 ⟨bx, 0, none⟩ = some (.int .i64 oo) := hbl.cell 0
              rw [hk] at b0
              go_wp2_with fail
              skip
              go_meet
              exact ⟨_, _, _, _, _, _, HI2.out, hX.back5⟩
          · as_aux_lemma =>
              obtain ⟨h0, h1, h2, h3, h4, h5, h6, h7⟩ := hk
              have e0 : (oo == 0) = false := by simpa using h0
              have e1 : (oo == 1) = false := by simpa using h1
              have e2 : (oo == 2) = false := by simpa using h2
              have e3 : (oo == 3) = false := by simpa using h3
              have e4 : (oo == 4) = false := by simpa using h4
              have e5 : (oo == 5) = false := by simpa using h5
              have e6 : (oo == 6) = false := by simpa using h6
              have e7 : (oo == 7) = false := by simpa using h7
              go_wp2_with fail
              go_meet
              exact ⟨s, ws, ls, t, _, _, hI.up, hX⟩
        case rest =>
          as_aux_lemma =>
            obtain ⟨s1, ws1, ls1, t1, vw1, vl1, hI1, hX⟩ := hcut
            have hok1 := hok.key
            have hlb : ls1.length ≤ 900 := by
              obtain ⟨F_, hF_⟩ := hX.match_ (m := mb) (s := s1) (by simp)
              have := mP_ln hF_
              rw [hI1.sim.ls] at this; omega
            have hlw : ws1.length ≤ 900 := by have := hI1.len; omega
            replace hX := hX.swap
            obtain ⟨pw, cw, hpw⟩ := ownsRow_slice hX.rr.w
            obtain ⟨pl, cl, hpl⟩ := ownsRow_slice hX.rr.l
            obtain ⟨M, hM⟩ : ∃ n, ws1.length = n := ⟨_, rfl⟩
            obtain ⟨L, hL⟩ : ∃ n, ls1.length = n := ⟨_, rfl⟩
            rw [hM] at hpw
            rw [hL] at hpl
            subst hpw hpl
            have HM := Lib.hid hM
            have HL := Lib.hid hL
            clear hM hL
            have hR := hX.rr
            obtain ⟨Fm, hFm⟩ := hX.match_ (m := mb) (s := s1) (by simp)
            go_upto_region 70 with fail
            have hbw := hX.blk (g := wb) (T := 65) (cs := #[.slice pw M cw, .slice pl L cl, .int .u64 t1]) (by simp)
            have hbl := hX.blk (g := bx) (T := 59) (cs := #[.int .i64 oo, .int .i64 orr, .int .i64 ok, .int .i64 oi, .int .i64 oz, .int .u64 ot, .int .i64 oc]) (by simp)
            have d0 : ∀ x : Of (fun X => Ext wc X), x.val.cell? ⟨wb, 0, none⟩ = some (.slice pw M cw) := fun x => (x.property.cell _ _ hbw.lt).trans (hbw.cell 0)
            have d1 : ∀ x : Of (fun X => Ext wc X), x.val.cell? ⟨wb, 1, none⟩ = some (.slice pl L cl) := fun x => (x.property.cell _ _ hbw.lt).trans (hbw.cell 1)
            have d2 : ∀ x : Of (fun X => Ext wc X), x.val.cell? ⟨wb, 2, none⟩ = some (.int .u64 t1) := fun x => (x.property.cell _ _ hbw.lt).trans (hbw.cell 2)
            have d3 : ∀ x : Of (fun X => Ext wc X), x.val.cell? ⟨bx, 1, none⟩ = some (.int .i64 orr) := fun x => (x.property.cell _ _ hbl.lt).trans (hbl.cell 1)
            have d4 : ∀ x : Of (fun X => Ext wc X), x.val.cell? ⟨bx, 2, none⟩ = some (.int .i64 ok) := fun x => (x.property.cell _ _ hbl.lt).trans (hbl.cell 2)
            have d5 : ∀ x : Of (fun X => Ext wc X), x.val.cell? ⟨bx, 3, none⟩ = some (.int .i64 oi) := fun x => (x.property.cell _ _ hbl.lt).trans (hbl.cell 3)
            clear hbl hbw
            have hFd := (Ext.refl wc).drew
            have hne_ : Nonempty (Of ((fun X => Ext wc X))) := ⟨⟨_, hFd⟩⟩
            refine region_steps [0,1,2,3,4,5,7,8,9,6,10,11,12] [true,false,true,true,true,true,true,true,true,false,false,true,true] ((fun X => Ext wc X)) (by kernel_rfl) (by kernel_rfl) hFd ?_
            simp only [List.filterMap_cons, List.filterMap_nil, List.getElem?_cons_zero, List.getElem?_cons_succ]
            refine steps_quiet 1 (by kernel_rfl) ?_
            simp only [List.take_succ_cons, List.take_zero, List.drop_succ_cons, List.drop_zero]
            repeat (go_big_quiet_step (fail))
            refine wpQuiet_nil ?_
            refine steps_want rfl (fun K hK => ?_)
            go_simp
            refine (like_any wc.drew mb s1 Fm (.slice pw M cw) (.slice pl L cl) t1 ws1 ls1 ((mP_loc mb s1).ext hFm (Ext.refl wc).drew) (hR.ext (Ext.refl wc).drew) hI1.sim hI1.inv.one hI1.ok hlw hlb).mono ?_
            rintro e w2 ⟨rfl, hE2⟩
            replace hE2 : Ext wc w2 := (Ext.refl wc).drew.trans hE2
            refine hK _ _ (fun X => Ext wc X) hE2 (fun _ h => h) ?_
            clear hK K
            try simp only [Act.put, List.setIfInBounds_toArray, List.set_cons_succ, List.set_cons_zero]
            refine steps_quiet 7 (by kernel_rfl) ?_
            simp only [List.take_succ_cons, List.take_zero, List.drop_succ_cons, List.drop_zero]
            repeat (go_big_quiet_step (fail))
            refine wpQuiet_nil ?_
            refine steps_want rfl (fun K hK => ?_)
            go_simp
            refine (known_any w2 mb s1 Fm orr ok oi ((mP_loc mb s1).ext hFm hE2) hok1).mono ?_
            rintro e w3 ⟨rfl, hE3⟩
            replace hE3 : Ext wc w3 := hE2.trans hE3
            rw [hI1.sim.known]
            refine hK _ _ (fun X => Ext wc X) hE3 (fun _ h => h) ?_
            clear hK K hE2
            try simp only [Act.put, List.setIfInBounds_toArray, List.set_cons_succ, List.set_cons_zero]
            refine steps_want rfl (fun K hK => ?_)
            go_simp
            refine (rknown_any w3 (.slice pw M cw) (.slice pl L cl) t1 ws1 ls1 orr ok oi (hR.ext hE3) (by omega) (by omega)).mono ?_
            rintro e w4 ⟨rfl, hE4⟩
            replace hE4 : Ext wc w4 := hE3.trans hE4
            refine hK _ _ (fun X => Ext wc X) hE4 (fun _ h => h) ?_
            clear hK K hE3
            try simp only [Act.put, List.setIfInBounds_toArray, List.set_cons_succ, List.set_cons_zero]
            refine steps_quiet 2 (by kernel_rfl) ?_
            simp only [List.take_succ_cons, List.take_zero, List.drop_succ_cons, List.drop_zero]
            repeat (go_big_quiet_step (fail))
            refine wpQuiet_nil ?_
            refine steps_nil ?_
            try simp only [Act.put]
            clear d0 d1 d2 d3 d4 d5 hFd
            replace hX := (hX.swap.drop).ext (by repeat first | exact Locs.nil | refine Locs.cons (mP_loc _ _) ?_ | refine Locs.cons (blkA_loc _ _ _) ?_ | refine Locs.cons (rowA_loc _ _ _ _ _) ?_ | refine Locs.cons (rrA_loc _ _ _ _) ?_) hE4
            go_wp2_with fail
            exact ⟨⟨i + 1, s1, ws1, ls1, t1, n2, _, _, by omega, by go_num, rfl, hnb.1, by have := hnb.2; omega, hI1, hX⟩, by simp [intOf]; omega⟩
    · go_wp2_with fail
      go_ret
      exact ⟨rfl, hH.base⟩
end Go.Proofs.Ytfbolgdecdfnaaa
