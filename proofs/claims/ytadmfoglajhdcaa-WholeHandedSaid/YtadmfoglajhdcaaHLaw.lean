/- The walk of WholeHanded. -/
import Derived.Test.YtadmfoglajhdcaaHFin
import Derived.Test.YtadmfoglajhdcaaOpenR
import Derived.Deep.LoopGhost
namespace Go.Proofs.Ytadmfoglajhdcaa
set_option maxRecDepth 4000
set_option linter.unusedVariables false
set_option linter.unusedSimpArgs false
open Go Go.RowKit Go.Maps Go.ChangeMaps Go.MapKept
/-! ### a queue of the law's own -/
def qA (q : Nat) (xs : List It) : Asr := fun W F' => ∃ F, QP W q 0 xs F ∧ F' = fun k => k = q ∨ F k
theorem qA_loc (q : Nat) (xs : List It) : Loc (qA q xs) :=
  ⟨fun h hk => by
    obtain ⟨F, h1, rfl⟩ := h
    exact ⟨F, h1.keep (hk q (Or.inl rfl)) fun b hb => hk b (Or.inr hb), rfl⟩, fun h hk => by
    obtain ⟨F, h1, rfl⟩ := h
    rcases hk with rfl | hk
    · exact h1.q_lt
    · exact h1.lt hk⟩
theorem hq_new {w W : World} {ps : List Asr} (h : Has w W ps) (hl : Locs ps) : Has w (W.alloc (.cells #[.pointer none, .pointer none, .map none] 37)) (qA W.heap.size [] :: ps) :=
  h.add hl (ext_alloc W _) (F := fun k => k = W.heap.size) ⟨fun _ => False, QP.new (Blk.new W 37 _) (by decide) rfl rfl rfl, by funext k; simp⟩ (fun k hk => by omega)
theorem hq_add {w W : World} {q : Nat} {xs : List It} {ps : List Asr} (h : Has w W (qA q xs :: ps)) (hl : Locs ps) (r k i s : Int) (hok : It.Ok ⟨r, k, i, s⟩) :
    Calls Try.prog 4 #[.pointer (some ⟨q, 0, none⟩), taskV r k i, .int .i64 s] W fun e W' => e = .returned (.int .i64 (qaddE xs r k i)) ∧ Has w W' (qA q (qadd xs r k i s) :: ps) :=
  h.act hl fun F hF => by
    obtain ⟨F0, h1, rfl⟩ := hF
    refine (qp_add h1 r k i s hok).mono ?_
    rintro e W' ⟨he, F', h2, ht, -, hf⟩
    refine ⟨he, _, ⟨F', h2, rfl⟩, ht, ?_⟩
    rintro k (rfl | hk)
    · exact Or.inl (Or.inl rfl)
    · exact (hf k hk).imp Or.inr id
theorem hS_add : maddE zeroMS 1 1 0 0 = 0 := by decide +kernel
theorem hS_wait : (waitQ (madd zeroMS 1 1 0 0 0) 64).length = 1 := by decide +kernel
theorem hS_drop : (madd zeroMS 1 1 0 0 0).dropped 1 = 1 := by decide +kernel
theorem ok_hall {r s : Int} (h1 : 0 ≤ r) (h2 : r ≤ 100000) (h3 : 0 ≤ s) (h4 : s ≤ 100000) : It.Ok ⟨r, 1, 0, s⟩ :=
  ⟨⟨show _ ≤ r by omega, show r ≤ _ by omega, show _ ≤ (1 : Int) by omega, show (1 : Int) ≤ _ by omega, show _ ≤ (0 : Int) by omega, show (0 : Int) ≤ _ by omega⟩, show _ ≤ s by omega, show s ≤ _ by omega⟩
theorem rng_drop {n i : Nat} (h : i < n) : (rng n).drop i = (i : Int) :: (rng n).drop (i + 1) := by
  have hl : i < (rng n).length := by rw [rng_length]; exact h
  rw [List.drop_eq_getElem_cons hl]
  simp [rng]
/-! ### the script -/
structure Tri where
  a : Int
  b : Int
  c : Int
def Tri.cells (t : Tri) : List Value := [.int .i64 t.a, .int .i64 t.b, .int .i64 t.c]
structure Tri.Ok (t : Tri) : Prop where
  a : -9223372036854775808 ≤ t.a ∧ t.a ≤ 9223372036854775807
  b : -9223372036854775808 ≤ t.b ∧ t.b ≤ 9223372036854775807
  c : -9223372036854775808 ≤ t.c ∧ t.c ≤ 9223372036854775807
abbrev TrisAt (w : World) (p : Option Addr) (ts : List Tri) : Prop := RowsAt 3 Tri.cells Tri.Ok w p ts
def O1Rel (w : World) (hb g n : Nat) (v : Value) (wr : World) : Prop :=
  ∃ (i : Nat) (s : MS), i ≤ n ∧ v = .int .i64 i ∧ HI s [] ((rng n).drop i) n 0 0 ∧ Has w wr [hallP hb s 0 g, doneA g []]
def S1Rel (w : World) (hb g n m : Nat) (v : Value) (wr : World) : Prop :=
  ∃ (i : Nat) (s : MS) (D : List Int) (now : Int), i ≤ m ∧ v = .int .i64 i ∧ HI s D [] n i now ∧ now ≤ 30 * i ∧ Has w wr [hallP hb s now g, doneA g D]
def R1Rel (w : World) (hb g n : Nat) (t0 : Int) (v : Value) (wr : World) : Prop :=
  ∃ (k : Nat) (s : MS) (D : List Int) (N now : Int), k ≤ 200 ∧ v = .int .i64 k ∧ FI s D n N now t0 k ∧ N ≤ 60 + 4 * k ∧ Has w wr [hallP hb s now g, doneA g D]
def R2Rel (w : World) (hb g n : Nat) (now N0 : Int) (ls0 : List Ls) (d0 : Nat) (v : Value) (wr : World) : Prop :=
  ∃ (k : Nat) (s : MS) (D : List Int) (N : Int), k ≤ 4 ∧ v = .int .i64 (k + 1) ∧ HI s D [] n N now ∧ RI ls0 d0 k s D ∧ N ≤ N0 + k ∧ Has w wr [hallP hb s now g, doneA g D]
def C197 (hb : Nat) (now : Int) : World → Prop := fun X => X.cell? ⟨hb, 197, none⟩ = some (.int .i64 now)
def SCut (w : World) (hb g n i : Nat) (wx : World) : Prop :=
  ∃ (s : MS) (D : List Int) (now : Int), HI s D [] n (i + 1) now ∧ now ≤ 30 * (i + 1) ∧ Has w wx [hallP hb s now g, doneA g D]
theorem lost_mem' {s : MS} {z : Int} {l : Ls} (hl : l ∈ s.lost z) : l ∈ s.ls := by
  unfold MS.lost at hl
  split at hl
  · cases hl
  · exact (List.mem_filter.1 hl).1
theorem HI.finSD {s : MS} {D : List Int} {n : Nat} {N now : Int} (h : HI s D [] n N now) (tok : Int) : HI (finS s tok now) (finD s D tok now) [] n N now := by
  unfold finS finD
  by_cases hg : getE s tok now = 0
  · rw [if_pos hg, if_pos hg]; exact (h.fin hg).2.2
  · rw [if_neg hg, if_neg hg]; exact h
def AddOk (w : World) (hb g : Nat) (D M : List Int) (n : Nat) (N now : Int) (ls0 : List Ls) (ps : List Asr) (e : Ending) (W' : World) : Prop :=
  ∃ s', e = .returned (.int .i64 0) ∧ HI s' D M n N now ∧ s'.ls = ls0 ∧ Has w W' (hallP hb s' now g :: ps)
theorem hh_add_ok {w W : World} {hb g : Nat} {s : MS} {D M : List Int} {n : Nat} {N now r z : Int} {ps : List Asr} (hX : Has w W (hallP hb s now g :: ps)) (hl : Locs ps) (hI : HI s D (r :: M) n N now) (hn : n ≤ 40) (hnow : now ≤ 100000) (hz0 : 0 ≤ z) (hz : z ≤ 4) :
    Calls Try.prog 5 #[.pointer (some ⟨hb, 0, none⟩), taskV r 1 0, .int .i64 z, .int .i64 now] W fun e W' => AddOk w hb g D M n N now s.ls ps e W' := by
  have hr := hI.m_range
  have hn0 := hI.now0
  obtain ⟨e1, h2, h3⟩ := hI.add hn hz0 hz
  refine (hh_add hX hl r 1 0 z now (ok_hall (by omega) (by omega) (by omega) (by omega))).mono ?_
  rintro e W' ⟨rfl, h⟩
  rw [e1]
  exact ⟨_, rfl, h2, h3, h⟩
set_option maxRecDepth 100000 in
set_option maxHeartbeats 40000000 in
theorem handed_any (w : World) (p1 p2 : Option Addr) (c1 c2 : Nat) (os : List Int) (ts : List Tri) (hO : NumsAt .i64 w p1 os) (hOb : ∀ z ∈ os, -9223372036854775808 ≤ z ∧ z ≤ 9223372036854775807) (hT : TrisAt w p2 ts) :
    Calls Try.prog 3 #[.slice p1 os.length c1, .slice p2 ts.length c2] w fun e w' => e = .returned (.bool true) ∧ Ext w w' := by
  have hz := mcells_zero
  go_enter Try.func3, Try.ntmps3
  go_upto_region 2 with fail
  have hH := hm_new (Has.nil (Ext.refl w)) .nil
  generalize hw : World.alloc w _ = w1 at *
  generalize w.heap.size = mb at *
  clear hw hz
  have hH2 := hq_new hH (.cons (mP_loc _ _) .nil)
  clear hH
  go_upto_region 3 with fail
  generalize hw : World.alloc w1 _ = w2 at *
  generalize w1.heap.size = qb at *
  clear hw
  have hH3 := hm_blk hH2 (.cons (qA_loc _ _) (.cons (mP_loc _ _) .nil)) 43 #[.int .i64 1, .int .i64 1, .int .i64 0]
  clear hH2
  go_upto_region 4 with fail
  generalize hw : World.alloc w2 _ = w3 at *
  generalize w2.heap.size = tb at *
  clear hw
  have LB : Locs [blkA tb 43 #[.int .i64 1, .int .i64 1, .int .i64 0]] := .cons (blkA_loc _ _ _) .nil
  have hbt := hH3.blk (g := tb) (T := 43) (cs := #[.int .i64 1, .int .i64 1, .int .i64 0]) (by simp)
  have y0 : World.cell? w3 ⟨tb, 0, none⟩ = some (.int .i64 1) := hbt.cell 0
  have y1 : World.cell? w3 ⟨tb, 1, none⟩ = some (.int .i64 1) := hbt.cell 1
  have y2 : World.cell? w3 ⟨tb, 2, none⟩ = some (.int .i64 0) := hbt.cell 2
  go_wp2_with fail
  refine (hq_add hH3.swap (.cons (blkA_loc _ _ _) (.cons (mP_loc _ _) .nil)) 1 1 0 0 (ok_hall (by omega) (by omega) (by omega) (by omega))).mono ?_
  clear hbt y0 y1 y2 hH3
  rintro e w4 ⟨rfl, hH3⟩
  rw [show qaddE [] 1 1 0 = 0 from rfl]
  replace hH3 := hH3.drop.swap
  have hbt := hH3.blk (g := tb) (T := 43) (cs := #[.int .i64 1, .int .i64 1, .int .i64 0]) (by simp)
  have y0 : World.cell? w4 ⟨tb, 0, none⟩ = some (.int .i64 1) := hbt.cell 0
  have y1 : World.cell? w4 ⟨tb, 1, none⟩ = some (.int .i64 1) := hbt.cell 1
  have y2 : World.cell? w4 ⟨tb, 2, none⟩ = some (.int .i64 0) := hbt.cell 2
  go_wp2_with fail
  refine (hm_add hH3 LB 1 1 0 0 0 (ok_hall (by omega) (by omega) (by omega) (by omega))).mono ?_
  clear hbt y0 y1 y2 hH3
  rintro e w5 ⟨rfl, hH3⟩
  rw [hS_add]
  go_wp2_with fail
  refine (hm_waiting hH3 (.cons (mP_loc _ _) LB)).mono ?_
  clear hH3
  rintro e w6 ⟨v, rfl, hH3⟩
  obtain ⟨F_, hF_⟩ := hH3.head
  obtain ⟨p6, c6, rfl⟩ := ownsRow_slice hF_.1
  replace hH3 := hH3.drop
  clear hF_
  rw [hS_wait]
  go_wp2_with fail
  refine (hm_drop hH3 LB 1).mono ?_
  clear hH3
  rintro e w7 ⟨rfl, hH3⟩
  rw [hS_drop]
  have hE := hH3.base
  clear hH3 LB
  by_cases g1 : (40 : Int) < os.length
  · go_wp2_with fail
    go_ret
    exact ⟨rfl, hE⟩
  by_cases g2 : (60 : Int) < ts.length
  · go_wp2_with fail
    go_ret
    exact ⟨rfl, hE⟩
  have hmm := @run_makeMap Try.prog
  have hbd := hz0_zero
  have hsz0 := hz0_size
  obtain ⟨n, hn⟩ : ∃ n, os.length = n := ⟨_, rfl⟩
  obtain ⟨m, hm⟩ : ∃ n, ts.length = n := ⟨_, rfl⟩
  rw [hn] at g1 ⊢
  rw [hm] at g2 ⊢
  have HN := Lib.hid hn
  have HM := Lib.hid hm
  clear hn hm
  have hn40 : n ≤ 40 := by omega
  have hm60 : m ≤ 60 := by omega
  go_upto_region 9 with fail
  have hA := (Has.nil hE).add .nil (ext_alloc w7 (.map #[] 0)) (done_new w7) (fun k hk => by omega)
  have hX := hh_new hA (.cons (doneA_loc _ _) .nil) (g := w7.heap.size)
  rw [show (w7.alloc (.map #[] 0)).heap.size = w7.heap.size + 1 by simp] at hX
  unfold hcells at hX
  generalize hz0.setIfInBounds 198 (.map (some w7.heap.size)) = junk at *
  refine gen_world' (fun X => Has w X [hallP (w7.heap.size + 1) zeroMS 0 w7.heap.size, doneA w7.heap.size []]) hX ?_
  clear hX hA hmm hbd hsz0 hE
  generalize w7.heap.size + 1 = hb at *
  generalize w7.heap.size = g at *
  intro w8 hX
  go_wp2_with fail
  go_loopw [48] (fun v wr => O1Rel w hb g n v wr) (fun v _ => ((n : Int) + 1 - intOf v).toNat)
  case atStart => exact ⟨0, zeroMS, Nat.zero_le _, rfl, by simpa using HI.zero n hn40, hX⟩
  case round =>
    clear hX
    obtain ⟨i, s, hi, rfl, hI, hX⟩ := hrel
    by_cases gi : (i : Int) < n
    · as_aux_lemma =>
        rw [rng_drop (by omega)] at hI
        obtain ⟨pa, rfl, hcl⟩ := hO.get hX.base i (by rw [HN.out]; omega)
        have hxb := hOb (os.getD i 0) (getD_mem os 0 i (by rw [HN.out]; omega))
        generalize os.getD i 0 = x at *
        go_wp2_with fail
        all_goals
          refine (hh_add_ok hX (.cons (doneA_loc _ _) .nil) hI hn40 (by omega) (by omega) (by omega)).mono ?_
          rintro e w9 ⟨s2, rfl, hI2, -, hX2⟩
          go_wp2_with fail
          exact ⟨⟨i + 1, s2, by omega, by simp, hI2, hX2⟩, by simp [intOf]; omega⟩
    · have hin : i = n := by omega
      subst hin
      rw [List.drop_of_length_le (by rw [rng_length]; omega)] at hI
      clear gi hi hO hOb
      go_wp2_with fail
      go_loopw [66] (fun v wr => S1Rel w hb g i m v wr) (fun v _ => ((m : Int) + 1 - intOf v).toNat)
      case atStart => exact ⟨0, s, [], 0, Nat.zero_le _, rfl, hI, by omega, hX⟩
      case round =>
        clear hX hI
        obtain ⟨j, s1, D, now, hj, rfl, hI, hnow, hX⟩ := hrel
        by_cases gj : (j : Int) < m
        · as_aux_lemma =>
            obtain ⟨pb, po, rfl, hpb, hcells, hok⟩ := hT j (by rw [HM.out]; omega)
            have hEb := hX.base
            have x0 := (hEb.cell pb _ hpb).trans (hcells 0 (by omega))
            have x1 := (hEb.cell pb _ hpb).trans (hcells 1 (by omega))
            have x2 := (hEb.cell pb _ hpb).trans (hcells 2 (by omega))
            clear hcells hEb hpb
            generalize ts[j]'(by rw [HM.out]; omega) = o at *
            obtain ⟨ta, tb_, tc⟩ := o
            simp only [Tri.cells, List.getElem?_cons_zero, List.getElem?_cons_succ] at x0 x1 x2
            simp only [← Nat.add_assoc, Nat.add_zero] at x0 x1 x2
            have ha := hok.a
            have hb_ := hok.b
            have hc_ := hok.c
            replace ha : -9223372036854775808 ≤ ta ∧ ta ≤ 9223372036854775807 := ha
            replace hb_ : -9223372036854775808 ≤ tb_ ∧ tb_ ≤ 9223372036854775807 := hb_
            replace hc_ : -9223372036854775808 ≤ tc ∧ tc ≤ 9223372036854775807 := hc_
            clear hok
            go_upto_block 3 with fail
            go_cut [77] (fun _ wx => SCut w hb g i j wx)
            case first =>
              have hX0 := hm_blk hX (by repeat first | exact Locs.nil | refine Locs.cons (hallP_loc _ _ _ _) ?_ | refine Locs.cons (doneA_loc _ _) ?_ | refine Locs.cons (blkA_loc _ _ _) ?_ | refine Locs.cons (rowA_loc _ _ _ _ _) ?_) 54 #[.int .i64 ta, .int .i64 tb_, .int .i64 tc]
              clear hX
              go_upto_region 18 with fail
              generalize hw : World.alloc wr _ = w3 at *
              generalize wr.heap.size = bx at *
              clear hw x0 x1 x2
              have hX := hX0.swap.perm (List.Perm.cons _ (List.Perm.swap _ _ _))
              clear hX0
              have hbl := hX.blk (g := bx) (T := 54) (cs := #[.int .i64 ta, .int .i64 tb_, .int .i64 tc]) (by simp)
              have b0 : World.cell? w3 ⟨bx, 0, none⟩ = some (.int .i64 ta) := hbl.cell 0
              have b1 : World.cell? w3 ⟨bx, 1, none⟩ = some (.int .i64 tb_) := hbl.cell 1
              have b2 : World.cell? w3 ⟨bx, 2, none⟩ = some (.int .i64 tc) := hbl.cell 2
              go_cut [13] (fun v wx => (∃ z : Int, v = .int .i64 z ∧ 1 ≤ z ∧ z ≤ 4) ∧ wx = w3)
              case first =>
                go_wp2_with fail
                all_goals
                  go_meet
                  exact ⟨⟨_, rfl, by omega, by omega⟩, rfl⟩
              case rest =>
                obtain ⟨⟨z, rfl, hz1, hz2⟩, rfl⟩ := hcut
                have htk1 := hI.inv.tok1
                have htk2 := hI.inv.tok2
                have hn0 := hI.now0
                rcases (show ta = 0 ∨ ta = 1 ∨ ta = 2 ∨ ta = 3 ∨ (ta ≠ 0 ∧ ta ≠ 1 ∧ ta ≠ 2 ∧ ta ≠ 3) by omega) with hk | hk | hk | hk | hk
                · rw [hk] at b0
                  obtain ⟨x197, x198, fz, hlt⟩ := hh_now (W := wc) hX
                  go_wp2_with fail
                  refine region_drew_tail 8 (by kernel_rfl) (by kernel_rfl) ?_
                  simp only [List.take_succ_cons, List.take_zero, List.drop_succ_cons, List.drop_zero]
                  repeat (go_big_quiet_step (fail))
                  refine wpQuiet_nil ?_
                  intro _ hw'
                  obtain ⟨nq, hw''⟩ := hw'
                  subst hw''
                  clear hbl b0 b1 b2 x197 x198 fz hlt
                  replace hX := hX.ext (by repeat first | exact Locs.nil | refine Locs.cons (hallP_loc _ _ _ _) ?_ | refine Locs.cons (doneA_loc _ _) ?_ | refine Locs.cons (blkA_loc _ _ _) ?_ | refine Locs.cons (rowA_loc _ _ _ _ _) ?_) (Ext.drewN (Ext.refl _) nq)
                  generalize World.drewN _ nq = w4 at *
                  go_wp2_with fail
                  refine (hh_poll hX (by repeat first | exact Locs.nil | refine Locs.cons (hallP_loc _ _ _ _) ?_ | refine Locs.cons (doneA_loc _ _) ?_ | refine Locs.cons (blkA_loc _ _ _) ?_ | refine Locs.cons (rowA_loc _ _ _ _ _) ?_) z 1 now htk1 (by omega) (by omega) (by omega)).mono ?_
                  rintro e w5 ⟨rfl, hX2⟩
                  have hI2 := hI.poll hn40 hz1 hz2
                  go_wp2_with fail
                  go_meet
                  exact ⟨_, _, _, hI2, by omega, hX2.third.drop⟩
                · rw [hk] at b0
                  clear htk1 htk2
                  go_wp2_with fail
                  all_goals
                    refine (finish_any w _ hb g s1 D i j now _ (by repeat first | exact Locs.nil | refine Locs.cons (hallP_loc _ _ _ _) ?_ | refine Locs.cons (doneA_loc _ _) ?_ | refine Locs.cons (blkA_loc _ _ _) ?_ | refine Locs.cons (rowA_loc _ _ _ _ _) ?_) hX hI hn40 _).mono ?_
                    rintro e w5 ⟨rfl, hX2⟩
                    have hI2 := hI.finSD
                    go_wp2_with fail
                    go_meet
                    exact ⟨_, _, _, (hI2 _).mono (by omega), by omega, hX2.third.drop⟩
                · rw [hk] at b0
                  obtain ⟨x197, x198, fz, hlt⟩ := hh_now (W := wc) hX
                  go_upto_region 26 with fail
                  have d0 : ∀ x : Of (C197 hb now), x.val.cell? ⟨hb, 197, none⟩ = some (.int .i64 now) := fun x => x.property
                  have hFd := (show World.cell? wc.drew ⟨hb, 197, none⟩ = _ from x197)
                  have hne_ : Nonempty (Of ((C197 hb now))) := ⟨⟨_, hFd⟩⟩
                  refine region_steps [0,1,2,3,4,5,6,7,8,9,10] [true,true,true,true,true,true,true,true,true,false,false] ((C197 hb now)) (by kernel_rfl) (by kernel_rfl) hFd ?_
                  simp only [List.filterMap_cons, List.filterMap_nil, List.getElem?_cons_zero, List.getElem?_cons_succ]
                  refine steps_quiet 9 (by kernel_rfl) ?_
                  simp only [List.take_succ_cons, List.take_zero, List.drop_succ_cons, List.drop_zero]
                  repeat (go_big_quiet_step (fail))
                  refine wpQuiet_nil ?_
                  clear hbl b0 b1 b2 x197 x198 fz hlt d0 hFd
                  replace hX := hX.ext (by repeat first | exact Locs.nil | refine Locs.cons (hallP_loc _ _ _ _) ?_ | refine Locs.cons (doneA_loc _ _) ?_ | refine Locs.cons (blkA_loc _ _ _) ?_ | refine Locs.cons (rowA_loc _ _ _ _ _) ?_) (Ext.refl wc).drew
                  generalize World.drew wc = w4 at *
                  refine steps_want rfl (fun K hK => ?_)
                  go_simp
                  refine (hh_lose hX (by repeat first | exact Locs.nil | refine Locs.cons (hallP_loc _ _ _ _) ?_ | refine Locs.cons (doneA_loc _ _) ?_ | refine Locs.cons (blkA_loc _ _ _) ?_ | refine Locs.cons (rowA_loc _ _ _ _ _) ?_) z now hz1 (by omega) (by omega) (by omega)).mono ?_
                  clear hX
                  rintro e w5 ⟨v, rfl, hX⟩
                  have hI2 := hI.lose hn40 hz1 hz2
                  have hkk : ∀ l ∈ s1.lost z, l.kind = 1 ∧ l.id = 0 := fun l hl => ⟨(hI.lkey (lost_mem' hl)).1, (hI.lkey (lost_mem' hl)).2.1⟩
                  refine hK _ _ (C197 hb now) (hh_now hX.drop).1 (fun _ h => h) ?_
                  clear hK K
                  try simp only [Act.put, List.setIfInBounds_toArray, List.set_cons_succ, List.set_cons_zero]
                  refine steps_want rfl (fun K hK => ?_)
                  go_simp
                  refine (again_any w w5 hb g (s1.lose z now) D i j now _ (by repeat first | exact Locs.nil | refine Locs.cons (hallP_loc _ _ _ _) ?_ | refine Locs.cons (doneA_loc _ _) ?_ | refine Locs.cons (blkA_loc _ _ _) ?_ | refine Locs.cons (rowA_loc _ _ _ _ _) ?_) v (s1.lost z) hX hI2 hkk hn40 (by omega)).mono ?_
                  clear hX
                  rintro e w6 ⟨s2, rfl, hI3, hls3, hX2⟩
                  refine hK _ _ (C197 hb now) (hh_now hX2).1 (fun _ h => h) ?_
                  clear hK K
                  refine steps_nil ?_
                  try simp only [Act.put, List.setIfInBounds_toArray, List.set_cons_succ, List.set_cons_zero]
                  go_wp2_with fail
                  go_meet
                  exact ⟨_, _, _, hI3.mono (by omega), by omega, hX2.third.drop⟩
                · rw [hk] at b0
                  go_upto_region 28 with fail
                  go_cut [112] (fun _ wx => ∃ now2 : Int, now ≤ now2 ∧ now2 ≤ now + 30 ∧ Has w wx [hallP hb s1 now2 g, doneA g D, blkA bx 54 #[.int .i64 ta, .int .i64 tb_, .int .i64 tc]])
                  case first =>
                    obtain ⟨x197, x198, fz, hlt⟩ := hh_now (W := wc) hX
                    rcases (show tc ≤ 0 ∨ (0 < tc ∧ tc < 30) ∨ 30 ≤ tc by omega) with hc | ⟨hc1, hc2⟩ | hc
                    all_goals
                      refine region_drew_tail 11 (by kernel_rfl) (by kernel_rfl) ?_
                      simp only [List.take_succ_cons, List.take_zero, List.drop_succ_cons, List.drop_zero]
                      repeat (go_big_quiet_step (fail))
                      refine wpQuiet_nil ?_
                      intro _ hw'
                      obtain ⟨nq, hw''⟩ := hw'
                      subst hw''
                      clear hbl b0 b1 b2 x197 x198
                      replace hX := hX.ext (by repeat first | exact Locs.nil | refine Locs.cons (hallP_loc _ _ _ _) ?_ | refine Locs.cons (doneA_loc _ _) ?_ | refine Locs.cons (blkA_loc _ _ _) ?_ | refine Locs.cons (rowA_loc _ _ _ _ _) ?_) (Ext.drewN (Ext.refl _) nq)
                      obtain ⟨x197, x198, fz, hlt⟩ := hh_now hX
                      generalize World.drewN _ nq = w4 at *
                      go_wp2_with fail
                      all_goals
                        go_meet
                        refine ⟨_, ?_, ?_, hh_set hX (by repeat first | exact Locs.nil | refine Locs.cons (hallP_loc _ _ _ _) ?_ | refine Locs.cons (doneA_loc _ _) ?_ | refine Locs.cons (blkA_loc _ _ _) ?_ | refine Locs.cons (rowA_loc _ _ _ _ _) ?_) _⟩ <;> omega
                  case rest =>
                    obtain ⟨now2, hm1, hm2, hX⟩ := hcut
                    obtain ⟨x197, x198, fz, hlt⟩ := hh_now hX
                    have hm0 : 0 ≤ now2 := by omega
                    have hd0 : ∀ x : Of (C197 hb now2), x.val.cell? ⟨hb, 197, none⟩ = some (.int .i64 now2) := fun x => x.property
                    go_upto_region 29 with fail
                    have hFd := (show World.cell? wc.drew ⟨hb, 197, none⟩ = _ from x197)
                    have hne_ : Nonempty (Of ((C197 hb now2))) := ⟨⟨_, hFd⟩⟩
                    refine region_steps [0,1,2,3,4,5,6,7,8,9] [true,true,true,true,true,true,true,true,false,false] ((C197 hb now2)) (by kernel_rfl) (by kernel_rfl) hFd ?_
                    simp only [List.filterMap_cons, List.filterMap_nil, List.getElem?_cons_zero, List.getElem?_cons_succ]
                    refine steps_quiet 8 (by kernel_rfl) ?_
                    simp only [List.take_succ_cons, List.take_zero, List.drop_succ_cons, List.drop_zero]
                    repeat (go_big_quiet_step (fail))
                    refine wpQuiet_nil ?_
                    clear x197 x198 fz hlt hd0 hFd
                    replace hX := hX.ext (by repeat first | exact Locs.nil | refine Locs.cons (hallP_loc _ _ _ _) ?_ | refine Locs.cons (doneA_loc _ _) ?_ | refine Locs.cons (blkA_loc _ _ _) ?_ | refine Locs.cons (rowA_loc _ _ _ _ _) ?_) (Ext.refl wc).drew
                    generalize World.drew wc = w4 at *
                    refine steps_want rfl (fun K hK => ?_)
                    go_simp
                    refine (hh_expire hX (by repeat first | exact Locs.nil | refine Locs.cons (hallP_loc _ _ _ _) ?_ | refine Locs.cons (doneA_loc _ _) ?_ | refine Locs.cons (blkA_loc _ _ _) ?_ | refine Locs.cons (rowA_loc _ _ _ _ _) ?_) now2 hm0 (by omega) (fun k hk x hx => by have := hI.inv.since k (by omega) x hx; omega)).mono ?_
                    clear hX
                    rintro e w5 ⟨v, rfl, hX⟩
                    have hI2 := hI.expire hm1
                    have hkk : ∀ l ∈ s1.late now2, l.kind = 1 ∧ l.id = 0 := fun l hl => ⟨(hI.lkey (List.mem_filter.1 hl).1).1, (hI.lkey (List.mem_filter.1 hl).1).2.1⟩
                    refine hK _ _ (C197 hb now2) (hh_now hX.drop).1 (fun _ h => h) ?_
                    clear hK K
                    try simp only [Act.put, List.setIfInBounds_toArray, List.set_cons_succ, List.set_cons_zero]
                    refine steps_want rfl (fun K hK => ?_)
                    go_simp
                    refine (again_any w w5 hb g (s1.expire now2) D i j now2 _ (by repeat first | exact Locs.nil | refine Locs.cons (hallP_loc _ _ _ _) ?_ | refine Locs.cons (doneA_loc _ _) ?_ | refine Locs.cons (blkA_loc _ _ _) ?_ | refine Locs.cons (rowA_loc _ _ _ _ _) ?_) v (s1.late now2) hX hI2 hkk hn40 (by omega)).mono ?_
                    clear hX
                    rintro e w6 ⟨s2, rfl, hI3, hls3, hX2⟩
                    refine hK _ _ (C197 hb now2) (hh_now hX2).1 (fun _ h => h) ?_
                    clear hK K
                    refine steps_nil ?_
                    try simp only [Act.put, List.setIfInBounds_toArray, List.set_cons_succ, List.set_cons_zero]
                    go_wp2_with fail
                    go_meet
                    exact ⟨_, _, _, hI3.mono (by omega), by omega, hX2.third.drop⟩
                · obtain ⟨h0, h1, h2, h3⟩ := hk
                  have e0 : (ta == 0) = false := by simpa using h0
                  have e1 : (ta == 1) = false := by simpa using h1
                  have e2 : (ta == 2) = false := by simpa using h2
                  have e3 : (ta == 3) = false := by simpa using h3
                  go_wp2_with fail
                  go_meet
                  exact ⟨_, _, _, hI.mono (by omega), by omega, hX.third.drop⟩
            case rest =>
              obtain ⟨s2, D2, now2, hI2, hnow2, hX2⟩ := hcut
              go_wp2_with fail
              exact ⟨⟨j + 1, s2, D2, now2, by omega, by go_num, hI2, hnow2, hX2⟩, by simp [intOf]; omega⟩
        · obtain ⟨NN, hNN, hNb⟩ : ∃ NN : Int, NN = j ∧ NN ≤ 60 := ⟨j, rfl, by omega⟩
          rw [← hNN] at hI
          have hn0 := hI.now0
          have hnow60 : now ≤ 1800 := by omega
          clear hNN hj hT hnow
          go_wp2_with fail
          clear gj
          go_loopw [134] (fun v wr => R1Rel w hb g i now v wr) (fun v _ => (201 - intOf v).toNat)
          case atStart => exact ⟨0, s1, D, NN, now, by omega, rfl, FI.start hI, by omega, hX⟩
          case round =>
            clear hX hI
            obtain ⟨k, s2, D2, N2, t, hk, rfl, hF, hN, hX⟩ := hrel
            by_cases gk : (k : Int) < 200
            · as_aux_lemma =>
                have hkt := hF.t
                have hk200 : k < 200 := by omega
                have htb : 0 ≤ t ∧ t ≤ 2000 := by omega
                clear hkt
                go_wp2_with fail
                go_loopw [14] (fun v wr => R2Rel w hb g i t N2 s2.ls D2.length v wr) (fun v _ => (5 - intOf v).toNat)
                case atStart => exact ⟨0, s2, D2, N2, by omega, rfl, hF.hi, RI.start s2 D2, by omega, hX⟩
                case round =>
                  clear hX
                  obtain ⟨q, s3, D3, N3, hq, rfl, hI3, hR, hN3, hX⟩ := hrel
                  by_cases gq : (q : Int) + 1 ≤ 4
                  · have htk1 := hI3.inv.tok1
                    have htk2 := hI3.inv.tok2
                    obtain ⟨x197, x198, fz, hlt⟩ := hh_now hX
                    obtain ⟨lx, hlx⟩ : ∃ l, pollL s3 ((q : Int) + 1) 1 t = l := ⟨_, rfl⟩
                    obtain ⟨ec, hec⟩ : ∃ l, pollE s3 ((q : Int) + 1) 1 = l := ⟨_, rfl⟩
                    have HLX := Lib.hid hlx
                    have HEC := Lib.hid hec
                    clear hlx hec
                    go_upto_region 36 with fail
                    have hd0 : ∀ x : Of (C197 hb t), x.val.cell? ⟨hb, 197, none⟩ = some (.int .i64 t) := fun x => x.property
                    have hFd := (show World.cell? wr.drew ⟨hb, 197, none⟩ = _ from x197)
                    have hne_ : Nonempty (Of ((C197 hb t))) := ⟨⟨_, hFd⟩⟩
                    refine region_plan (.seg [0,1,2,3,4,5,6,7] [true,true,true,true,true,true,true,true] (.fork 8 (.seg [9,10,11,12,13,14] [true,true,true,false,false,true] .done) 12 (.seg [8,9,10,11,13,14] [false,true,true,true,false,true] .done))) ((C197 hb t)) (by kernel_rfl) (by kernel_rfl) hFd ?_
                    refine walkP_seg ?_
                    simp only [List.filterMap_cons, List.filterMap_nil, List.getElem?_cons_zero, List.getElem?_cons_succ]
                    refine steps_quiet 8 (by kernel_rfl) ?_
                    simp only [List.take_succ_cons, List.take_zero, List.drop_succ_cons, List.drop_zero]
                    repeat (go_big_quiet_step (fail))
                    refine wpQuiet_nil ?_
                    clear x197 x198 fz hlt hd0 hFd
                    replace hX := hX.ext (by repeat first | exact Locs.nil | refine Locs.cons (hallP_loc _ _ _ _) ?_ | refine Locs.cons (doneA_loc _ _) ?_ | refine Locs.cons (blkA_loc _ _ _) ?_ | refine Locs.cons (rowA_loc _ _ _ _ _) ?_) (Ext.refl wr).drew
                    generalize World.drew wr = w4 at *
                    refine steps_end ?_
                    refine walkP_fork ?_ ?_
                    all_goals simp only [List.filterMap_cons, List.filterMap_nil, List.getElem?_cons_zero, List.getElem?_cons_succ]
                    · refine steps_want rfl (fun K hK => ?_)
                      go_simp
                      refine (hh_poll hX (by repeat first | exact Locs.nil | refine Locs.cons (hallP_loc _ _ _ _) ?_ | refine Locs.cons (doneA_loc _ _) ?_ | refine Locs.cons (blkA_loc _ _ _) ?_ | refine Locs.cons (rowA_loc _ _ _ _ _) ?_) ((q : Int) + 1) 1 t htk1 (by omega) (by omega) (by omega)).mono ?_
                      clear hX
                      rintro e w5 ⟨rfl, hX⟩
                      rw [HLX.out, HEC.out]
                      obtain ⟨lt, lr, lk, li, lw, lu⟩ := lx
                      unfold lsV
                      refine hK _ _ (C197 hb t) (hh_now hX).1 (fun _ h => h) ?_
                      clear hK K
                      refine steps_end ?_
                      refine walkP_seg ?_
                      simp only [List.filterMap_cons, List.filterMap_nil, List.getElem?_cons_zero, List.getElem?_cons_succ]
                      refine steps_quiet 3 (by kernel_rfl) ?_
                      simp only [List.take_succ_cons, List.take_zero, List.drop_succ_cons, List.drop_zero]
                      repeat (go_big_quiet_step (fail))
                      refine wpQuiet_nil ?_
                      refine steps_want rfl (fun K hK => ?_)
                      go_simp
                      have hX2 := hm_blk hX (by repeat first | exact Locs.nil | refine Locs.cons (hallP_loc _ _ _ _) ?_ | refine Locs.cons (doneA_loc _ _) ?_ | refine Locs.cons (blkA_loc _ _ _) ?_ | refine Locs.cons (rowA_loc _ _ _ _ _) ?_) 56 #[.int .u64 0, .int .i64 0, .int .i64 0, .int .i64 0, .int .i64 0, .int .i64 0]
                      have hbl0 := Blk.new w5 56 #[.int .u64 0, .int .i64 0, .int .i64 0, .int .i64 0, .int .i64 0, .int .i64 0]
                      refine hK _ _ (C197 hb t) (hh_now hX2.drop).1 (fun _ h => h) ?_
                      clear hK K hX
                      refine steps_want rfl (fun K hK => ?_)
                      refine wp_store_row _ _ _ rfl w5.heap.size (lsA ⟨lt, lr, lk, li, lw, lu⟩) rfl rfl _ _ hbl0 (leaseInfo' _) rfl (lsA_all _) ?_
                      replace hX2 := hX2.row (cs := lsA ⟨lt, lr, lk, li, lw, lu⟩) (by repeat first | exact Locs.nil | refine Locs.cons (hallP_loc _ _ _ _) ?_ | refine Locs.cons (doneA_loc _ _) ?_ | refine Locs.cons (blkA_loc _ _ _) ?_ | refine Locs.cons (rowA_loc _ _ _ _ _) ?_)
                      refine hK _ _ (C197 hb t) (hh_now hX2.drop).1 (fun _ h => h) ?_
                      clear hK K
                      try simp only [Act.put, List.setIfInBounds_toArray, List.set_cons_succ, List.set_cons_zero]
                      refine steps_quiet 1 (by kernel_rfl) ?_
                      simp only [List.take_succ_cons, List.take_zero, List.drop_succ_cons, List.drop_zero]
                      repeat (go_big_quiet_step (fail))
                      refine wpQuiet_nil ?_
                      refine steps_end ?_
                      refine walkP_done ?_
                      try simp only [Act.put]
                      clear hbl0
                      generalize w5.heap.size = lb at *
                      generalize World.setRow _ _ _ = w6 at *
                      have hI4 := hI3.poll hn40 (z := (q : Int) + 1) (by omega) (by omega)
                      have hbl := hX2.blk (g := lb) (T := 56) (cs := lsA ⟨lt, lr, lk, li, lw, lu⟩) (by simp)
                      have y0 := hbl.cell 0
                      replace y0 : World.cell? _ ⟨lb, 0, none⟩ = some (.int .u64 lt) := y0
                      replace hX2 := hX2.swap.perm (List.Perm.cons _ (List.Perm.swap _ _ _))
                      by_cases hz : ec = 0
                      · subst hz
                        obtain ⟨f1, f2, f3⟩ := hI3.had hn40 (z := (q : Int) + 1) (by omega) (by omega) HEC.out
                        have hT := RI.took hI3 hn40 hR (by omega) HEC.out
                        rw [HLX.out] at f1 f2 f3 hT
                        generalize pollS s3 ((q : Int) + 1) 1 t = s4 at *
                        have hf := hI4.finSD lt
                        have e1 : finS s4 lt t = s4.done lt := by unfold finS; exact if_pos f1
                        have e2 : finD s4 D3 lt t = D3 ++ [(getL s4 lt t).run] := by unfold finD; exact if_pos f1
                        replace hT := hT (getL s4 lt t).run
                        have HT := Lib.hid hT
                        have HF_ := Lib.hid hf
                        have E1 := Lib.hid e1
                        have E2 := Lib.hid e2
                        clear hT hf e1 e2 f1 f2 f3
                        go_wp2_with fail
                        refine (finish_any w _ hb g s4 D3 i (N3 + 1) t _ (by repeat first | exact Locs.nil | refine Locs.cons (hallP_loc _ _ _ _) ?_ | refine Locs.cons (doneA_loc _ _) ?_ | refine Locs.cons (blkA_loc _ _ _) ?_ | refine Locs.cons (rowA_loc _ _ _ _ _) ?_) hX2 hI4 hn40 lt).mono ?_
                        rintro e w8 ⟨rfl, hX3⟩
                        go_wp2_with fail
                        exact ⟨⟨q + 1, _, _, N3 + 1, by omega, by go_num, HF_.out, by rw [E1.out, E2.out]; exact HT.out, by omega, hX3.third.drop⟩, by simp [intOf]; omega⟩
                      · have hzb : (ec == 0) = false := by simpa using hz
                        obtain ⟨f1, f2⟩ := RI.idle hI3 hn40 hR (by omega) (by rw [HEC.out]; exact hz)
                        rw [f1] at hX2
                        clear f1 hI4
                        go_wp2_with fail
                        exact ⟨⟨q + 1, s3, D3, N3 + 1, by omega, by go_num, hI3.mono (by omega), f2, by omega, hX2.third.drop⟩, by simp [intOf]; omega⟩
                    · refine steps_want rfl (fun K hK => ?_)
                      go_simp
                      have hX2 := hm_blk hX (by repeat first | exact Locs.nil | refine Locs.cons (hallP_loc _ _ _ _) ?_ | refine Locs.cons (doneA_loc _ _) ?_ | refine Locs.cons (blkA_loc _ _ _) ?_ | refine Locs.cons (rowA_loc _ _ _ _ _) ?_) 56 #[.int .u64 0, .int .i64 0, .int .i64 0, .int .i64 0, .int .i64 0, .int .i64 0]
                      refine hK _ _ (C197 hb t) (hh_now hX2.drop).1 (fun _ h => h) ?_
                      clear hK K hX
                      refine steps_end ?_
                      refine walkP_seg ?_
                      simp only [List.filterMap_cons, List.filterMap_nil, List.getElem?_cons_zero, List.getElem?_cons_succ]
                      generalize World.alloc w4 _ = w5 at *
                      generalize w4.heap.size = lb at *
                      replace hX2 := hX2.swap
                      refine steps_want rfl (fun K hK => ?_)
                      go_simp
                      refine (hh_poll hX2 (by repeat first | exact Locs.nil | refine Locs.cons (hallP_loc _ _ _ _) ?_ | refine Locs.cons (doneA_loc _ _) ?_ | refine Locs.cons (blkA_loc _ _ _) ?_ | refine Locs.cons (rowA_loc _ _ _ _ _) ?_) ((q : Int) + 1) 1 t htk1 (by omega) (by omega) (by omega)).mono ?_
                      clear hX2
                      rintro e w6 ⟨rfl, hX2⟩
                      rw [HLX.out, HEC.out]
                      obtain ⟨lt, lr, lk, li, lw, lu⟩ := lx
                      unfold lsV
                      refine hK _ _ (C197 hb t) (hh_now hX2).1 (fun _ h => h) ?_
                      clear hK K
                      refine steps_quiet 3 (by kernel_rfl) ?_
                      simp only [List.take_succ_cons, List.take_zero, List.drop_succ_cons, List.drop_zero]
                      repeat (go_big_quiet_step (fail))
                      refine wpQuiet_nil ?_
                      replace hX2 := hX2.swap
                      have hbl0 := hX2.blk (g := lb) (T := 56) (cs := #[.int .u64 0, .int .i64 0, .int .i64 0, .int .i64 0, .int .i64 0, .int .i64 0]) (by simp)
                      refine steps_want rfl (fun K hK => ?_)
                      refine wp_store_row _ _ _ rfl lb (lsA ⟨lt, lr, lk, li, lw, lu⟩) rfl rfl _ _ hbl0 (leaseInfo' _) rfl (lsA_all _) ?_
                      replace hX2 := hX2.row (cs := lsA ⟨lt, lr, lk, li, lw, lu⟩) (by repeat first | exact Locs.nil | refine Locs.cons (hallP_loc _ _ _ _) ?_ | refine Locs.cons (doneA_loc _ _) ?_ | refine Locs.cons (blkA_loc _ _ _) ?_ | refine Locs.cons (rowA_loc _ _ _ _ _) ?_)
                      refine hK _ _ (C197 hb t) (hh_now hX2.drop).1 (fun _ h => h) ?_
                      clear hK K
                      try simp only [Act.put, List.setIfInBounds_toArray, List.set_cons_succ, List.set_cons_zero]
                      refine steps_quiet 1 (by kernel_rfl) ?_
                      simp only [List.take_succ_cons, List.take_zero, List.drop_succ_cons, List.drop_zero]
                      repeat (go_big_quiet_step (fail))
                      refine wpQuiet_nil ?_
                      refine steps_end ?_
                      refine walkP_done ?_
                      try simp only [Act.put]
                      clear hbl0
                      generalize World.setRow _ _ _ = w7 at *
                      have hI4 := hI3.poll hn40 (z := (q : Int) + 1) (by omega) (by omega)
                      have hbl := hX2.blk (g := lb) (T := 56) (cs := lsA ⟨lt, lr, lk, li, lw, lu⟩) (by simp)
                      have y0 := hbl.cell 0
                      replace y0 : World.cell? _ ⟨lb, 0, none⟩ = some (.int .u64 lt) := y0
                      replace hX2 := hX2.swap.perm (List.Perm.cons _ (List.Perm.swap _ _ _))
                      by_cases hz : ec = 0
                      · subst hz
                        obtain ⟨f1, f2, f3⟩ := hI3.had hn40 (z := (q : Int) + 1) (by omega) (by omega) HEC.out
                        have hT := RI.took hI3 hn40 hR (by omega) HEC.out
                        rw [HLX.out] at f1 f2 f3 hT
                        generalize pollS s3 ((q : Int) + 1) 1 t = s4 at *
                        have hf := hI4.finSD lt
                        have e1 : finS s4 lt t = s4.done lt := by unfold finS; exact if_pos f1
                        have e2 : finD s4 D3 lt t = D3 ++ [(getL s4 lt t).run] := by unfold finD; exact if_pos f1
                        replace hT := hT (getL s4 lt t).run
                        have HT := Lib.hid hT
                        have HF_ := Lib.hid hf
                        have E1 := Lib.hid e1
                        have E2 := Lib.hid e2
                        clear hT hf e1 e2 f1 f2 f3
                        go_wp2_with fail
                        refine (finish_any w _ hb g s4 D3 i (N3 + 1) t _ (by repeat first | exact Locs.nil | refine Locs.cons (hallP_loc _ _ _ _) ?_ | refine Locs.cons (doneA_loc _ _) ?_ | refine Locs.cons (blkA_loc _ _ _) ?_ | refine Locs.cons (rowA_loc _ _ _ _ _) ?_) hX2 hI4 hn40 lt).mono ?_
                        rintro e w8 ⟨rfl, hX3⟩
                        go_wp2_with fail
                        exact ⟨⟨q + 1, _, _, N3 + 1, by omega, by go_num, HF_.out, by rw [E1.out, E2.out]; exact HT.out, by omega, hX3.third.drop⟩, by simp [intOf]; omega⟩
                      · have hzb : (ec == 0) = false := by simpa using hz
                        obtain ⟨f1, f2⟩ := RI.idle hI3 hn40 hR (by omega) (by rw [HEC.out]; exact hz)
                        rw [f1] at hX2
                        clear f1 hI4
                        go_wp2_with fail
                        exact ⟨⟨q + 1, s3, D3, N3 + 1, by omega, by go_num, hI3.mono (by omega), f2, by omega, hX2.third.drop⟩, by simp [intOf]; omega⟩
                  · obtain rfl : q = 4 := by omega
                    have hn40' := hn40
                    have hI2 := hF.round hn40 hI3 hR
                    have hlate : ∀ l ∈ s3.late (t + 1), l.kind = 1 ∧ l.id = 0 := fun l hl => ⟨(hI3.lkey (List.mem_filter.1 hl).1).1, (hI3.lkey (List.mem_filter.1 hl).1).2.1⟩
                    have hsi : ∀ k, k < 65 → ∀ x ∈ s3.q k, 0 ≤ x.since ∧ x.since ≤ 4611686018427387903 := fun k hk x hx => by have := hI3.inv.since k (by omega) x hx; omega
                    have hT0 := hI3.now0
                    have HI2 := Lib.hid hI2
                    clear hI2
                    obtain ⟨x197, x198, fz, hlt⟩ := hh_now hX
                    have hX2 := hh_set hX (by repeat first | exact Locs.nil | refine Locs.cons (hallP_loc _ _ _ _) ?_ | refine Locs.cons (doneA_loc _ _) ?_ | refine Locs.cons (blkA_loc _ _ _) ?_ | refine Locs.cons (rowA_loc _ _ _ _ _) ?_) (t + 1)
                    clear hX
                    go_upto_region 40 with fail
                    generalize World.setCell wr _ _ = w3 at *
                    clear x197 x198 fz hlt
                    obtain ⟨x197, x198, fz, hlt⟩ := hh_now hX2
                    have hd0 : ∀ x : Of (C197 hb (t + 1)), x.val.cell? ⟨hb, 197, none⟩ = some (.int .i64 (t + 1)) := fun x => x.property
                    have hFd := (show World.cell? w3.drew ⟨hb, 197, none⟩ = _ from x197)
                    have hne_ : Nonempty (Of ((C197 hb (t + 1)))) := ⟨⟨_, hFd⟩⟩
                    refine region_steps [0,1,2,3,4,5,6,7,8,9] [true,true,true,true,true,true,true,true,false,false] ((C197 hb (t + 1))) (by kernel_rfl) (by kernel_rfl) hFd ?_
                    simp only [List.filterMap_cons, List.filterMap_nil, List.getElem?_cons_zero, List.getElem?_cons_succ]
                    refine steps_quiet 8 (by kernel_rfl) ?_
                    simp only [List.take_succ_cons, List.take_zero, List.drop_succ_cons, List.drop_zero]
                    repeat (go_big_quiet_step (fail))
                    refine wpQuiet_nil ?_
                    clear x197 x198 fz hlt hd0 hFd
                    have hX := hX2.ext (by repeat first | exact Locs.nil | refine Locs.cons (hallP_loc _ _ _ _) ?_ | refine Locs.cons (doneA_loc _ _) ?_ | refine Locs.cons (blkA_loc _ _ _) ?_ | refine Locs.cons (rowA_loc _ _ _ _ _) ?_) (Ext.refl w3).drew
                    clear hX2
                    generalize World.drew w3 = w4 at *
                    refine steps_want rfl (fun K hK => ?_)
                    go_simp
                    refine (hh_expire hX (by repeat first | exact Locs.nil | refine Locs.cons (hallP_loc _ _ _ _) ?_ | refine Locs.cons (doneA_loc _ _) ?_ | refine Locs.cons (blkA_loc _ _ _) ?_ | refine Locs.cons (rowA_loc _ _ _ _ _) ?_) (t + 1) (by omega) (by omega) hsi).mono ?_
                    clear hX
                    rintro e w5 ⟨v, rfl, hX⟩
                    refine hK _ _ (C197 hb (t + 1)) (hh_now hX.drop).1 (fun _ h => h) ?_
                    clear hK K
                    try simp only [Act.put, List.setIfInBounds_toArray, List.set_cons_succ, List.set_cons_zero]
                    refine steps_want rfl (fun K hK => ?_)
                    go_simp
                    refine (again_any w w5 hb g (s3.expire (t + 1)) D3 i N3 (t + 1) _ (by repeat first | exact Locs.nil | refine Locs.cons (hallP_loc _ _ _ _) ?_ | refine Locs.cons (doneA_loc _ _) ?_ | refine Locs.cons (blkA_loc _ _ _) ?_ | refine Locs.cons (rowA_loc _ _ _ _ _) ?_) v (s3.late (t + 1)) hX HI2.out.hi hlate hn40 (by omega)).mono ?_
                    clear hX
                    rintro e w6 ⟨s5, rfl, hI5, hls5, hX5⟩
                    refine hK _ _ (C197 hb (t + 1)) (hh_now hX5).1 (fun _ h => h) ?_
                    clear hK K
                    refine steps_nil ?_
                    try simp only [Act.put, List.setIfInBounds_toArray, List.set_cons_succ, List.set_cons_zero]
                    have HLS5 := Lib.hid hls5
                    clear hls5
                    go_wp2_with fail
                    have hM := HI2.out
                    exact ⟨⟨k + 1, s5, D3, N3, t + 1, by omega, by go_num, ⟨hI5, hM.t, by rw [HLS5.out]; exact hM.old, by rw [HLS5.out]; exact hM.few⟩, by omega, hX5⟩, by simp [intOf]; omega⟩
            · obtain rfl : k = 200 := by omega
              obtain ⟨e1, e2, e3⟩ := hF.last hn40
              obtain ⟨F_, hF_⟩ := Has.mem hX (p := doneA g D2) (by simp)
              obtain ⟨x197, x198, fz, hlt⟩ := hh_now hX
              have hE0 := (Ext.refl wr).drew
              have hEw := hX.base
              have hd8 : ∀ x : Of (fun X => Ext wr X), x.val.cell? ⟨hb, 198, none⟩ = some (.map (some g)) := fun x => (x.property.cell _ _ hlt).trans x198
              have hdl : ∀ x : Of (fun X => Ext wr X), (Builtin.len_ #[51] 3 #[.map (some g)]).run Try.prog x.val = .ok (.int .i64 (i : Int)) x.val := fun x => by
                have := hd_len F_ ((doneA_loc g D2).ext hF_ x.property) 3
                rwa [e1] at this
              have E2 := Lib.hid e2
              have E3 := Lib.hid e3
              clear e1 e2 e3 hF_ x197 x198 fz hlt
              go_upto_region 42 with fail
              have hFd := hE0
              have hne_ : Nonempty (Of ((fun X => Ext wr X))) := ⟨⟨_, hFd⟩⟩
              refine region_steps [0,1,2,3,4,5,6,7,8,9,10,11,14,15,16,12,13,17,18,19,20,21,22] [true,true,true,true,true,true,true,true,true,true,true,true,true,true,true,false,true,false,true,true,true,true,true] ((fun X => Ext wr X)) (by kernel_rfl) (by kernel_rfl) hFd ?_
              simp only [List.filterMap_cons, List.filterMap_nil, List.getElem?_cons_zero, List.getElem?_cons_succ]
              refine steps_quiet 15 (by kernel_rfl) ?_
              simp only [List.take_succ_cons, List.take_zero, List.drop_succ_cons, List.drop_zero]
              repeat (go_big_quiet_step (fail))
              refine wpQuiet_nil ?_
              clear hd8 hdl hFd
              have hX2 := hX.ext (by repeat first | exact Locs.nil | refine Locs.cons (hallP_loc _ _ _ _) ?_ | refine Locs.cons (doneA_loc _ _) ?_ | refine Locs.cons (blkA_loc _ _ _) ?_ | refine Locs.cons (rowA_loc _ _ _ _ _) ?_) hE0
              generalize World.drew wr = w4 at *
              refine steps_want rfl (fun K hK => ?_)
              go_simp
              refine (hh_waiting hX2).mono ?_
              rintro e w5 ⟨v, rfl, ⟨p5, c5, rfl⟩, hE5⟩
              rw [E2.out]
              replace hX2 := hX2.ext (by repeat first | exact Locs.nil | refine Locs.cons (hallP_loc _ _ _ _) ?_ | refine Locs.cons (doneA_loc _ _) ?_ | refine Locs.cons (blkA_loc _ _ _) ?_ | refine Locs.cons (rowA_loc _ _ _ _ _) ?_) hE5
              replace hE5 := hE0.trans hE5
              refine hK _ _ (fun X => Ext wr X) hE5 (fun _ h => h) ?_
              clear hK K
              try simp only [Act.put, List.setIfInBounds_toArray, List.set_cons_succ, List.set_cons_zero]
              refine steps_quiet 1 (by kernel_rfl) ?_
              simp only [List.take_succ_cons, List.take_zero, List.drop_succ_cons, List.drop_zero]
              repeat (go_big_quiet_step (fail))
              refine wpQuiet_nil ?_
              refine steps_want rfl (fun K hK => ?_)
              go_simp
              refine (hh_leases hX2).mono ?_
              rintro e w6 ⟨v, rfl, ⟨p6_, c6_, rfl⟩, hE6⟩
              rw [E3.out]
              replace hE6 := hE5.trans hE6
              refine hK _ _ (fun X => Ext wr X) hE6 (fun _ h => h) ?_
              clear hK K
              try simp only [Act.put, List.setIfInBounds_toArray, List.set_cons_succ, List.set_cons_zero]
              refine steps_quiet 5 (by kernel_rfl) ?_
              simp only [List.take_succ_cons, List.take_zero, List.drop_succ_cons, List.drop_zero]
              repeat (go_big_quiet_step (fail))
              refine wpQuiet_nil ?_
              refine steps_nil ?_
              try simp only [Act.put]
              go_wp2_with fail
              go_ret
              exact ⟨rfl, hEw.trans hE6⟩
end Go.Proofs.Ytadmfoglajhdcaa
