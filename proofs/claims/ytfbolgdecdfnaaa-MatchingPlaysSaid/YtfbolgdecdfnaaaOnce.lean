/- The walk of MatchingOnce. -/
import Derived.Test.YtfbolgdecdfnaaaBrings
import Derived.Test.YtfbolgdecdfnaaaMOps
import Derived.Test.YtfbolgdecdfnaaaSeen
import Derived.Deep.LoopGhost
namespace Go.Proofs.Ytfbolgdecdfnaaa
set_option maxRecDepth 4000
set_option linter.unusedVariables false
set_option linter.unusedSimpArgs false
open Go Go.RowKit Go.Maps Go.ChangeMaps Go.MapKept
def clip (t : Int) : Int := max 0 (min t 100)
theorem clip_bd (t : Int) : 0 ≤ clip t ∧ clip t ≤ 100 := by unfold clip; omega
theorem madd_tok (s : MS) (r k i z now : Int) : (madd s r k i z now).tok = s.tok := by
  unfold madd
  split
  · rfl
  · split <;> rfl
theorem poll_ok {s : MS} {z kind now : Int} (h : pollE s z kind = 0) : ∃ r i, pollL s z kind now = ⟨s.tok + 1, r, kind, i, z, now + 20⟩ ∧ (pollS s z kind now).tok = s.tok + 1 := by
  unfold pollE at h
  unfold pollL pollS
  by_cases h1 : z < 1 ∨ 64 < z
  · rw [if_pos h1] at h; cases h
  · rw [if_neg h1] at h
    rw [if_neg h1, if_neg h1]
    by_cases h2 : 256 ≤ s.ls.length
    · rw [if_pos h2] at h; cases h
    · rw [if_neg h2] at h
      rw [if_neg h2, if_neg h2]
      cases hp : s.pick z kind with
      | none => rw [hp] at h; cases h
      | some kx =>
        obtain ⟨k, x⟩ := kx
        obtain ⟨_, hxk, _⟩ := pick_mem hp
        exact ⟨x.run, x.id, by rw [← hxk], rfl⟩
theorem poll_tok (s : MS) (z kind now : Int) : s.tok ≤ (pollS s z kind now).tok := by
  unfold pollS
  split
  · exact Int.le_refl _
  · split
    · exact Int.le_refl _
    · split
      · show s.tok ≤ s.tok + 1; omega
      · exact Int.le_refl _
theorem lc_split (p : Ls → Bool) (ls : List Ls) (r k i : Int) : lc (ls.filter p) r k i + lc (keepL p ls) r k i = lc ls r k i := by
  unfold lc keepL
  induction ls with
  | nil => rfl
  | cons l ls ih =>
    rw [List.filter_cons, List.filter_cons, List.countP_cons]
    cases p l <;> simp only [Bool.not_true, Bool.not_false, if_true, Bool.false_eq_true, if_false, List.countP_cons] <;> omega
theorem gone_of {s s1 : MS} (h : One s) {now : Int} (hs : Less s s1 now) (he : s1.ls = s.ls) {p : Ls → Bool} {l : Ls} (hl : l ∈ s.ls.filter p) : ({ s1 with ls := keepL p s.ls } : MS).known l.run l.kind l.id = false := by
  rw [Bool.eq_false_iff]
  intro hk
  have h1 := known_iff.1 hk
  have h2 := hs.c l.run l.kind l.id
  have h3 := h l.run l.kind l.id
  have h4 := lc_mem hl
  have h5 := lc_split p s.ls l.run l.kind l.id
  have h6 : waitQ { s1 with ls := keepL p s.ls } 64 = waitQ s1 64 := waitQ_ls _ _ _ _ _ _
  unfold cnt at h1 h2 h3
  rw [h6] at h1
  rw [he] at h2
  have h7 : ({ s1 with ls := keepL p s.ls } : MS).ls = keepL p s.ls := rfl
  rw [h7] at h1
  omega
theorem gone_expire {s : MS} (h : One s) {now : Int} {l : Ls} (hl : l ∈ s.late now) : (s.expire now).known l.run l.kind l.id = false :=
  gone_of h (less_expS h now 64 (Nat.le_refl _)) (expS_ls s now 64) hl
theorem late_until {s : MS} {now : Int} {l : Ls} (hl : l ∈ s.late now) : l.until_ ≤ now := by
  simpa using (List.mem_filter.1 hl).2
theorem gone_lose {s : MS} (h : One s) {z now : Int} {l : Ls} (hl : l ∈ s.lost z) : (s.lose z now).known l.run l.kind l.id = false ∧ l.worker = z := by
  unfold MS.lost at hl
  by_cases hz : z < 1 ∨ 64 < z
  · rw [if_pos hz] at hl; cases hl
  · rw [if_neg hz] at hl
    refine ⟨?_, by simpa using (List.mem_filter.1 hl).2⟩
    have h1 := less_loseQ h (z := z) now hz
    unfold MS.lose
    rw [if_neg hz]
    exact gone_of h h1 rfl hl
theorem lost_mem {s : MS} {z : Int} {l : Ls} (hl : l ∈ s.lost z) : l ∈ s.ls := by
  unfold MS.lost at hl
  split at hl
  · cases hl
  · exact (List.mem_filter.1 hl).1
theorem lost_le (s : MS) (z : Int) : (s.lost z).length ≤ s.ls.length := by
  unfold MS.lost
  split
  · simp
  · exact List.length_filter_le _ _
def key3 (x : It) : Key3 := (x.run, x.kind, x.id)
def keyL3 (l : Ls) : Key3 := (l.run, l.kind, l.id)
theorem apartL_of {xs : List Ls} (h : ∀ r k i, lc xs r k i ≤ 1) : xs.Pairwise fun a b => isL a b.run b.kind b.id = false := by
  induction xs with
  | nil => exact List.Pairwise.nil
  | cons x xs ih =>
    refine List.Pairwise.cons (fun y hy => ?_) (ih fun r k i => ?_)
    · have h1 := h y.run y.kind y.id
      have h2 := lc_mem hy
      unfold lc at h1 h2
      rw [List.countP_cons] at h1
      cases hx : isL x y.run y.kind y.id with
      | false => rfl
      | true => rw [if_pos hx] at h1; omega
    · have h1 := h r k i
      unfold lc at h1 ⊢
      rw [List.countP_cons] at h1
      omega
def SnRel (w : World) (mb : Nat) (s : MS) (g : Nat) (v : Value) (L : Nat) (xs : List It) (vi : Value) (wr : World) : Prop :=
  ∃ pre post, xs = pre ++ post ∧ vi = .int .i64 pre.length ∧ Has w wr [seenA g (pre.map key3), rowA 42 3 v L (flatIt xs), mP mb s]
def SlRel (w : World) (mb : Nat) (s : MS) (g : Nat) (ks : List Key3) (v : Value) (L : Nat) (ls : List Ls) (vi : Value) (wr : World) : Prop :=
  ∃ pre post, ls = pre ++ post ∧ vi = .int .i64 pre.length ∧ Has w wr [seenA g (ks ++ pre.map keyL3), rowA 46 6 v L (flatL ls), mP mb s]
def OutRel (w : World) (mb : Nat) (s' : MS) (B : Asr) (v : Value) (L : Nat) (out : List Ls) (vi : Value) (wr : World) : Prop :=
  ∃ pre post, out = pre ++ post ∧ vi = .int .i64 pre.length ∧ Has w wr [rowA 46 6 v L (flatL out), mP mb s', B]
def OnRel (w : World) (mb : Nat) (os : List Mop) (v4 v5 v26 : Value) (wr : World) : Prop :=
  ∃ (i : Nat) (s : MS) (now last : Int), i ≤ os.length ∧ v26 = .int .i64 i ∧ v4 = .int .i64 now ∧ v5 = .int .u64 last ∧ 0 ≤ now ∧ now ≤ 100 * i ∧ 0 ≤ last ∧ last ≤ s.tok ∧ MInv s i now ∧ Has w wr [mP mb s]
set_option maxRecDepth 100000 in
set_option maxHeartbeats 4000000 in
theorem once_any (w : World) (p : Option Addr) (c : Nat) (os : List Mop) (hO : MopsAt w p os) :
    Calls Try.prog 5 #[.slice p os.length c] w fun e w' => e = .returned (.bool true) ∧ Ext w w' := by
  have hz := mcells_zero
  have hmm := @run_makeMap Try.prog
  go_enter Try.func5, Try.ntmps5
  go_wp2_with fail
  refine (brings_any w).mono ?_
  rintro e w1 ⟨rfl, hE1⟩
  by_cases g1 : (60 : Int) < os.length
  · go_wp2_with fail
    go_ret
    exact ⟨rfl, hE1⟩
  have hH := hm_new (Has.nil hE1) .nil
  go_upto_region 6 with fail
  generalize hw : World.alloc w1 _ = w2 at *
  generalize w1.heap.size = mb at *
  clear hw hE1
  try simp only [Act.put]
  go_wp2_with fail
  go_loopw [4, 5, 26] (fun v4 v5 v26 wr => OnRel w mb os v4 v5 v26 wr) (fun _ _ v _ => ((os.length : Int) + 1 - intOf v).toNat)
  case atStart => exact ⟨0, zeroMS, 0, 0, Nat.zero_le _, rfl, rfl, rfl, by omega, by omega, by omega, by show (0 : Int) ≤ 0; omega, MInv.zero 0, hH⟩
  case round =>
    clear hH
    obtain ⟨i, s, now, last, hi, rfl, rfl, rfl, hn0, hn1, hl0, hl1, hI, hH⟩ := hrel
    by_cases gi : (i : Int) < os.length
    · obtain ⟨pb, po, rfl, hpb, hcells, hok⟩ := hO i (by omega)
      have hEb := hH.base
      have x0 := (hEb.cell pb _ hpb).trans (hcells 0 (by omega))
      have x1 := (hEb.cell pb _ hpb).trans (hcells 1 (by omega))
      have x2 := (hEb.cell pb _ hpb).trans (hcells 2 (by omega))
      have x3 := (hEb.cell pb _ hpb).trans (hcells 3 (by omega))
      have x4 := (hEb.cell pb _ hpb).trans (hcells 4 (by omega))
      have x5 := (hEb.cell pb _ hpb).trans (hcells 5 (by omega))
      have x6 := (hEb.cell pb _ hpb).trans (hcells 6 (by omega))
      clear hcells hEb hpb
      generalize os[i]'(by omega) = o at *
      obtain ⟨oo, orr, ok, oi, oz, ot, oc⟩ := o
      simp only [Mop.cells, List.getElem?_cons_zero, List.getElem?_cons_succ] at x0 x1 x2 x3 x4 x5 x6
      simp only [← Nat.add_assoc, Nat.add_zero] at x0 x1 x2 x3 x4 x5 x6
      have hX := (hm_blk hH (by repeat first | exact Locs.nil | refine Locs.cons (mP_loc _ _) ?_ | refine Locs.cons (blkA_loc _ _ _) ?_ | refine Locs.cons (rowA_loc _ _ _ _ _) ?_) 59 #[.int .i64 oo, .int .i64 orr, .int .i64 ok, .int .i64 oi, .int .i64 oz, .int .u64 ot, .int .i64 oc]).swap
      go_upto_region 10 with fail
      generalize hw : wr.alloc _ = w3 at *
      generalize wr.heap.size = bx at *
      clear hw x0 x1 x2 x3 x4 x5 x6 hH
      have hbl := hX.blk (g := bx) (T := 59) (cs := #[.int .i64 oo, .int .i64 orr, .int .i64 ok, .int .i64 oi, .int .i64 oz, .int .u64 ot, .int .i64 oc]) (by simp)
      have b0 : World.cell? w3 ⟨bx, 0, none⟩ = some (.int .i64 oo) := hbl.cell 0
      have b1 : World.cell? w3 ⟨bx, 1, none⟩ = some (.int .i64 orr) := hbl.cell 1
      have b2 : World.cell? w3 ⟨bx, 2, none⟩ = some (.int .i64 ok) := hbl.cell 2
      have b3 : World.cell? w3 ⟨bx, 3, none⟩ = some (.int .i64 oi) := hbl.cell 3
      have b4 : World.cell? w3 ⟨bx, 4, none⟩ = some (.int .i64 oz) := hbl.cell 4
      have b5 : World.cell? w3 ⟨bx, 5, none⟩ = some (.int .u64 ot) := hbl.cell 5
      have b6 : World.cell? w3 ⟨bx, 6, none⟩ = some (.int .i64 oc) := hbl.cell 6
      have hcb := clip_bd oc
      obtain ⟨n2, hn2⟩ : ∃ n : Int, now + clip oc = n := ⟨_, rfl⟩
      go_cut [4] (fun v wx => v = .int .i64 n2 ∧ wx = w3)
      case first =>
        rcases (show oc ≤ 0 ∨ (0 < oc ∧ oc < 100) ∨ 100 ≤ oc by omega) with hc | ⟨hc1, hc2⟩ | hc
        all_goals
          go_wp2_with fail
          all_goals
            go_meet
            refine ⟨?_, rfl⟩
            rw [← hn2]
            unfold clip
            first | (congr 1; omega) | (exfalso; omega)
      case rest =>
        obtain ⟨rfl, rfl⟩ := hcut
        have hnb : 0 ≤ n2 ∧ n2 ≤ 100 * (i + 1) := by omega
        have hnn : now ≤ n2 := by omega
        clear hn2
        go_upto_block 2 with fail
        go_cut [5, 37] (fun v5 _ wx => ∃ (s' : MS) (last' : Int), v5 = .int .u64 last' ∧ 0 ≤ last' ∧ last' ≤ s'.tok ∧ MInv s' (i + 1) n2 ∧ Has w wx [mP mb s'])
        case first =>
          replace hI := hI.mono (Int.le_refl _) hnn
          have hok1 := hok.key
          have hokn : It.Ok ⟨orr, ok, oi, n2⟩ := ⟨hok1, show _ ≤ n2 by omega, show n2 ≤ _ by omega⟩
          have hI1 : MInv s (i + 1) n2 := hI.mono (by omega) (Int.le_refl _)
          have ht0 := hI.tok1
          have ht1 := hI.tok2
          rcases (show oo = 0 ∨ oo = 1 ∨ oo = 3 ∨ oo = 4 ∨ oo = 5 ∨ (oo ≠ 0 ∧ oo ≠ 1 ∧ oo ≠ 3 ∧ oo ≠ 4 ∧ oo ≠ 5) by omega) with hk | hk | hk | hk | hk | hk
          · rw [hk] at b0
            go_wp2_with fail
            refine (hm_add hX (by repeat first | exact Locs.nil | refine Locs.cons (mP_loc _ _) ?_ | refine Locs.cons (blkA_loc _ _ _) ?_ | refine Locs.cons (rowA_loc _ _ _ _ _) ?_) orr ok oi oz n2 hokn).mono ?_
            clear hX hbl b0 b1 b2 b3 b4 b5 b6
            rintro e w4 ⟨rfl, hX⟩
            go_wp2_with fail
            go_meet
            exact ⟨_, last, rfl, hl0, by rw [madd_tok]; exact hl1, hI1.add orr ok oi oz hok1 hnb.1, hX.swap.drop⟩
          · rw [hk] at b0
            go_wp2_with fail
            refine (hm_poll hX (by repeat first | exact Locs.nil | refine Locs.cons (mP_loc _ _) ?_ | refine Locs.cons (blkA_loc _ _ _) ?_ | refine Locs.cons (rowA_loc _ _ _ _ _) ?_) oz ok n2 (by omega) (by omega) (by omega) (by omega)).mono ?_
            clear hX hbl b0 b1 b2 b3 b4 b5 b6
            rintro e w4 ⟨rfl, hX⟩
            have HI2 := Lib.hid (hI.poll oz ok n2)
            have hpt := poll_tok s oz ok n2
            by_cases hE : pollE s oz ok = 0
            · obtain ⟨r1, i1, hpl, hpt2⟩ := poll_ok (now := n2) hE
              rw [hE, hpl]
              unfold lsV
              have HPT := Lib.hid hpt2
              clear hE hpl hpt hpt2
              replace hX := (hm_blk hX (by repeat first | exact Locs.nil | refine Locs.cons (mP_loc _ _) ?_ | refine Locs.cons (blkA_loc _ _ _) ?_ | refine Locs.cons (rowA_loc _ _ _ _ _) ?_) 46 #[.int .u64 (s.tok + 1), .int .i64 r1, .int .i64 ok, .int .i64 i1, .int .i64 oz, .int .i64 (n2 + 20)]).third
              go_upto_region 16 with fail
              generalize hw : w4.alloc _ = w5 at *
              generalize w4.heap.size = lb at *
              clear hw
              have hl := hX.blk (g := lb) (T := 46) (cs := #[.int .u64 (s.tok + 1), .int .i64 r1, .int .i64 ok, .int .i64 i1, .int .i64 oz, .int .i64 (n2 + 20)]) (by simp)
              have y0 : World.cell? w5 ⟨lb, 0, none⟩ = some (.int .u64 (s.tok + 1)) := hl.cell 0
              have y1 : World.cell? w5 ⟨lb, 1, none⟩ = some (.int .i64 r1) := hl.cell 1
              have y2 : World.cell? w5 ⟨lb, 2, none⟩ = some (.int .i64 ok) := hl.cell 2
              have y3 : World.cell? w5 ⟨lb, 3, none⟩ = some (.int .i64 i1) := hl.cell 3
              have y4 : World.cell? w5 ⟨lb, 4, none⟩ = some (.int .i64 oz) := hl.cell 4
              have y5 : World.cell? w5 ⟨lb, 5, none⟩ = some (.int .i64 (n2 + 20)) := hl.cell 5
              have hbl := hX.blk (g := bx) (T := 59) (cs := #[.int .i64 oo, .int .i64 orr, .int .i64 ok, .int .i64 oi, .int .i64 oz, .int .u64 ot, .int .i64 oc]) (by simp)
              have b0 : World.cell? w5 ⟨bx, 0, none⟩ = some (.int .i64 oo) := hbl.cell 0
              have b1 : World.cell? w5 ⟨bx, 1, none⟩ = some (.int .i64 orr) := hbl.cell 1
              have b2 : World.cell? w5 ⟨bx, 2, none⟩ = some (.int .i64 ok) := hbl.cell 2
              have b3 : World.cell? w5 ⟨bx, 3, none⟩ = some (.int .i64 oi) := hbl.cell 3
              have b4 : World.cell? w5 ⟨bx, 4, none⟩ = some (.int .i64 oz) := hbl.cell 4
              have b5 : World.cell? w5 ⟨bx, 5, none⟩ = some (.int .u64 ot) := hbl.cell 5
              have b6 : World.cell? w5 ⟨bx, 6, none⟩ = some (.int .i64 oc) := hbl.cell 6
              have htl : ¬ s.tok + 1 ≤ last := by omega
              go_wp2_with fail
              go_meet
              exact ⟨_, s.tok + 1, rfl, by omega, by rw [HPT.out]; exact Int.le_refl _, HI2.out, hX.drop.drop⟩
            · obtain ⟨cc, hcc⟩ : ∃ c, pollE s oz ok = c := ⟨_, rfl⟩
              rw [hcc] at hE ⊢
              have hcb : (cc == 0) = false := by simpa using hE
              clear hE hcc
              generalize pollL s oz ok n2 = lx
              unfold lsV
              go_upto_region 16 with fail
              generalize hw_ : World.alloc w4 _ = w5 at *
              have hE_ : Ext w4 w5 := by rw [← hw_]; exact ext_alloc _ _
              generalize w4.heap.size = lb at *
              clear hw_
              replace hX := hX.ext (by repeat first | exact Locs.nil | refine Locs.cons (mP_loc _ _) ?_ | refine Locs.cons (blkA_loc _ _ _) ?_ | refine Locs.cons (rowA_loc _ _ _ _ _) ?_) hE_
              clear hE_
              go_wp2_with fail
              go_meet
              exact ⟨_, last, rfl, hl0, Int.le_trans hl1 hpt, HI2.out, hX.swap.drop⟩
          · rw [hk] at b0
            go_wp2_with fail
            refine (hm_done hX (by repeat first | exact Locs.nil | refine Locs.cons (mP_loc _ _) ?_ | refine Locs.cons (blkA_loc _ _ _) ?_ | refine Locs.cons (rowA_loc _ _ _ _ _) ?_) ot).mono ?_
            clear hX hbl b0 b1 b2 b3 b4 b5 b6
            rintro e w4 ⟨rfl, hX⟩
            go_wp2_with fail
            go_meet
            exact ⟨s.done ot, last, rfl, hl0, hl1, hI1.less (less_done s ot n2) hnb.1, hX.swap.drop⟩
          · rw [hk] at b0
            go_wp2_with fail
            have hGE := fun (l : Ls) (hl : l ∈ s.late n2) => gone_expire hI.one hl
            have hGU := fun (l : Ls) (hl : l ∈ s.late n2) => late_until hl
            have hGK := fun (l : Ls) (hl : l ∈ s.late n2) => hI.lok l (List.mem_filter.1 hl).1
            have hLb : (s.late n2).length ≤ 256 := by
              obtain ⟨F_, hF_⟩ := hX.head
              exact Nat.le_trans (List.length_filter_le _ _) (mP_ln hF_)
            refine (hm_expire hX (by repeat first | exact Locs.nil | refine Locs.cons (mP_loc _ _) ?_ | refine Locs.cons (blkA_loc _ _ _) ?_ | refine Locs.cons (rowA_loc _ _ _ _ _) ?_) n2 hnb.1 (by omega) (fun k hk x hx => by have := hI.since k (by omega) x hx; omega)).mono ?_
            clear hX hbl b0 b1 b2 b3 b4 b5 b6
            rintro e w4 ⟨v, rfl, hX⟩
            have HI2 := Lib.hid (hI1.less (less_expire hI.one n2) hnb.1)
            have hlt : last ≤ (s.expire n2).tok := by rw [(less_expire hI.one n2).t]; exact hl1
            generalize s.late n2 = out at *
            generalize s.expire n2 = s1 at *
            obtain ⟨L, hL⟩ : ∃ n, out.length = n := ⟨_, rfl⟩
            rw [hL] at hX hLb
            have HL := Lib.hid hL
            have HGE := Lib.hid hGE
            have HGU := Lib.hid hGU
            have HGK := Lib.hid hGK
            clear hL hGE hGU hGK
            obtain ⟨F_, hF_⟩ := hX.head
            obtain ⟨pv, cv, rfl⟩ := ownsRow_slice hF_.1
            clear hF_
            go_wp2_with fail
            go_loopw [99] (fun vi wr => OutRel w mb s1 _ (.slice pv L cv) L out vi wr) (fun vi _ => ((L : Int) + 1 - intOf vi).toNat)
            case atStart => exact ⟨[], out, rfl, rfl, hX⟩
            case round =>
              clear hX
              obtain ⟨pre, post, hx, rfl, hX⟩ := hrel
              cases post with
              | nil =>
                have hx' : out = pre := by simpa using hx
                have hl2 : ¬ ((pre.length : Int) < L) := by rw [← HL.out, hx']; omega
                clear hx hx'
                go_wp2_with fail
                go_meet
                exact ⟨s1, last, rfl, hl0, hlt, HI2.out, hX.drop.swap.drop⟩
              | cons l post =>
                have hl2 : (pre.length : Int) < L := by rw [← HL.out, hx]; simp; omega
                have hm : l ∈ out := by rw [hx]; simp
                have hlu := HGU.out l hm
                have HLK := Lib.hid (HGE.out l hm)
                have hlok := HGK.out l hm
                obtain ⟨F_, hF_⟩ := hX.head
                have hrw := hF_.1
                rw [hx] at hrw
                obtain ⟨g, rfl, -, hg, x0, x1, x2, x3, x4, x5⟩ := lease_at (by rw [← HL.out, hx]) hrw
                have HX := Lib.hid hx
                clear hx hm hrw hF_
                obtain ⟨lt, lr, lk, li, lw, lu⟩ := l
                replace hlu : lu ≤ n2 := hlu
                go_upto_region 26 with fail
                replace hX := hm_blk hX (by repeat first | exact Locs.nil | refine Locs.cons (mP_loc _ _) ?_ | refine Locs.cons (blkA_loc _ _ _) ?_ | refine Locs.cons (rowA_loc _ _ _ _ _) ?_) 46 #[.int .u64 lt, .int .i64 lr, .int .i64 lk, .int .i64 li, .int .i64 lw, .int .i64 lu]
                generalize hw : World.alloc wr _ = w5 at *
                generalize wr.heap.size = lb at *
                clear hw x0 x1 x2 x3 x4 x5
                have hl := hX.blk (g := lb) (T := 46) (cs := #[.int .u64 lt, .int .i64 lr, .int .i64 lk, .int .i64 li, .int .i64 lw, .int .i64 lu]) (by simp)
                have y1 : World.cell? w5 ⟨lb, 1, none⟩ = some (.int .i64 lr) := hl.cell 1
                have y2 : World.cell? w5 ⟨lb, 2, none⟩ = some (.int .i64 lk) := hl.cell 2
                have y3 : World.cell? w5 ⟨lb, 3, none⟩ = some (.int .i64 li) := hl.cell 3
                have y4 : World.cell? w5 ⟨lb, 4, none⟩ = some (.int .i64 lw) := hl.cell 4
                have y5 : World.cell? w5 ⟨lb, 5, none⟩ = some (.int .i64 lu) := hl.cell 5
                obtain ⟨Fm, hFm⟩ := hX.match_ (m := mb) (s := s1) (by simp)
                replace HLK : Hid (s1.known lr lk li = false) := HLK
                go_wp2_with fail
                refine (known_any w5 mb s1 Fm lr lk li hFm hlok).mono ?_
                rintro e w6 ⟨rfl, hE6⟩
                rw [HLK.out]
                replace hX := hX.ext (by repeat first | exact Locs.nil | refine Locs.cons (mP_loc _ _) ?_ | refine Locs.cons (blkA_loc _ _ _) ?_ | refine Locs.cons (rowA_loc _ _ _ _ _) ?_) hE6
                clear hE6 hFm hl y1 y2 y3 y4 y5
                go_wp2_with fail
                exact ⟨⟨pre ++ [⟨lt, lr, lk, li, lw, lu⟩], post, by rw [HX.out]; simp, by simp, hX.drop⟩, by simp [intOf]; omega⟩
          · rw [hk] at b0
            go_wp2_with fail
            have hGE := fun (l : Ls) (hl : l ∈ s.lost oz) => gone_lose hI.one (now := n2) hl
            have hGK := fun (l : Ls) (hl : l ∈ s.lost oz) => hI.lok l (lost_mem hl)
            have hLb : (s.lost oz).length ≤ 256 := by
              obtain ⟨F_, hF_⟩ := hX.head
              exact Nat.le_trans (lost_le s oz) (mP_ln hF_)
            refine (hm_lose hX (by repeat first | exact Locs.nil | refine Locs.cons (mP_loc _ _) ?_ | refine Locs.cons (blkA_loc _ _ _) ?_ | refine Locs.cons (rowA_loc _ _ _ _ _) ?_) oz n2 (by omega) (by omega)).mono ?_
            clear hX hbl b0 b1 b2 b3 b4 b5 b6
            rintro e w4 ⟨v, rfl, hX⟩
            have HI2 := Lib.hid (hI1.less (less_lose hI.one oz n2) hnb.1)
            have hlt : last ≤ (s.lose oz n2).tok := by rw [(less_lose hI.one oz n2).t]; exact hl1
            generalize s.lost oz = out at *
            generalize s.lose oz n2 = s1 at *
            obtain ⟨L, hL⟩ : ∃ n, out.length = n := ⟨_, rfl⟩
            rw [hL] at hX hLb
            have HL := Lib.hid hL
            have HGE := Lib.hid hGE
            have HGK := Lib.hid hGK
            clear hL hGE hGK
            obtain ⟨F_, hF_⟩ := hX.head
            obtain ⟨pv, cv, rfl⟩ := ownsRow_slice hF_.1
            clear hF_
            go_wp2_with fail
            go_loopw [120] (fun vi wr => OutRel w mb s1 (blkA bx 59 #[.int .i64 oo, .int .i64 orr, .int .i64 ok, .int .i64 oi, .int .i64 oz, .int .u64 ot, .int .i64 oc]) (.slice pv L cv) L out vi wr) (fun vi _ => ((L : Int) + 1 - intOf vi).toNat)
            case atStart => exact ⟨[], out, rfl, rfl, hX⟩
            case round =>
              clear hX
              obtain ⟨pre, post, hx, rfl, hX⟩ := hrel
              cases post with
              | nil =>
                have hx' : out = pre := by simpa using hx
                have hl2 : ¬ ((pre.length : Int) < L) := by rw [← HL.out, hx']; omega
                clear hx hx'
                go_wp2_with fail
                go_meet
                exact ⟨s1, last, rfl, hl0, hlt, HI2.out, hX.drop.swap.drop⟩
              | cons l post =>
                have hl2 : (pre.length : Int) < L := by rw [← HL.out, hx]; simp; omega
                have hm : l ∈ out := by rw [hx]; simp
                have HLK := Lib.hid (HGE.out l hm).1
                have hlw := (HGE.out l hm).2
                have hlok := HGK.out l hm
                obtain ⟨F_, hF_⟩ := hX.head
                have hrw := hF_.1
                rw [hx] at hrw
                obtain ⟨g, rfl, -, hg, x0, x1, x2, x3, x4, x5⟩ := lease_at (by rw [← HL.out, hx]) hrw
                have HX := Lib.hid hx
                clear hx hm hrw hF_
                obtain ⟨lt, lr, lk, li, lw, lu⟩ := l
                obtain rfl : lw = oz := hlw
                go_upto_region 33 with fail
                replace hX := hm_blk hX (by repeat first | exact Locs.nil | refine Locs.cons (mP_loc _ _) ?_ | refine Locs.cons (blkA_loc _ _ _) ?_ | refine Locs.cons (rowA_loc _ _ _ _ _) ?_) 46 #[.int .u64 lt, .int .i64 lr, .int .i64 lk, .int .i64 li, .int .i64 lw, .int .i64 lu]
                generalize hw : World.alloc wr _ = w5 at *
                generalize wr.heap.size = lb at *
                clear hw x0 x1 x2 x3 x4 x5
                have hl := hX.blk (g := lb) (T := 46) (cs := #[.int .u64 lt, .int .i64 lr, .int .i64 lk, .int .i64 li, .int .i64 lw, .int .i64 lu]) (by simp)
                have y1 : World.cell? w5 ⟨lb, 1, none⟩ = some (.int .i64 lr) := hl.cell 1
                have y2 : World.cell? w5 ⟨lb, 2, none⟩ = some (.int .i64 lk) := hl.cell 2
                have y3 : World.cell? w5 ⟨lb, 3, none⟩ = some (.int .i64 li) := hl.cell 3
                have y4 : World.cell? w5 ⟨lb, 4, none⟩ = some (.int .i64 lw) := hl.cell 4
                have y5 : World.cell? w5 ⟨lb, 5, none⟩ = some (.int .i64 lu) := hl.cell 5
                have hbl := hX.blk (g := bx) (T := 59) (cs := #[.int .i64 oo, .int .i64 orr, .int .i64 ok, .int .i64 oi, .int .i64 lw, .int .u64 ot, .int .i64 oc]) (by simp)
                have b4 : World.cell? w5 ⟨bx, 4, none⟩ = some (.int .i64 lw) := hbl.cell 4
                obtain ⟨Fm, hFm⟩ := hX.match_ (m := mb) (s := s1) (by simp)
                replace HLK : Hid (s1.known lr lk li = false) := HLK
                go_wp2_with fail
                refine (known_any w5 mb s1 Fm lr lk li hFm hlok).mono ?_
                rintro e w6 ⟨rfl, hE6⟩
                rw [HLK.out]
                replace hX := hX.ext (by repeat first | exact Locs.nil | refine Locs.cons (mP_loc _ _) ?_ | refine Locs.cons (blkA_loc _ _ _) ?_ | refine Locs.cons (rowA_loc _ _ _ _ _) ?_) hE6
                clear hE6 hFm hl y1 y2 y3 y4 y5 b4 hbl
                go_wp2_with fail
                exact ⟨⟨pre ++ [⟨lt, lr, lk, li, lw, lu⟩], post, by rw [HX.out]; simp, by simp, hX.drop⟩, by simp [intOf]; omega⟩
          · obtain ⟨h0, h1, h3, h4, h5⟩ := hk
            have e0 : (oo == 0) = false := by simpa using h0
            have e1 : (oo == 1) = false := by simpa using h1
            have e3 : (oo == 3) = false := by simpa using h3
            have e4 : (oo == 4) = false := by simpa using h4
            have e5 : (oo == 5) = false := by simpa using h5
            go_wp2_with fail
            go_meet
            exact ⟨s, last, rfl, hl0, hl1, hI1, hX.swap.drop⟩
        case rest =>
          obtain ⟨s1, last1, rfl, hl0', hl1', hI1, hX⟩ := hcut
          have hz0 := hX.base
          go_upto_region 37 with fail
          replace hX := hs_new hX (by repeat first | exact Locs.nil | refine Locs.cons (mP_loc _ _) ?_ | refine Locs.cons (blkA_loc _ _ _) ?_ | refine Locs.cons (rowA_loc _ _ _ _ _) ?_ | refine Locs.cons (seenA_loc _ _) ?_)
          generalize hw : World.alloc wc _ = w4 at *
          generalize wc.heap.size = g at *
          clear hw
          obtain ⟨Fm, hFm⟩ := hX.match_ (m := mb) (s := s1) (by simp)
          have hwl := waitQ_le (s := s1) (fun k hk => mP_qn hFm hk) 64 (by omega)
          have hll := mP_ln hFm
          have hap := apart_of (fun r k i => Nat.le_trans (Nat.le_add_right _ (lc s1.ls r k i)) (hI1.one r k i) : ∀ r k i, kc (waitQ s1 64) r k i ≤ 1)
          have hkn : ∀ x ∈ waitQ s1 64, s1.known x.run x.kind x.id = true := fun x hx => known_iff.2 (by have := kc_mem hx; unfold cnt; omega)
          have hko : ∀ x ∈ waitQ s1 64, TaskOk x.run x.kind x.id := fun x hx => by
            obtain ⟨k, hk, hxk⟩ := waitQ_mem.1 hx
            exact hI1.qok k hk x hxk
          have hlk : ∀ l ∈ s1.ls, s1.known l.run l.kind l.id = true := fun l hl => known_iff.2 (by have := lc_mem hl; unfold cnt; omega)
          have hlw : ∀ l ∈ s1.ls, ∀ x ∈ waitQ s1 64, isK x l.run l.kind l.id = false := fun l hl x hx => by simpa using List.any_eq_false.1 (hI1.one.lease hl) x hx
          have hlp := apartL_of (fun r k i => Nat.le_trans (Nat.le_add_left _ (kc (waitQ s1 64) r k i)) (hI1.one r k i) : ∀ r k i, lc s1.ls r k i ≤ 1)
          have hlo := hI1.lok
          go_wp2_with fail
          refine (waiting_any w4 mb s1 Fm hFm).mono ?_
          rintro e w5 ⟨v, rfl, hown, hE⟩
          clear hFm
          replace hX := (hX.add (by repeat first | exact Locs.nil | refine Locs.cons (mP_loc _ _) ?_ | refine Locs.cons (blkA_loc _ _ _) ?_ | refine Locs.cons (rowA_loc _ _ _ _ _) ?_ | refine Locs.cons (seenA_loc _ _) ?_) hE (p := rowA 42 3 v (waitQ s1 64).length (flatIt (waitQ s1 64))) ⟨ownsRow_base hown (fun _ _ => Nat.zero_le _), rfl⟩ (fun k hk => (hown.lt k hk).1)).swap
          clear hE
          generalize waitQ s1 64 = xs at *
          obtain ⟨L, hL⟩ : ∃ n, xs.length = n := ⟨_, rfl⟩
          obtain ⟨pv, cv, rfl⟩ := ownsRow_slice hown
          rw [hL] at hX hwl ⊢
          have HL := Lib.hid hL
          have HAP := Lib.hid hap
          have HKN := Lib.hid hkn
          have HKO := Lib.hid hko
          have HLKN := Lib.hid hlk
          have HLW := Lib.hid hlw
          have HLP := Lib.hid hlp
          have HLO := Lib.hid hlo
          clear hL hap hkn hko hown hlk hlw hlp hlo
          go_wp2_with fail
          go_loopw [138] (fun vi wr => SnRel w mb s1 g (.slice pv L cv) L xs vi wr) (fun vi _ => ((L : Int) + 1 - intOf vi).toNat)
          case atStart => exact ⟨[], xs, rfl, rfl, hX⟩
          case round =>
            clear hX
            obtain ⟨pre, post, hx, rfl, hX⟩ := hrel
            cases post with
            | nil =>
              obtain rfl : xs = pre := by simpa using hx
              have hl2 : ¬ ((xs.length : Int) < L) := by rw [← HL.out]; omega
              clear hx
              replace hX := hX.swap.drop
              go_wp2_with fail
              obtain ⟨Fm, hFm⟩ := hX.match_ (m := mb) (s := s1) (by simp)
              refine (leases_any wr mb s1 Fm hFm).mono ?_
              rintro e w5 ⟨v, rfl, hown, hnew, hE⟩
              clear hFm
              replace hX := (hX.add (by repeat first | exact Locs.nil | refine Locs.cons (mP_loc _ _) ?_ | refine Locs.cons (blkA_loc _ _ _) ?_ | refine Locs.cons (rowA_loc _ _ _ _ _) ?_ | refine Locs.cons (seenA_loc _ _) ?_) hE (p := rowA 46 6 v s1.ls.length (flatL s1.ls)) ⟨hown, rfl⟩ hnew).swap
              clear hE hnew
              obtain ⟨pl, cl, rfl⟩ := ownsRow_slice hown
              clear hown
              obtain ⟨ls, hls⟩ : ∃ l, s1.ls = l := ⟨_, rfl⟩
              rw [hls] at hX hll ⊢
              have HLKN2 : Hid (∀ l ∈ ls, s1.known l.run l.kind l.id = true) := Lib.hid (by rw [← hls]; exact HLKN.out)
              have HLW2 : Hid (∀ l ∈ ls, ∀ x ∈ xs, isK x l.run l.kind l.id = false) := Lib.hid (by rw [← hls]; exact HLW.out)
              have HLP2 : Hid (ls.Pairwise fun a b => isL a b.run b.kind b.id = false) := Lib.hid (by rw [← hls]; exact HLP.out)
              have HLO2 : Hid (∀ l ∈ ls, TaskOk l.run l.kind l.id) := Lib.hid (by rw [← hls]; exact HLO.out)
              clear hls HLKN HLW HLP HLO
              obtain ⟨M, hM⟩ : ∃ n, ls.length = n := ⟨_, rfl⟩
              rw [hM] at hX hll ⊢
              have HM := Lib.hid hM
              clear hM
              go_wp2_with fail
              go_loopw [155] (fun vi wr => SlRel w mb s1 g (xs.map key3) (.slice pl M cl) M ls vi wr) (fun vi _ => ((M : Int) + 1 - intOf vi).toNat)
              case atStart => exact ⟨[], ls, rfl, rfl, by simpa using hX⟩
              case round =>
                clear hX
                obtain ⟨pre, post, hx, rfl, hX⟩ := hrel
                cases post with
                | nil =>
                  obtain rfl : ls = pre := by simpa using hx
                  have hl3 : ¬ ((ls.length : Int) < M) := by rw [← HM.out]; omega
                  clear hx
                  go_wp2_with fail
                  exact ⟨⟨i + 1, s1, n2, last1, by omega, by go_num, rfl, rfl, hnb.1, by have := hnb.2; omega, hl0', hl1', hI1, hX.drop.drop⟩, by simp [intOf]; omega⟩
                | cons l post =>
                  have hl3 : (pre.length : Int) < M := by rw [← HM.out, hx]; simp; omega
                  have hm : l ∈ ls := by rw [hx]; simp
                  have HKX := Lib.hid (HLKN2.out l hm)
                  have hokx := HLO2.out l hm
                  have hno : (xs.map key3 ++ pre.map keyL3).any (isT3 · l.run l.kind l.id) = false := by
                    rw [List.any_append, Bool.or_eq_false_iff, List.any_map, List.any_map, List.any_eq_false, List.any_eq_false]
                    refine ⟨fun y hy => ?_, fun y hy => ?_⟩
                    · have h2 := HLW2.out l hm y hy
                      exact fun h3 => by rw [show isK y l.run l.kind l.id = true from h3] at h2; cases h2
                    · have h1 := HLP2.out
                      rw [hx, List.pairwise_append] at h1
                      have h2 := h1.2.2 y hy l (by simp)
                      exact fun h3 => by rw [show isL y l.run l.kind l.id = true from h3] at h2; cases h2
                  have hpl : pre.length ≤ 256 := by omega
                  have hxl : xs.length ≤ 8320 := by rw [HL.out]; omega
                  obtain ⟨F_, hF_⟩ := hX.swap.head
                  have hrw := hF_.1
                  rw [hx] at hrw
                  obtain ⟨gg, rfl, -, hg, x0, x1, x2, x3, x4, x5⟩ := lease_at (by rw [← HM.out, hx]) hrw
                  have HX := Lib.hid hx
                  clear hx hm hrw hF_
                  obtain ⟨lt, xr, xk, xi, lw, lu⟩ := l
                  go_upto_region 47 with fail
                  replace hX := (hm_blk hX (by repeat first | exact Locs.nil | refine Locs.cons (mP_loc _ _) ?_ | refine Locs.cons (blkA_loc _ _ _) ?_ | refine Locs.cons (rowA_loc _ _ _ _ _) ?_ | refine Locs.cons (seenA_loc _ _) ?_) 46 #[.int .u64 lt, .int .i64 xr, .int .i64 xk, .int .i64 xi, .int .i64 lw, .int .i64 lu]).swap
                  generalize hw : World.alloc wr _ = w6 at *
                  generalize wr.heap.size = tb at *
                  clear hw x0 x1 x2 x3 x4 x5
                  have hbt := hX.blk (g := tb) (T := 46) (cs := #[.int .u64 lt, .int .i64 xr, .int .i64 xk, .int .i64 xi, .int .i64 lw, .int .i64 lu]) (by simp)
                  have y1 : World.cell? w6 ⟨tb, 1, none⟩ = some (.int .i64 xr) := hbt.cell 1
                  have y2 : World.cell? w6 ⟨tb, 2, none⟩ = some (.int .i64 xk) := hbt.cell 2
                  have y3 : World.cell? w6 ⟨tb, 3, none⟩ = some (.int .i64 xi) := hbt.cell 3
                  obtain ⟨Fm, hFm⟩ := hX.match_ (m := mb) (s := s1) (by simp)
                  have hrun := hs_no hX xr xk xi hokx hno
                  replace HKX : Hid (s1.known xr xk xi = true) := HKX
                  go_wp2_with fail
                  refine (known_any w6 mb s1 Fm xr xk xi hFm hokx).mono ?_
                  rintro e w7 ⟨rfl, hE6⟩
                  rw [HKX.out]
                  replace hX := hX.ext (by repeat first | exact Locs.nil | refine Locs.cons (mP_loc _ _) ?_ | refine Locs.cons (blkA_loc _ _ _) ?_ | refine Locs.cons (rowA_loc _ _ _ _ _) ?_ | refine Locs.cons (seenA_loc _ _) ?_) hE6
                  clear hE6 hFm hbt y1 y2 y3 hrun hno
                  have hbt := hX.blk (g := tb) (T := 46) (cs := #[.int .u64 lt, .int .i64 xr, .int .i64 xk, .int .i64 xi, .int .i64 lw, .int .i64 lu]) (by simp)
                  have y1 : World.cell? w7 ⟨tb, 1, none⟩ = some (.int .i64 xr) := hbt.cell 1
                  have y2 : World.cell? w7 ⟨tb, 2, none⟩ = some (.int .i64 xk) := hbt.cell 2
                  have y3 : World.cell? w7 ⟨tb, 3, none⟩ = some (.int .i64 xi) := hbt.cell 3
                  go_wp2_with (at_mapUpdate; refine hs_put hX (by repeat first | exact Locs.nil | refine Locs.cons (mP_loc _ _) ?_ | refine Locs.cons (blkA_loc _ _ _) ?_ | refine Locs.cons (rowA_loc _ _ _ _ _) ?_ | refine Locs.cons (seenA_loc _ _) ?_) xr xk xi hokx rfl _ _ _ rfl rfl rfl rfl (by simp; omega) ?_)
                  intro w8 hX8
                  clear hX hbt y1 y2 y3
                  replace hX8 := hX8.swap.drop
                  go_wp2_with fail
                  exact ⟨⟨pre ++ [⟨lt, xr, xk, xi, lw, lu⟩], post, by rw [HX.out]; simp, by simp, by simpa [keyL3] using hX8⟩, by simp [intOf]; omega⟩
            | cons x post =>
              have hl2 : (pre.length : Int) < L := by rw [← HL.out, hx]; simp; omega
              have hm : x ∈ xs := by rw [hx]; simp
              have HKX := Lib.hid (HKN.out x hm)
              have hokx := HKO.out x hm
              have hno : (pre.map key3).any (isT3 · x.run x.kind x.id) = false := by
                rw [List.any_map, List.any_eq_false]
                intro y hy
                have h1 := HAP.out
                rw [hx, List.pairwise_append] at h1
                have h2 := h1.2.2 y hy x (by simp)
                exact fun h3 => by rw [show isK y x.run x.kind x.id = true from h3] at h2; cases h2
              have hpl : pre.length ≤ 8320 := by omega
              obtain ⟨F_, hF_⟩ := hX.swap.head
              have hrw := hF_.1
              rw [hx] at hrw
              obtain ⟨gg, rfl, -, hg, x0, x1, x2⟩ := task_at (by rw [← HL.out, hx]) hrw
              have HX := Lib.hid hx
              clear hx hm hrw hF_
              obtain ⟨xr, xk, xi, xs_⟩ := x
              go_upto_region 40 with fail
              replace hX := (hm_blk hX (by repeat first | exact Locs.nil | refine Locs.cons (mP_loc _ _) ?_ | refine Locs.cons (blkA_loc _ _ _) ?_ | refine Locs.cons (rowA_loc _ _ _ _ _) ?_ | refine Locs.cons (seenA_loc _ _) ?_) 42 #[.int .i64 xr, .int .i64 xk, .int .i64 xi]).swap
              generalize hw : World.alloc wr _ = w6 at *
              generalize wr.heap.size = tb at *
              clear hw x0 x1 x2
              have hbt := hX.blk (g := tb) (T := 42) (cs := #[.int .i64 xr, .int .i64 xk, .int .i64 xi]) (by simp)
              have y0 : World.cell? w6 ⟨tb, 0, none⟩ = some (.int .i64 xr) := hbt.cell 0
              have y1 : World.cell? w6 ⟨tb, 1, none⟩ = some (.int .i64 xk) := hbt.cell 1
              have y2 : World.cell? w6 ⟨tb, 2, none⟩ = some (.int .i64 xi) := hbt.cell 2
              obtain ⟨Fm, hFm⟩ := hX.match_ (m := mb) (s := s1) (by simp)
              have hrun := hs_no hX xr xk xi hokx hno
              replace HKX : Hid (s1.known xr xk xi = true) := HKX
              go_wp2_with fail
              refine (known_any w6 mb s1 Fm xr xk xi hFm hokx).mono ?_
              rintro e w7 ⟨rfl, hE6⟩
              rw [HKX.out]
              replace hX := hX.ext (by repeat first | exact Locs.nil | refine Locs.cons (mP_loc _ _) ?_ | refine Locs.cons (blkA_loc _ _ _) ?_ | refine Locs.cons (rowA_loc _ _ _ _ _) ?_ | refine Locs.cons (seenA_loc _ _) ?_) hE6
              clear hE6 hFm hbt y0 y1 y2 hrun hno
              have hbt := hX.blk (g := tb) (T := 42) (cs := #[.int .i64 xr, .int .i64 xk, .int .i64 xi]) (by simp)
              have y0 : World.cell? w7 ⟨tb, 0, none⟩ = some (.int .i64 xr) := hbt.cell 0
              have y1 : World.cell? w7 ⟨tb, 1, none⟩ = some (.int .i64 xk) := hbt.cell 1
              have y2 : World.cell? w7 ⟨tb, 2, none⟩ = some (.int .i64 xi) := hbt.cell 2
              go_wp2_with (at_mapUpdate; refine hs_put hX (by repeat first | exact Locs.nil | refine Locs.cons (mP_loc _ _) ?_ | refine Locs.cons (blkA_loc _ _ _) ?_ | refine Locs.cons (rowA_loc _ _ _ _ _) ?_ | refine Locs.cons (seenA_loc _ _) ?_) xr xk xi hokx rfl _ _ _ rfl rfl rfl rfl (by simp; omega) ?_)
              intro w8 hX8
              clear hX hbt y0 y1 y2
              replace hX8 := hX8.swap.drop
              go_wp2_with fail
              exact ⟨⟨pre ++ [⟨xr, xk, xi, xs_⟩], post, by rw [HX.out]; simp, by simp, by simpa [key3] using hX8⟩, by simp [intOf]; omega⟩
    · go_wp2_with fail
      go_ret
      exact ⟨rfl, hH.base⟩
end Go.Proofs.Ytfbolgdecdfnaaa
