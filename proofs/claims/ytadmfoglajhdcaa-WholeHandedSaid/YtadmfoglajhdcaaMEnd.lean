/- The walks of a match's Known, Given, Waiting and Drop. -/
import Derived.Test.YtadmfoglajhdcaaMDone
namespace Go.Proofs.Ytadmfoglajhdcaa
set_option maxRecDepth 4000
set_option linter.unusedVariables false
set_option linter.unusedSimpArgs false
open Go Go.RowKit Go.Maps Go.ChangeMaps Go.MapKept
def waitQ (s : MS) : Nat → List It
  | 0 => s.q 0
  | j + 1 => waitQ s j ++ s.q (j + 1)
theorem waitQ_le {s : MS} (h : ∀ k, k < 65 → (s.q k).length ≤ 128) : ∀ j, j < 65 → (waitQ s j).length ≤ 128 * (j + 1)
  | 0, hj => h 0 hj
  | j + 1, hj => by
    have h1 := waitQ_le h j (by omega)
    have h2 := h (j + 1) hj
    rw [waitQ, List.length_append]; omega
theorem taskInfo3 : (Try.prog.info? 43).map (fun i => (i.zero, i.size, i.bytes)) = some (some (.agg (tkA zeroT)), 3, 24) := by kernel_rfl
theorem flatIt_one {xs : List It} : ∀ u ∈ flatIt xs, u.oneCell' = true := by
  intro u hu
  simp only [flatIt, List.mem_flatMap] at hu
  obtain ⟨l, _, hu⟩ := hu
  simp at hu
  rcases hu with rfl | rfl | rfl <;> rfl
def WaitOut (W : World) (xs : List It) (e : Ending) (W' : World) : Prop := ∃ v, e = .returned v ∧ W'.ownsRow W.heap.size 43 3 v xs.length (flatIt xs) ∧ Ext W W'
def WtRel (W : World) (s : MS) (v3 vi : Value) (wr : World) : Prop := ∃ j : Nat, j ≤ 64 ∧ vi = .int .i64 j ∧ wr.ownsRow W.heap.size 43 3 v3 (waitQ s j).length (flatIt (waitQ s j)) ∧ Ext W wr
set_option maxRecDepth 100000 in
theorem waiting_any (W : World) (m : Nat) (s : MS) (F : Nat → Prop) (h : mP m s W F) :
    Calls Try.prog 6 #[.pointer (some ⟨m, 0, none⟩)] W fun e W' => WaitOut W (waitQ s 64) e W' := by
  have hm := mP_m h
  have hqn := fun k (hk : k < 65) => mP_qn h hk
  have hwq := waitQ_le hqn
  have hqs := fun k (hk : k < 65) => mP_q h hk rfl
  obtain ⟨i0, hi0, hi1, hi2, hi3⟩ := info_parts6 taskInfo3
  go_enter Try.func6, Try.ntmps6
  obtain ⟨G0, hq0⟩ := hqs 0 (by omega)
  have hq0n := hqn 0 (by omega)
  have HWQ := Lib.hid hwq
  have HQN := Lib.hid hqn
  clear hwq hqn
  go_wp2_with fail
  refine (qp_list hq0 (by omega)).mono ?_
  rintro e w1 ⟨v, rfl, hown, hE1⟩
  clear hq0 hq0n
  go_wp2_with fail
  go_loopw [3, 9] (fun v3 vi wr => WtRel W s v3 vi wr) (fun _ vi _ => (65 - intOf vi).toNat)
  case atStart => exact ⟨0, by omega, rfl, hown, hE1⟩
  case round =>
    clear hown hE1
    obtain ⟨j, hj, rfl, hown, hE⟩ := hrel
    by_cases gj : (j : Int) < 64
    · obtain ⟨G, hq⟩ := hqs (j + 1) (by omega)
      have ho : 1 + (j + 1) * 3 = 4 + j * 3 := by omega
      rw [ho] at hq
      have hqn := HQN.out (j + 1) (by omega)
      have hwn := HWQ.out j (by omega)
      have hq' := hq.ext hE
      obtain ⟨N, hN⟩ : ∃ n, (waitQ s j).length = n := ⟨_, rfl⟩
      obtain ⟨L, hL⟩ : ∃ n, (s.q (j + 1)).length = n := ⟨_, rfl⟩
      have HN := Lib.hid hN
      have HL := Lib.hid hL
      obtain ⟨p3, c3, rfl⟩ := ownsRow_slice hown
      rw [hN] at hown hwn ⊢
      rw [hL] at hqn
      clear hN hL ho hq
      go_wp2_with fail
      refine (qp_list hq' (by rw [HL.out]; omega)).mono ?_
      rintro e w2 ⟨v2, rfl, hown2, hE2⟩
      rw [HL.out] at hown2
      obtain ⟨p2, c2, rfl⟩ := ownsRow_slice hown2
      have hn0 := row_nil hown2
      have hnews := row_news hown2
      have hown1 := ownsRow_ext hown hE2
      have hlo : ∀ g, (Value.slice p3 N c3).ownBlock = some g → W.heap.size ≤ g := fun g hg => (hown.lt g hg).1
      have hown0 := ownsRow_base (b' := 0) hown1 (fun _ _ => Nat.zero_le _)
      have HLO := Lib.hid hlo
      have HN0 := Lib.hid hn0
      have HNE := Lib.hid hnews
      clear hown1 hown hlo hq' hn0 hnews
      go_wp2_with (at_builtin; refine wpList_append_new rfl _ _ 47 rfl 43 i0 (.agg (tkA zeroT)) 3 24 Try.underlying47 hi0 hi1 hi2 hi3 rfl (by decide) _ _ _ rfl hown0 p2 L c2 (flatIt (s.q (j + 1))) rfl (by rw [flatIt_length, HL.out]) HN0.out HNE.out flatIt_one (by unfold maxLen; omega) (by omega) ?_)
      intro v4 w4 hown4 hg4 hf4
      obtain ⟨hE4, hb4⟩ := fresh_ext (hE.trans hE2) HLO.out hg4 hf4
      have hown5 := ownsRow_base (b' := W.heap.size) hown4 hb4
      clear hown4 hown0 hg4 hf4 hb4 hown2
      go_wp2_with fail
      refine ⟨⟨j + 1, by omega, by go_num, ?_, hE4⟩, by simp [intOf]; omega⟩
      rw [waitQ, List.length_append, HN.out, HL.out, flatIt_append]
      exact hown5
    · have hj64 : j = 64 := by omega
      subst hj64
      go_wp2_with fail
      go_ret
      exact ⟨_, rfl, hown, hE⟩
/-! ### Drop -/
theorem dropF_any (W : World) (b : Nat) (t : Int) (l : Ls) (h : W.cell? ⟨b, 0, none⟩ = some (.int .i64 t)) :
    Calls Try.prog 24 #[lsV l, .pointer (some ⟨b, 0, none⟩)] W fun e W' => e = .returned (.bool (l.run == t)) ∧ Ext W W' := by
  have hlt := World.block_lt_of_cell? W _ h
  unfold lsV
  go_enter Try.func24, Try.ntmps24
  go_wp2
  all_goals
    go_ret
    refine ⟨?_, ext_alloc _ _⟩
    first | rfl | simp_all
set_option maxRecDepth 100000 in
theorem idxDrop_any (W : World) (pv : Option Addr) (L cv b : Nat) (ls : List Ls) (t : Int) (hL : Hid (L = ls.length)) (hb : (L : Int) ≤ 1000) (hown : W.ownsRow 0 56 6 (.slice pv L cv) L (flatL ls)) (h : W.cell? ⟨b, 0, none⟩ = some (.int .i64 t)) :
    Calls Try.prog 31 #[.slice pv L cv, .func (.func 24) #[] #[.pointer (some ⟨b, 0, none⟩)]] W fun e W' => e = .returned (.int .i64 (firstAt (fun l => l.run == t) ls)) ∧ Ext W W' := by
    go_enter Try.func31, Try.ntmps31
    go_wp2_with fail
    go_loopw [8] (fun v wr => IxRel W L (.slice pv L cv) ls ((fun l => l.run == t)) v wr) (fun v _ => ((L : Int) + 1 - intOf v).toNat)
    case atStart => exact ⟨[], ls, rfl, rfl, by simp, Ext.refl _⟩
    case round =>
      obtain ⟨pre, post, hx, rfl, hno, hE⟩ := hrel
      have hlen := hL.out
      cases post with
      | nil =>
        have hx' : ls = pre := by simpa using hx
        subst hx'
        have HN := Lib.hid hno
        have hl2 : ¬ ((ls.length : Int) < L) := by omega
        clear hno hx hlen
        go_wp2_with fail
        go_ret
        exact ⟨by rw [firstAt_none HN.out]; rfl, hE⟩
      | cons l post =>
        subst hx
        have hl : (pre.length : Int) < L := by rw [hlen]; simp; omega
        have hown' := ownsRow_ext hown hE
        obtain ⟨g, rfl, -, hg, x0, x1, x2, x3, x4, x5⟩ := lease_at hlen hown'
        have HN := Lib.hid hno
        have HL := Lib.hid hlen
        clear hno hlen hown'
        obtain ⟨pl, hpl⟩ : ∃ b, (l.run == t) = b := ⟨_, rfl⟩
        have HB := Lib.hid hpl
        have hcl := dropF_any wr b t l ((hE.cell _ _ (World.block_lt_of_cell? W _ h)).trans h)
        rw [hpl] at hcl
        unfold lsV at hcl
        clear hpl
        go_wp2_with fail
        refine hcl.mono ?_
        rintro e w1 ⟨rfl, hE1⟩
        clear x0 x1 x2 x3 x4 x5 hcl
        cases pl with
        | true =>
          go_wp2_with fail
          go_ret
          exact ⟨by rw [firstAt_some HN.out HB.out]; rfl, hE.trans hE1⟩
        | false =>
          go_wp2_with fail
          refine ⟨⟨pre ++ [l], post, by simp, by simp, ?_, hE.trans hE1⟩, by have := HL.out; simp [intOf] at *; omega⟩
          intro x hx
          rcases List.mem_append.1 hx with h | h
          · exact HN.out x h
          · simp at h; subst h; exact HB.out
set_option maxRecDepth 100000 in
set_option maxHeartbeats 4000000 in
theorem delDrop_any (W : World) (pv : Option Addr) (L cv bx : Nat) (ls : List Ls) (t : Int) (hL : Hid (L = ls.length)) (hb : (L : Int) ≤ 1000) (hown : W.ownsRow 0 56 6 (.slice pv L cv) L (flatL ls)) (h : Caught W bx (.int .i64 t)) (hgn : ∀ g, pv = some ⟨g, 0, none⟩ → g ≠ bx) :
    Calls Try.prog 22 #[.slice pv L cv, .func (.func 24) #[] #[.pointer (some ⟨bx, 0, none⟩)]] W fun e W' => Cutted6 W (fun l => l.run == t) ls (fun k => (Value.slice pv L cv).ownBlock = some k) e W' := by
    go_enter Try.func22, Try.ntmps22
    go_wp2_with fail
    refine (idxDrop_any W pv L cv bx ls t hL hb hown h.c).mono ?_
    rintro e w ⟨rfl, hE0⟩
    rcases firstAt_split (p := (fun l => l.run == t)) (ls := ls) with ⟨h1, h2⟩ | ⟨a, l0, b0, hx, h1, h2, h3⟩
    · rw [h1]
      have H2 := Lib.hid h2
      clear h1 h2
      go_wp2_with fail
      go_ret
      refine ⟨_, rfl, ?_, fun b hb => hb, Tch.of_ext hE0⟩
      rw [H2.out, ← hL.out]
      exact ownsRow_ext hown hE0
    · rw [h1]
      have hlen := hL.out
      have hown' := ownsRow_ext hown hE0
      rw [hx] at hown' hlen
      obtain ⟨g, rfl, -, hg, -⟩ := lease_at hlen hown'
      have hrow := LRow.of_own hown' hlen
      have haL : (a.length : Int) + 1 ≤ L := by rw [hlen]; simp; omega
      have HX := Lib.hid hx
      have HL := Lib.hid hlen
      have H2 := Lib.hid h2
      have H3 := Lib.hid h3
      have hgb : g ≠ bx := fun e => hgn _ rfl e
      have hLc : L ≤ cv := by have := hrow.le; rw [hlen]; exact this
      have hz1 : ((a.length : Int) == -1) = false := by rw [beq_eq_false_iff_ne]; omega
      clear h1 h2 h3 hx hlen hown' hown
      go_wp2_with fail
      clear hz1
      go_loopw [5, 6] (fun vi vj wr => DFRel w g cv ls ((fun l => l.run == t)) vi vj wr) (fun _ vj _ => ((L : Int) + 1 - intOf vj).toNat)
      case atStart => exact ⟨a ++ [l0], b0, [l0], by rw [HX.out]; simp, by simp, by rw [H2.out], by simp, by rw [H2.out]; simp, by rw [H2.out]; simpa using hrow, Tch.refl _ _⟩
      case round =>
        clear hrow
        obtain ⟨pre, post, rest, hx, rfl, rfl, hne, hsum, hrow, ht⟩ := hrel
        have hlen : L = pre.length + post.length := by rw [hL.out, hx]; simp
        obtain ⟨ki, hki⟩ : ∃ k, (keepL ((fun l => l.run == t)) pre).length = k := ⟨_, rfl⟩
        have hr1 : 1 ≤ rest.length := by cases rest with | nil => exact absurd rfl hne | cons => simp
        have HKI := Lib.hid hki
        rw [hki] at hsum ⊢
        have hkL : (ki : Int) < L := by omega
        have hcb := (ht.cell (h.of hE0) (World.block_lt_of_cell? w _ (h.of hE0)) (fun e => hgb e.symm))
        cases post with
        | nil =>
          have hx' : ls = pre := by simpa using hx
          have hl2 : ¬ ((pre.length : Int) < L) := by simp at hlen; omega
          have HX2 := Lib.hid hx'
          have hth : wr.there g (ki * 6) ((L - ki) * 6) := hrow.there (by have : L ≤ cv := hLc; omega)
          have hcl := fun ty => run_clear6 wr ty g (ki * 6) (L - ki) (cv - ki) (by omega) hth
          have hrow2 : LRow (wr.setCells g (ki * 6) (flatL (List.replicate (L - ki) zeroL))) g cv (keepL ((fun l => l.run == t)) pre) := by
            have h4 : LRow wr g cv (keepL ((fun l => l.run == t)) pre ++ (rest ++ [])) := hrow
            refine (h4.put (m' := List.replicate (L - ki) zeroL) (by simp at hlen ⊢; omega) (by rw [HKI.out])).pre
          have htc := tch_setCells (g := g) (flatL (List.replicate (L - ki) zeroL)) (ki * 6) wr
          have HS := Lib.hid hsum
          clear hth hrow hx hx' hlen hsum hr1 hne hki hcb
          generalize hWC : wr.setCells g (ki * 6) (flatL (List.replicate (L - ki) zeroL)) = wc at *
          go_wp2_with fail
          go_ret
          refine ⟨_, rfl, ?_, fun b hb => hb, ?_⟩
          · rw [HX2.out, HKI.out]
            exact hrow2.own HKI.out.symm
          · refine (Tch.of_ext (S := fun k => k = g) hE0).trans (ht.trans htc (fun _ h _ => h)) (fun _ h _ => h) |>.mono fun k hk _ => by subst hk; rfl
        | cons l post =>
          have hl : (pre.length : Int) < L := by simp at hlen; omega
          obtain ⟨x0, x1, x2, x3, x4, x5⟩ := hrow.at (n := pre.length) (a := keepL ((fun l => l.run == t)) pre ++ rest) (b := post) (l := l) (by simp) (by simp [HKI.out]; omega)
          have hgr := hrow.lt
          have HN := Lib.hid hsum
          have HL2 := Lib.hid hlen
          have HX2 := Lib.hid hx
          have hth : wr.there g (ki * 6) 6 := hrow.there (by have : L ≤ cv := hLc; omega)
          clear hlen hsum hx
          obtain ⟨lt, lr, lk, li, lw, lu⟩ := l
          have hbt0 := Blk.new wr 56 (lsA zeroL)
          go_upto_region 8 with (refine wpList_store_row rfl _ _ _ rfl wr.heap.size (lsA ⟨lt, lr, lk, li, lw, lu⟩) rfl rfl _ _ hbt0 (leaseInfo' _) rfl (lsA_all _) ?_)
          refine gen_world' (fun X => Ext wr X ∧ Blk X wr.heap.size 56 (lsA ⟨lt, lr, lk, li, lw, lu⟩)) ⟨setRow_ext' (ext_alloc wr _) (Nat.le_refl _), setRow_blk hbt0⟩ ?_
          clear hbt0 x0 x1 x2 x3 x4 x5
          rintro w2 ⟨hE3, hbt⟩
          obtain ⟨bt, hbtn⟩ : ∃ b, b = wr.heap.size := ⟨_, rfl⟩
          rw [← hbtn] at hbt ⊢
          have HBT := Lib.hid hbtn
          clear hbtn
          try simp only [Act.put]
          have hcb2 := (hE3.cell _ _ (World.block_lt_of_cell? wr _ hcb)).trans hcb
          obtain ⟨pl, hpl⟩ : ∃ b, (lr == t) = b := ⟨_, rfl⟩
          have HB := Lib.hid hpl
          have hcl := dropF_any w2 bx t ⟨lt, lr, lk, li, lw, lu⟩ hcb2
          rw [hpl] at hcl
          unfold lsV at hcl
          go_wp2_with (first | (refine wpList_load_row rfl _ _ rfl bt rfl _ #[.int .u64 lt, .int .i64 lr, .int .i64 lk, .int .i64 li, .int .i64 lw, .int .i64 lu] _ _ hbt Try.underlying56 rfl leaseInfo ?_))
          refine hcl.mono ?_
          rintro e w3 ⟨rfl, hE4⟩
          clear hcl hpl hcb2
          have hE34 := hE3.trans hE4
          have hrow3 := hrow.ext hE34
          have hth3 : w3.there g (ki * 6) 6 := hrow3.there (by have : L ≤ cv := hLc; omega)
          have hbt3 := hbt.of_eq (hE4.block bt hbt.lt)
          clear hrow hth hbt
          cases pl with
          | true =>
            have hkeep : keepL ((fun l => l.run == t)) (pre ++ [⟨lt, lr, lk, li, lw, lu⟩]) = keepL ((fun l => l.run == t)) pre := by unfold keepL; rw [List.filter_append]; simp [HB.out]
            have HK := Lib.hid hkeep
            clear hkeep
            go_wp2_with fail
            refine ⟨⟨pre ++ [⟨lt, lr, lk, li, lw, lu⟩], post, rest ++ [⟨lt, lr, lk, li, lw, lu⟩], by rw [HX2.out]; simp, by simp, by rw [HK.out, HKI.out], by simp, by rw [HK.out, HKI.out]; have := HN.out; simp; omega, by rw [HK.out]; simpa using hrow3, ht.trans (Tch.of_ext (S := fun k => k = g) hE34) (fun _ h _ => h)⟩, by simp [intOf] at *; omega⟩
          | false =>
            have hkeep : keepL ((fun l => l.run == t)) (pre ++ [⟨lt, lr, lk, li, lw, lu⟩]) = keepL ((fun l => l.run == t)) pre ++ [⟨lt, lr, lk, li, lw, lu⟩] := by unfold keepL; rw [List.filter_append]; simp [HB.out]
            have HK := Lib.hid hkeep
            clear hkeep
            cases rest with
            | nil => exact absurd rfl hne
            | cons r0 rest =>
              have hput : LRow (w3.setCells g (ki * 6) (lsC ⟨lt, lr, lk, li, lw, lu⟩)) g cv (keepL ((fun l => l.run == t)) pre ++ ([⟨lt, lr, lk, li, lw, lu⟩] ++ (rest ++ ⟨lt, lr, lk, li, lw, lu⟩ :: post))) := by
                have h5 : LRow w3 g cv (keepL ((fun l => l.run == t)) pre ++ ([r0] ++ (rest ++ ⟨lt, lr, lk, li, lw, lu⟩ :: post))) := by simpa using hrow3
                have h6 := h5.put (m' := [⟨lt, lr, lk, li, lw, lu⟩]) rfl (o := ki * 6) (by rw [HKI.out])
                simpa [flatL] using h6
              have htc := tch_setCells (g := g) (lsC ⟨lt, lr, lk, li, lw, lu⟩) (ki * 6) w3
              have hput' : LRow (w3.setCells g (ki * 6) (lsC ⟨lt, lr, lk, li, lw, lu⟩)) g cv (keepL ((fun l => l.run == t)) pre ++ [⟨lt, lr, lk, li, lw, lu⟩] ++ ((rest ++ [⟨lt, lr, lk, li, lw, lu⟩]) ++ post)) := by simpa using hput
              clear hput hrow3
              go_upto_region 10 with (first | (refine wpList_load_row rfl _ _ rfl bt rfl _ #[.int .u64 lt, .int .i64 lr, .int .i64 lk, .int .i64 li, .int .i64 lw, .int .i64 lu] _ _ hbt3 Try.underlying56 rfl leaseInfo ?_) | (refine wpList_store_mid rfl _ _ _ rfl g (ki * 6) (lsA ⟨lt, lr, lk, li, lw, lu⟩) rfl rfl hth3 (leaseInfo' _) (lsA_all _) ?_))
              refine gen_world' (fun X => LRow X g cv (keepL ((fun l => l.run == t)) pre ++ [(⟨lt, lr, lk, li, lw, lu⟩ : Ls)] ++ ((rest ++ [(⟨lt, lr, lk, li, lw, lu⟩ : Ls)]) ++ post)) ∧ Tch (fun k => k = g) w3 X) ⟨hput', htc⟩ ?_
              clear hput' htc hth3 hbt3
              rintro w5 ⟨hput', htc⟩
              try simp only [Act.put]
              go_wp2_with fail
              refine ⟨⟨pre ++ [⟨lt, lr, lk, li, lw, lu⟩], post, rest ++ [⟨lt, lr, lk, li, lw, lu⟩], by rw [HX2.out]; simp, by simp, by rw [HK.out]; simp [HKI.out], by simp, by rw [HK.out]; have := HN.out; simp [HKI.out] at *; omega, by rw [HK.out]; exact hput', (ht.trans (Tch.of_ext (S := fun k => k = g) hE34) (fun _ h _ => h)).trans htc (fun _ h _ => h)⟩, by simp [intOf] at *; omega⟩
end Go.Proofs.Ytadmfoglajhdcaa
