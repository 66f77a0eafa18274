/- The document's matches: leave. -/
import Derived.Test.YtfbolgdecdfnaaaPPoll
namespace Go.Proofs.Ytfbolgdecdfnaaa
set_option maxRecDepth 4000
set_option linter.unusedVariables false
set_option linter.unusedSimpArgs false
open Go Go.RowKit Go.Maps Go.ChangeMaps Go.MapKept
def leaves (late : Bool) (z now : Int) (l : Ls) : Bool := if late = true then decide (l.until_ ≤ now) else l.worker == z
def LvRel (w : World) (ls : List Ls) (p : Ls → Bool) (B1 B2 : Asr) (v10 v11 vi : Value) (wr : World) : Prop :=
  ∃ pre post, ls = pre ++ post ∧ vi = .int .i64 pre.length ∧ Has w wr [rowA 46 6 v10 (outL p pre).length (flatL (outL p pre)), rowA 46 6 v11 (keepL p pre).length (flatL (keepL p pre)), B1, B2]
/-- leases that are handed out, and the world that is left -/
def RLeft (W : World) (vw vl : Value) (t : Int) (ws : List Hd) (ls : List Ls) (p : Ls → Bool) (e : Ending) (W' : World) : Prop :=
  ∃ vl' vo, e = .returned (.tuple #[rwV vw vl' t, vo]) ∧ RRows W' vw ws vl' (keepL p ls) ∧ W'.ownsRow 0 46 6 vo (outL p ls).length (flatL (outL p ls)) ∧ Ext W W' ∧ (∀ g, vl'.ownBlock = some g → W.heap.size ≤ g) ∧ (∀ g, vo.ownBlock = some g → W.heap.size ≤ g ∧ vl'.ownBlock ≠ some g)
theorem Has.apart2 {w W : World} {p q : Asr} {ps : List Asr} (h : Has w W (p :: q :: ps)) : ∃ F G, p W F ∧ q W G ∧ ∀ k, F k → ¬ G k := by
  obtain ⟨F, h1, h2, G, h3, h4, _⟩ := h
  exact ⟨F, G, h1, h3, fun k hk hg => (h4 k hg).2 (Or.inr hk)⟩
set_option maxRecDepth 100000 in
set_option maxHeartbeats 40000000 in
theorem rleave_any (W : World) (vw vl : Value) (t : Int) (ws : List Hd) (ls : List Ls) (late : Bool) (z now : Int) (h : RRows W vw ws vl ls) (hl : ls.length ≤ 900) :
    Calls Try.prog 20 #[rwV vw vl t, .bool late, .int .i64 z, .int .i64 now] W fun e W' => RLeft W vw vl t ws ls (leaves late z now) e W' := by
  have hR := h
  have hX := hm_blk (hm_blk (Has.nil (Ext.refl W)) .nil 65 #[vw, vl, .int .u64 t]) (by repeat first | exact Locs.nil | refine Locs.cons (mP_loc _ _) ?_ | refine Locs.cons (blkA_loc _ _ _) ?_ | refine Locs.cons (rowA_loc _ _ _ _ _) ?_) 65 #[.slice none 0 0, .slice none 0 0, .int .u64 0]
  have ea : ∀ (w : World) (o : Obj), (w.alloc o).heap.size = w.heap.size + 1 := fun w o => by simp
  rw [ea] at hX
  clear ea
  obtain ⟨pw, cw, rfl⟩ := ownsRow_slice h.w
  obtain ⟨pl, cl, rfl⟩ := ownsRow_slice h.l
  obtain ⟨K, hK⟩ : ∃ n, ws.length = n := ⟨_, rfl⟩
  obtain ⟨L, hL⟩ : ∃ n, ls.length = n := ⟨_, rfl⟩
  rw [hK] at hX hR ⊢
  rw [hL] at hX hl hR ⊢
  have HL := Lib.hid hL
  have HKK := Lib.hid hK
  clear hL hK h
  obtain ⟨i0, hi0, hi1, hi2, hi3⟩ := info_parts6 lsInfo
  have hnilrow : ∀ (X : World), X.ownsRow 0 46 6 (.slice none 0 0) 0 (flatL []) := fun X => World.ownsRow_nil _ _ _ _
  go_enter Try.func20, Try.ntmps20
  go_upto_region 1 with fail
  generalize hw0 : World.alloc (World.alloc W _) _ = w1 at *
  generalize hbxn : W.heap.size = bx at *
  have HBX := Lib.hid hbxn
  clear hw0 hbxn
  replace hX := hX.add (by repeat first | exact Locs.nil | refine Locs.cons (mP_loc _ _) ?_ | refine Locs.cons (blkA_loc _ _ _) ?_ | refine Locs.cons (rowA_loc _ _ _ _ _) ?_) (Ext.refl w1) (p := rowA 46 6 (.slice none 0 0) 0 (flatL [])) ⟨hnilrow w1, rfl⟩ (fun k hk => by simp [Value.ownBlock] at hk)
  replace hX := hX.add (by repeat first | exact Locs.nil | refine Locs.cons (mP_loc _ _) ?_ | refine Locs.cons (blkA_loc _ _ _) ?_ | refine Locs.cons (rowA_loc _ _ _ _ _) ?_) (Ext.refl w1) (p := rowA 46 6 (.slice none 0 0) 0 (flatL [])) ⟨hnilrow w1, rfl⟩ (fun k hk => by simp [Value.ownBlock] at hk)
  clear hnilrow
  have hbw := hX.blk (g := bx) (T := 65) (cs := #[.slice pw K cw, .slice pl L cl, .int .u64 t]) (by simp)
  have a1 : w1.cell? ⟨bx, 1, none⟩ = some (.slice pl L cl) := hbw.cell 1
  go_wp2_with fail
  clear a1 hbw
  generalize hpp : leaves late z now = p at *
  have HPP := Lib.hid hpp
  clear hpp
  go_loopw [10, 11, 17] (fun v10 v11 vi wr => LvRel W ls p _ _ v10 v11 vi wr) (fun _ _ vi _ => ((L : Int) + 1 - intOf vi).toNat)
  case atStart => exact ⟨[], ls, rfl, rfl, hX⟩
  case round =>
    clear hX
    obtain ⟨pre, post, hx, rfl, hH⟩ := hrel
    cases post with
    | nil =>
      obtain rfl : ls = pre := by simpa using hx
      have hl2 : ¬ ((ls.length : Int) < L) := by rw [← HL.out]; omega
      clear hx
      obtain ⟨ow1, lo1⟩ := hH.owned (e := 46) (size := 6) (v := u10) (n := (outL p ls).length) (xs := flatL (outL p ls)) (by simp)
      obtain ⟨ow2, lo2⟩ := hH.owned (e := 46) (size := 6) (v := u11) (n := (keepL p ls).length) (xs := flatL (keepL p ls)) (by simp)
      obtain ⟨p10, d10, rfl⟩ := ownsRow_slice ow1
      obtain ⟨p11, d11, rfl⟩ := ownsRow_slice ow2
      obtain ⟨A, hA⟩ : ∃ n, (outL p ls).length = n := ⟨_, rfl⟩
      obtain ⟨B, hB⟩ : ∃ n, (keepL p ls).length = n := ⟨_, rfl⟩
      rw [hA, hB] at hH
      rw [hA] at ⊢
      rw [hB] at ⊢
      rw [hA] at lo1
      rw [hB] at lo2
      have HA := Lib.hid hA
      have HBB := Lib.hid hB
      clear ow1 ow2 hA hB
      have hbw := hH.blk (g := bx) (T := 65) (cs := #[.slice pw K cw, (.slice pl L cl), .int .u64 t]) (by simp)
      have a0 : World.cell? wr ⟨bx, 0, none⟩ = some (.slice pw K cw) := hbw.cell 0
      have a1 : World.cell? wr ⟨bx, 1, none⟩ = some (.slice pl L cl) := hbw.cell 1
      have a2 : World.cell? wr ⟨bx, 2, none⟩ = some (.int .u64 t) := hbw.cell 2
      have fz : wr.frozen? ⟨bx, 1, none⟩ = false := hbw.frozen 1
      have hlt := hbw.lt
      go_upto_region 10 with fail
      clear a0 a1 a2 fz hlt hbw
      replace hH := hH.fourth.set (by repeat first | exact Locs.nil | refine Locs.cons (mP_loc _ _) ?_ | refine Locs.cons (blkA_loc _ _ _) ?_ | refine Locs.cons (rowA_loc _ _ _ _ _) ?_) 1 (.slice p11 B d11)
      generalize hw : World.setCell wr _ _ = w5 at *
      clear hw
      replace hH : Has W w5 [blkA bx 65 #[.slice pw K cw, .slice p11 B d11, .int .u64 t], rowA 46 6 (.slice p10 A d10) A (flatL (outL p ls)), rowA 46 6 (.slice p11 B d11) B (flatL (keepL p ls)), blkA (bx + 1) 65 #[.slice none 0 0, .slice none 0 0, .int .u64 0]] := hH
      have hbw := hH.blk (g := bx) (T := 65) (cs := #[.slice pw K cw, (.slice p11 B d11), .int .u64 t]) (by simp)
      have a0 : World.cell? w5 ⟨bx, 0, none⟩ = some (.slice pw K cw) := hbw.cell 0
      have a1 : World.cell? w5 ⟨bx, 1, none⟩ = some (.slice p11 B d11) := hbw.cell 1
      have a2 : World.cell? w5 ⟨bx, 2, none⟩ = some (.int .u64 t) := hbw.cell 2
      have hb8 := hH.blk (g := bx + 1) (T := 65) (cs := #[.slice none 0 0, .slice none 0 0, .int .u64 0]) (by simp)
      replace hH := hH.fourth.row (cs := rwA (.slice pw K cw) (.slice p11 B d11) t) (by repeat first | exact Locs.nil | refine Locs.cons (mP_loc _ _) ?_ | refine Locs.cons (blkA_loc _ _ _) ?_ | refine Locs.cons (rowA_loc _ _ _ _ _) ?_)
      have hbr := hH.blk (g := bx + 1) (T := 65) (cs := rwA (.slice pw K cw) (.slice p11 B d11) t) (by simp)
      obtain ⟨ow1, -⟩ := hH.owned (e := 46) (size := 6) (v := .slice p10 A d10) (n := A) (xs := flatL (outL p ls)) (by simp)
      obtain ⟨ow2, -⟩ := hH.owned (e := 46) (size := 6) (v := .slice p11 B d11) (n := B) (xs := flatL (keepL p ls)) (by simp)
      have hap := hH.drop.drop.apart2
      have hEf := hH.base
      go_wp2_with (refine wpList_store_row rfl _ _ _ rfl (bx + 1) (rwA (.slice pw K cw) (.slice p11 B d11) t) rfl rfl _ _ hb8 rwInfo rfl (rwA_all _ _ _ _ _ _ _) ?_)
      refine bodyPost_ret (v := .tuple #[rwV (.slice pw K cw) (.slice p11 B d11) t, .slice p10 A d10]) (results_cell2 Try.results20 _ _ (bx + 1) 65 (rwA (.slice pw K cw) (.slice p11 B d11) t) _ _ rfl hbr Try.underlying65 rfl rwInfo) rfl ?_
      refine ⟨_, _, rfl, ⟨(hR.ext hEf).w, ?_⟩, ?_, hEf, lo2, fun g hg => ⟨lo1 g hg, fun hg2 => ?_⟩⟩
      · rw [HPP.out, HBB.out]; exact ow2
      · rw [HPP.out, HA.out]; exact ow1
      · obtain ⟨F, G, ⟨_, rfl⟩, ⟨_, rfl⟩, hd⟩ := hap
        exact hd g hg hg2
    | cons l post =>
      have hl2 : (pre.length : Int) < L := by rw [← HL.out, hx]; simp; omega
      have hrw := (hR.ext hH.base).l
      rw [HL.out, hx] at hrw
      obtain ⟨g, hpe, -, hg, x0, x1, x2, x3, x4, x5⟩ := lease_at (by rw [← HL.out, hx]) hrw
      subst hpe
      have HX := Lib.hid hx
      clear hx hrw
      have hbt0 := Blk.new wr 46 (lsA zeroL)
      obtain ⟨lt, lr, lk, li, lw, lu⟩ := l
      have hkn : (outL p pre).length ≤ pre.length := List.length_filter_le _ _
      have hkk : (keepL p pre).length ≤ pre.length := List.length_filter_le _ _
      obtain ⟨nk, hnk⟩ : ∃ n, (outL p pre).length = n := ⟨_, rfl⟩
      obtain ⟨kk, hkkn⟩ : ∃ n, (keepL p pre).length = n := ⟨_, rfl⟩
      have HNK := Lib.hid hnk
      have HKK2 := Lib.hid hkkn
      rw [hnk] at hkn
      rw [hkkn] at hkk
      clear hnk hkkn
      go_upto_region 5 with (refine wpList_store_row rfl _ _ _ rfl wr.heap.size (lsA ⟨lt, lr, lk, li, lw, lu⟩) rfl rfl _ _ hbt0 (leaseInfo' _) rfl (lsA_all _) ?_)
      refine gen_world' (fun X => Ext wr X ∧ Blk X wr.heap.size 46 (lsA ⟨lt, lr, lk, li, lw, lu⟩)) ⟨setRow_ext' (ext_alloc wr _) (Nat.le_refl _), setRow_blk hbt0⟩ ?_
      clear hbt0 x0 x1 x2 x3 x4 x5
      rintro w3 ⟨hE3, hbt⟩
      obtain ⟨bt, hbtn⟩ : ∃ b, b = wr.heap.size := ⟨_, rfl⟩
      rw [← hbtn] at hbt ⊢
      clear hbtn
      have c4 : w3.cell? ⟨bt, 4, none⟩ = some (.int .i64 lw) := hbt.cell 4
      have c5 : w3.cell? ⟨bt, 5, none⟩ = some (.int .i64 lu) := hbt.cell 5
      try simp only [Act.put]
      obtain ⟨pv, hpv⟩ : ∃ b, p ⟨lt, lr, lk, li, lw, lu⟩ = b := ⟨_, rfl⟩
      have hpl : (if late = true then decide (lu ≤ now) else (lw == z)) = pv := by rw [← hpv, ← HPP.out]; rfl
      have HB := Lib.hid hpv
      clear hpv
      cases late with
      | true =>
        replace hpl : decide (lu ≤ now) = pv := by simpa using hpl
        cases pv with
        | true => have e1 : outL p (pre ++ [⟨lt, lr, lk, li, lw, lu⟩]) = outL p pre ++ [⟨lt, lr, lk, li, lw, lu⟩] := by unfold outL; rw [List.filter_append]; simp [HB.out]
                  have e2 : keepL p (pre ++ [⟨lt, lr, lk, li, lw, lu⟩]) = keepL p pre := by unfold keepL; rw [List.filter_append]; simp [HB.out]
                  have E1 := Lib.hid e1
                  have E2 := Lib.hid e2
                  clear e1 e2
                  have hH3 := hH.ext (by repeat first | exact Locs.nil | refine Locs.cons (mP_loc _ _) ?_ | refine Locs.cons (blkA_loc _ _ _) ?_ | refine Locs.cons (rowA_loc _ _ _ _ _) ?_) hE3
                  rw [HNK.out] at hH3
                  clear hH
                  have hH2 := hH3.ext (by repeat first | exact Locs.nil | refine Locs.cons (mP_loc _ _) ?_ | refine Locs.cons (blkA_loc _ _ _) ?_ | refine Locs.cons (rowA_loc _ _ _ _ _) ?_) (ext_alloc w3 (.cells #[.int .u64 lt, .int .i64 lr, .int .i64 lk, .int .i64 li, .int .i64 lw, .int .i64 lu] 46))
                  have hnews := news_new w3 (lsC ⟨lt, lr, lk, li, lw, lu⟩) 46
                  obtain ⟨Fp, hFp⟩ := hH2.head
                  have hown := hFp.1
                  go_wp2_with (first | (refine wpList_load_row rfl _ _ rfl bt rfl _ #[.int .u64 lt, .int .i64 lr, .int .i64 lk, .int .i64 li, .int .i64 lw, .int .i64 lu] _ _ hbt Try.underlying46 rfl leaseInfo ?_) | (at_builtin; refine wpList_append_new rfl _ _ 38 rfl 46 i0 (.agg (lsA zeroL)) 6 48 Try.underlying38 hi0 hi1 hi2 hi3 rfl (by decide) _ _ _ rfl hown _ 1 1 (lsC ⟨lt, lr, lk, li, lw, lu⟩) rfl rfl (fun h => by cases h) hnews (lsC_one _) (by unfold maxLen; omega) (by omega) ?_))
                  intro v4 w4 hown4 hg4 hf4
                  have hH5 := hH2.next (by repeat first | exact Locs.nil | refine Locs.cons (mP_loc _ _) ?_ | refine Locs.cons (blkA_loc _ _ _) ?_ | refine Locs.cons (rowA_loc _ _ _ _ _) ?_) fun F hF => Next.mk (p' := rowA 46 6 v4 (nk + 1) (flatL (outL p pre) ++ lsC ⟨lt, lr, lk, li, lw, lu⟩)) ⟨hown4, rfl⟩ (by rw [hF.2]; exact grownBy.tch hg4) (by rw [hF.2]; exact hf4.1)
                  clear hH2 hH3 hFp hown hown4 hg4 hf4 hnews hbt c4 c5 hpl
                  go_wp2_with fail
                  refine ⟨⟨pre ++ [⟨lt, lr, lk, li, lw, lu⟩], post, by rw [HX.out]; simp, by simp, ?_⟩, by simp [intOf]; omega⟩
                  rw [E1.out, E2.out, flatL_append, List.length_append, HNK.out]
                  simpa [flatL] using hH5
        | false => have e1 : outL p (pre ++ [⟨lt, lr, lk, li, lw, lu⟩]) = outL p pre := by unfold outL; rw [List.filter_append]; simp [HB.out]
                   have e2 : keepL p (pre ++ [⟨lt, lr, lk, li, lw, lu⟩]) = keepL p pre ++ [⟨lt, lr, lk, li, lw, lu⟩] := by unfold keepL; rw [List.filter_append]; simp [HB.out]
                   have E1 := Lib.hid e1
                   have E2 := Lib.hid e2
                   clear e1 e2
                   have hH3 := (hH.ext (by repeat first | exact Locs.nil | refine Locs.cons (mP_loc _ _) ?_ | refine Locs.cons (blkA_loc _ _ _) ?_ | refine Locs.cons (rowA_loc _ _ _ _ _) ?_) hE3).swap
                   rw [HKK2.out] at hH3
                   clear hH
                   have hH2 := hH3.ext (by repeat first | exact Locs.nil | refine Locs.cons (mP_loc _ _) ?_ | refine Locs.cons (blkA_loc _ _ _) ?_ | refine Locs.cons (rowA_loc _ _ _ _ _) ?_) (ext_alloc w3 (.cells #[.int .u64 lt, .int .i64 lr, .int .i64 lk, .int .i64 li, .int .i64 lw, .int .i64 lu] 46))
                   have hnews := news_new w3 (lsC ⟨lt, lr, lk, li, lw, lu⟩) 46
                   obtain ⟨Fp, hFp⟩ := hH2.head
                   have hown := hFp.1
                   go_wp2_with (first | (refine wpList_load_row rfl _ _ rfl bt rfl _ #[.int .u64 lt, .int .i64 lr, .int .i64 lk, .int .i64 li, .int .i64 lw, .int .i64 lu] _ _ hbt Try.underlying46 rfl leaseInfo ?_) | (at_builtin; refine wpList_append_new rfl _ _ 38 rfl 46 i0 (.agg (lsA zeroL)) 6 48 Try.underlying38 hi0 hi1 hi2 hi3 rfl (by decide) _ _ _ rfl hown _ 1 1 (lsC ⟨lt, lr, lk, li, lw, lu⟩) rfl rfl (fun h => by cases h) hnews (lsC_one _) (by unfold maxLen; omega) (by omega) ?_))
                   intro v4 w4 hown4 hg4 hf4
                   have hH5 := (hH2.next (by repeat first | exact Locs.nil | refine Locs.cons (mP_loc _ _) ?_ | refine Locs.cons (blkA_loc _ _ _) ?_ | refine Locs.cons (rowA_loc _ _ _ _ _) ?_) fun F hF => Next.mk (p' := rowA 46 6 v4 (kk + 1) (flatL (keepL p pre) ++ lsC ⟨lt, lr, lk, li, lw, lu⟩)) ⟨hown4, rfl⟩ (by rw [hF.2]; exact grownBy.tch hg4) (by rw [hF.2]; exact hf4.1)).swap
                   clear hH2 hH3 hFp hown hown4 hg4 hf4 hnews hbt c4 c5 hpl
                   go_wp2_with fail
                   refine ⟨⟨pre ++ [⟨lt, lr, lk, li, lw, lu⟩], post, by rw [HX.out]; simp, by simp, ?_⟩, by simp [intOf]; omega⟩
                   rw [E1.out, E2.out, flatL_append, List.length_append, HKK2.out]
                   simpa [flatL] using hH5
      | false =>
        replace hpl : (lw == z) = pv := by simpa using hpl
        cases pv with
        | true => have e1 : outL p (pre ++ [⟨lt, lr, lk, li, lw, lu⟩]) = outL p pre ++ [⟨lt, lr, lk, li, lw, lu⟩] := by unfold outL; rw [List.filter_append]; simp [HB.out]
                  have e2 : keepL p (pre ++ [⟨lt, lr, lk, li, lw, lu⟩]) = keepL p pre := by unfold keepL; rw [List.filter_append]; simp [HB.out]
                  have E1 := Lib.hid e1
                  have E2 := Lib.hid e2
                  clear e1 e2
                  have hH3 := hH.ext (by repeat first | exact Locs.nil | refine Locs.cons (mP_loc _ _) ?_ | refine Locs.cons (blkA_loc _ _ _) ?_ | refine Locs.cons (rowA_loc _ _ _ _ _) ?_) hE3
                  rw [HNK.out] at hH3
                  clear hH
                  have hH2 := hH3.ext (by repeat first | exact Locs.nil | refine Locs.cons (mP_loc _ _) ?_ | refine Locs.cons (blkA_loc _ _ _) ?_ | refine Locs.cons (rowA_loc _ _ _ _ _) ?_) (ext_alloc w3 (.cells #[.int .u64 lt, .int .i64 lr, .int .i64 lk, .int .i64 li, .int .i64 lw, .int .i64 lu] 46))
                  have hnews := news_new w3 (lsC ⟨lt, lr, lk, li, lw, lu⟩) 46
                  obtain ⟨Fp, hFp⟩ := hH2.head
                  have hown := hFp.1
                  go_wp2_with (first | (refine wpList_load_row rfl _ _ rfl bt rfl _ #[.int .u64 lt, .int .i64 lr, .int .i64 lk, .int .i64 li, .int .i64 lw, .int .i64 lu] _ _ hbt Try.underlying46 rfl leaseInfo ?_) | (at_builtin; refine wpList_append_new rfl _ _ 38 rfl 46 i0 (.agg (lsA zeroL)) 6 48 Try.underlying38 hi0 hi1 hi2 hi3 rfl (by decide) _ _ _ rfl hown _ 1 1 (lsC ⟨lt, lr, lk, li, lw, lu⟩) rfl rfl (fun h => by cases h) hnews (lsC_one _) (by unfold maxLen; omega) (by omega) ?_))
                  intro v4 w4 hown4 hg4 hf4
                  have hH5 := hH2.next (by repeat first | exact Locs.nil | refine Locs.cons (mP_loc _ _) ?_ | refine Locs.cons (blkA_loc _ _ _) ?_ | refine Locs.cons (rowA_loc _ _ _ _ _) ?_) fun F hF => Next.mk (p' := rowA 46 6 v4 (nk + 1) (flatL (outL p pre) ++ lsC ⟨lt, lr, lk, li, lw, lu⟩)) ⟨hown4, rfl⟩ (by rw [hF.2]; exact grownBy.tch hg4) (by rw [hF.2]; exact hf4.1)
                  clear hH2 hH3 hFp hown hown4 hg4 hf4 hnews hbt c4 c5 hpl
                  go_wp2_with fail
                  refine ⟨⟨pre ++ [⟨lt, lr, lk, li, lw, lu⟩], post, by rw [HX.out]; simp, by simp, ?_⟩, by simp [intOf]; omega⟩
                  rw [E1.out, E2.out, flatL_append, List.length_append, HNK.out]
                  simpa [flatL] using hH5
        | false => have e1 : outL p (pre ++ [⟨lt, lr, lk, li, lw, lu⟩]) = outL p pre := by unfold outL; rw [List.filter_append]; simp [HB.out]
                   have e2 : keepL p (pre ++ [⟨lt, lr, lk, li, lw, lu⟩]) = keepL p pre ++ [⟨lt, lr, lk, li, lw, lu⟩] := by unfold keepL; rw [List.filter_append]; simp [HB.out]
                   have E1 := Lib.hid e1
                   have E2 := Lib.hid e2
                   clear e1 e2
                   have hH3 := (hH.ext (by repeat first | exact Locs.nil | refine Locs.cons (mP_loc _ _) ?_ | refine Locs.cons (blkA_loc _ _ _) ?_ | refine Locs.cons (rowA_loc _ _ _ _ _) ?_) hE3).swap
                   rw [HKK2.out] at hH3
                   clear hH
                   have hH2 := hH3.ext (by repeat first | exact Locs.nil | refine Locs.cons (mP_loc _ _) ?_ | refine Locs.cons (blkA_loc _ _ _) ?_ | refine Locs.cons (rowA_loc _ _ _ _ _) ?_) (ext_alloc w3 (.cells #[.int .u64 lt, .int .i64 lr, .int .i64 lk, .int .i64 li, .int .i64 lw, .int .i64 lu] 46))
                   have hnews := news_new w3 (lsC ⟨lt, lr, lk, li, lw, lu⟩) 46
                   obtain ⟨Fp, hFp⟩ := hH2.head
                   have hown := hFp.1
                   go_wp2_with (first | (refine wpList_load_row rfl _ _ rfl bt rfl _ #[.int .u64 lt, .int .i64 lr, .int .i64 lk, .int .i64 li, .int .i64 lw, .int .i64 lu] _ _ hbt Try.underlying46 rfl leaseInfo ?_) | (at_builtin; refine wpList_append_new rfl _ _ 38 rfl 46 i0 (.agg (lsA zeroL)) 6 48 Try.underlying38 hi0 hi1 hi2 hi3 rfl (by decide) _ _ _ rfl hown _ 1 1 (lsC ⟨lt, lr, lk, li, lw, lu⟩) rfl rfl (fun h => by cases h) hnews (lsC_one _) (by unfold maxLen; omega) (by omega) ?_))
                   intro v4 w4 hown4 hg4 hf4
                   have hH5 := (hH2.next (by repeat first | exact Locs.nil | refine Locs.cons (mP_loc _ _) ?_ | refine Locs.cons (blkA_loc _ _ _) ?_ | refine Locs.cons (rowA_loc _ _ _ _ _) ?_) fun F hF => Next.mk (p' := rowA 46 6 v4 (kk + 1) (flatL (keepL p pre) ++ lsC ⟨lt, lr, lk, li, lw, lu⟩)) ⟨hown4, rfl⟩ (by rw [hF.2]; exact grownBy.tch hg4) (by rw [hF.2]; exact hf4.1)).swap
                   clear hH2 hH3 hFp hown hown4 hg4 hf4 hnews hbt c4 c5 hpl
                   go_wp2_with fail
                   refine ⟨⟨pre ++ [⟨lt, lr, lk, li, lw, lu⟩], post, by rw [HX.out]; simp, by simp, ?_⟩, by simp [intOf]; omega⟩
                   rw [E1.out, E2.out, flatL_append, List.length_append, HKK2.out]
                   simpa [flatL] using hH5
end Go.Proofs.Ytfbolgdecdfnaaa
