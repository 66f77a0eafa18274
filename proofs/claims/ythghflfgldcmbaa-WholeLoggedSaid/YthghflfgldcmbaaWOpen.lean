/- A log's Open. -/
import Derived.Test.YthghflfgldcmbaaWFrames
import Derived.OwnWalk
namespace Go.Proofs.Ythghflfgldcmbaa
set_option maxRecDepth 4000
set_option linter.unusedVariables false
set_option linter.unusedSimpArgs false
open Go Go.RowKit
theorem wal_build (X : World) (d h t : Nat) : (Instr.build 65 #[(0, .pointer (some ⟨d, 0, none⟩)), (2, .int .u64 h), (3, .int .u64 t)]).run Try.prog X = .ok (.agg #[.pointer (some ⟨d, 0, none⟩), .pointer none, .int .u64 h, .int .u64 t, .slice none 0 0, .bool false]) X := by kernel_rfl
theorem restR_is {s : DS} {bs : List (List UInt8)} {B : Nat} (h : LInv s bs B) (hT : (layAll bs).length ≤ 24576) : s.restR (layAll bs).length = tailR (layAll bs) := by
  have hr : s.readB = s.sure := by funext i; unfold DS.readB; rw [h.pend]; rfl
  unfold DS.restR tailR
  rw [hr]
  by_cases h0 : (layAll bs).length % 128 = 0
  · rw [h0, List.take_zero, List.drop_eq_nil_of_le (by omega)]
  · have hl := h.len (2 + (layAll bs).length / 128) (by omega)
    apply List.ext_getElem?
    intro i
    rw [List.getElem?_take, List.getElem?_drop]
    by_cases hi : i < (layAll bs).length % 128
    · rw [if_pos hi]
      have := h.on ((layAll bs).length / 128 * 128 + i) (by omega)
      rw [show ((layAll bs).length / 128 * 128 + i) / 128 = (layAll bs).length / 128 by omega, show ((layAll bs).length / 128 * 128 + i) % 128 = i by omega] at this
      exact this
    · rw [if_neg hi, List.getElem?_eq_none (by omega)]
def WoOut (w W' : World) (d : Nat) (s : DS) (bs : List (List UInt8)) (ps : List Asr) (e : Ending) : Prop :=
  ∃ lg rg pr rc p c fs, fs.map (·.2.2) = bs ∧ e = .returned (.tuple #[.pointer (some ⟨lg, 0, none⟩), .slice p fs.length c, .int .i64 0]) ∧ dkH w W' d s (frL p c fs (logA lg d rg 0 (layAll bs).length (.slice none 0 0) false :: rgL rg d (layAll bs).length pr rc (tailR (layAll bs)) ps))
set_option maxHeartbeats 4000000 in
theorem wopen_any {w W : World} {d : Nat} {s : DS} {ps : List Asr} {bs : List (List UInt8)} {B : Nat} (h : dkH w W d s ps) (hl : Locs ps) (hI : LInv s bs B) (hT : (layAll bs).length ≤ 24576) (hs : ∀ b ∈ bs, b.length ≤ 300) (hbs : bs.length ≤ 64) :
    Calls Try.prog 5 #[.pointer (some ⟨d, 0, none⟩)] W fun e W' => WoOut w W' d s bs ps e := by
  have hrest := restR_is hI hT
  have hm : ∃ m z, getM s.looked = (m, z) ∧ (z = 0 ∨ z = 4) ∧ m 1 = 0 ∧ m 2 = (layAll bs).length := by
    unfold getM
    by_cases h0 : s.looked.1 0 = 0
    · rw [if_pos h0]
      have hz : s.looked.1 = zeroM := by
        rw [looked_lk hI.pend] at h0 ⊢
        exact (lk_none h0).2.2
      have ht := hI.tail
      rw [hz] at ht
      exact ⟨zeroM, 4, rfl, Or.inr rfl, rfl, ht⟩
    · rw [if_neg h0]
      exact ⟨s.looked.1, 0, rfl, Or.inl rfl, hI.head, hI.tail⟩
  obtain ⟨m, z, hgm, hz, hm1, hm2⟩ := hm
  obtain ⟨T, hTT⟩ : ∃ T, (layAll bs).length = T := ⟨_, rfl⟩
  have hbd := fun X => wal_build X d 0 T
  have hO : OnS s.readB (layAll bs) := by
    have hr : s.readB = s.sure := by funext i; unfold DS.readB; rw [hI.pend]; rfl
    rw [hr]; exact hI.on
  have hlT : (tailR (layAll bs)).length = T % 128 := by unfold tailR; rw [List.length_drop, hTT]; omega
  unfold WoOut
  rw [hTT] at hT hm2 hrest ⊢
  have HTT := Lib.hid hTT
  have HGM := Lib.hid hgm
  have HM := Lib.hid (And.intro hm1 hm2)
  clear hTT hgm hm1 hm2
  go_enter Try.func5, Try.ntmps5
  go_wp2_with fail
  refine (segments_any h hI.n).mono ?_
  rintro e _ ⟨rfl, rfl⟩
  go_wp2_with fail
  refine (get_any h hl (by have := hI.n; omega) hI.down).mono ?_
  rintro e w1 ⟨rfl, h1⟩
  rw [HGM.out]
  clear h
  simp only [mkA]
  have h2 := h1.new hl 60 (mkA m)
  clear h1
  go_upto_region 4 with fail
  refine gen_world' (fun X => dkH w X d s (blkA w1.heap.size 60 (mkA m) :: ps)) h2 ?_
  clear h2
  generalize w1.heap.size = gm at *
  intro w2 h2
  have c1 : w2.cell? ⟨gm, 1, none⟩ = some (.int .u64 0) := (h2.rest.blk0.cell 1).trans (show (some (.int .u64 (m 1 : Int)) : Option Value) = _ by rw [HM.out.1]; rfl)
  have c2 : w2.cell? ⟨gm, 2, none⟩ = some (.int .u64 T) := (h2.rest.blk0.cell 2).trans (show (some (.int .u64 (m 2 : Int)) : Option Value) = _ by rw [HM.out.2])
  have hzz : (z != 0 && z != 4) = false := by rcases hz with rfl | rfl <;> rfl
  go_cut [22] (fun v wx => v = .bool false ∧ wx = w2)
  case first =>
    rcases hz with rfl | rfl
    all_goals
      go_wp2_with fail
      go_meet
      exact ⟨rfl, rfl⟩
  case rest =>
    obtain ⟨rfl, rfl⟩ := hcut
    have h3 := h2.new (.cons (blkA_loc _ _ _) hl) 65 #[.pointer (some ⟨d, 0, none⟩), .pointer none, .int .u64 0, .int .u64 T, .slice none 0 0, .bool false]
    clear h2
    go_upto_region 7 with fail
    generalize wc.alloc (.cells #[.pointer (some ⟨d, 0, none⟩), .pointer none, .int .u64 0, .int .u64 T, .slice none 0 0, .bool false] 65) = w3 at *
    generalize wc.heap.size = lg at *
    have h4 : dkH w w3 d s (blkA lg 65 #[.pointer (some ⟨d, 0, none⟩), .pointer none, .int .u64 0, .int .u64 T, .slice none 0 0, .bool false] :: ps) := h3.swap_drop
    clear h3 c1 c2
    have hlb := h4.rest.blk0
    have d2 : ∀ x : Of (fun X => Blk X lg 65 #[.pointer (some ⟨d, 0, none⟩), .pointer none, .int .u64 0, .int .u64 T, .slice none 0 0, .bool false]), x.val.cell? ⟨lg, 2, none⟩ = some (.int .u64 0) := fun x => Blk.cell x.property 2
    have d3 : ∀ x : Of (fun X => Blk X lg 65 #[.pointer (some ⟨d, 0, none⟩), .pointer none, .int .u64 0, .int .u64 T, .slice none 0 0, .bool false]), x.val.cell? ⟨lg, 3, none⟩ = some (.int .u64 T) := fun x => Blk.cell x.property 3
    have hT0 : ¬ (T : Int) < 0 := by omega
    have hT1 : ¬ (4611686018427387904 : Int) < T := by omega
    have hFd := (show Blk w3.drew lg 65 #[.pointer (some ⟨d, 0, none⟩), .pointer none, .int .u64 0, .int .u64 T, .slice none 0 0, .bool false] from hlb)
    have hne_ : Nonempty (Of ((fun X => Blk X lg 65 #[.pointer (some ⟨d, 0, none⟩), .pointer none, .int .u64 0, .int .u64 T, .slice none 0 0, .bool false]))) := ⟨⟨_, hFd⟩⟩
    refine region_steps [0,1,2,3,4,5,6,7,8,9,10,11,12,13,14,15] [true,true,true,true,true,true,true,true,true,true,true,true,true,true,true,true] ((fun X => Blk X lg 65 #[.pointer (some ⟨d, 0, none⟩), .pointer none, .int .u64 0, .int .u64 T, .slice none 0 0, .bool false])) (by kernel_rfl) (by kernel_rfl) hFd ?_
    simp only [List.filterMap_cons, List.filterMap_nil, List.getElem?_cons_zero, List.getElem?_cons_succ]
    have h5 := h4.ext (.cons (blkA_loc _ _ _) hl) (Ext.refl w3).drew
    refine steps_quiet 16 (by kernel_rfl) ?_
    simp only [List.take_succ_cons, List.take_zero, List.drop_succ_cons, List.drop_zero]
    repeat (go_big_quiet_step (fail))
    refine wpQuiet_nil ?_
    clear h4 hlb d2 d3
    generalize World.drew w3 = w4 at *
    refine steps_nil ?_
    go_upto_region 9 with fail
    have d3 : ∀ x : Of (fun X => X.cell? ⟨lg, 3, none⟩ = some (.int .u64 T)), x.val.cell? ⟨lg, 3, none⟩ = some (.int .u64 T) := fun x => x.property
    have hFd := (show World.cell? w4.drew ⟨lg, 3, none⟩ = some (.int .u64 T) from Blk.cell h5.rest.blk0 3)
    have hne_ : Nonempty (Of ((fun X => X.cell? ⟨lg, 3, none⟩ = some (.int .u64 T)))) := ⟨⟨_, hFd⟩⟩
    refine region_steps [0,1,2,5,6,7,8,3,4,9,10,11,12,13,14,15,16] [true,true,true,true,true,true,true,false,true,false,true,true,true,true,true,false,true] ((fun X => X.cell? ⟨lg, 3, none⟩ = some (.int .u64 T))) (by kernel_rfl) (by kernel_rfl) hFd ?_
    simp only [List.filterMap_cons, List.filterMap_nil, List.getElem?_cons_zero, List.getElem?_cons_succ]
    have h6 := h5.ext (.cons (blkA_loc _ _ _) hl) (Ext.refl w4).drew
    refine steps_quiet 7 (by kernel_rfl) ?_
    simp only [List.take_succ_cons, List.take_zero, List.drop_succ_cons, List.drop_zero]
    repeat (go_big_quiet_step (fail))
    refine wpQuiet_nil ?_
    clear h5 d3
    generalize World.drew w4 = w5 at *
    refine steps_want rfl (fun K hK => ?_)
    go_simp
    refine (segments_any h6 hI.n).mono ?_
    rintro e _ ⟨rfl, rfl⟩
    refine hK _ _ (fun X => X.cell? ⟨lg, 3, none⟩ = some (.int .u64 T)) (Blk.cell h6.rest.blk0 3) (fun _ h => h) ?_
    clear hK K
    (try simp only [Act.put, List.setIfInBounds_toArray, List.set_cons_succ, List.set_cons_zero])
    refine steps_quiet 1 (by kernel_rfl) ?_
    simp only [List.take_succ_cons, List.take_zero, List.drop_succ_cons, List.drop_zero]
    repeat (go_big_quiet_step (fail))
    refine wpQuiet_nil ?_
    have hro := ropen_any h6 (.cons (blkA_loc _ _ _) hl) hI.n hI.down hT
    refine steps_want rfl (fun K hK => ?_)
    go_simp
    refine hro.mono ?_
    clear hro h6 hFd
    rintro e w6 ⟨rg, pr, rc, rfl, h7⟩
    rw [hrest] at h7
    refine hK _ _ (fun X => X.cell? ⟨lg, 3, none⟩ = some (.int .u64 T)) (Blk.cell h7.rest.drop.drop.blk0 3) (fun _ h => h) ?_
    clear hK K
    (try simp only [Act.put, List.setIfInBounds_toArray, List.set_cons_succ, List.set_cons_zero])
    refine steps_quiet 5 (by kernel_rfl) ?_
    simp only [List.take_succ_cons, List.take_zero, List.drop_succ_cons, List.drop_zero]
    repeat (go_big_quiet_step (fail))
    refine wpQuiet_nil ?_
    have hlb : Blk w6 lg 65 #[.pointer (some ⟨d, 0, none⟩), .pointer none, .int .u64 0, .int .u64 T, .slice none 0 0, .bool false] := h7.rest.drop.drop.blk0
    have f1 := Blk.frozen hlb 1
    have k1 := Blk.cell hlb 1
    have h8 : dkH w w6 d s (blkA lg 65 #[.pointer (some ⟨d, 0, none⟩), .pointer none, .int .u64 0, .int .u64 T, .slice none 0 0, .bool false] :: ringA rg d T (.slice pr (T % 128) rc) :: viewA pr rc (tailR (layAll bs)) :: ps) := dkH.pick (l := [ringA rg d T (.slice pr (T % 128) rc), viewA pr rc (tailR (layAll bs)), blkA lg 65 #[.pointer (some ⟨d, 0, none⟩), .pointer none, .int .u64 0, .int .u64 T, .slice none 0 0, .bool false]]) h7 [2, 0, 1] (by rfl)
    have LR : Locs (ringA rg d T (.slice pr (T % 128) rc) :: viewA pr rc (tailR (layAll bs)) :: ps) := .cons (ringA_loc _ _ _ _) (.cons (viewA_loc _ _ _) hl)
    have h9 : dkH w (w6.setCell ⟨lg, 1, none⟩ (.pointer (some ⟨rg, 0, none⟩))) d s (logA lg d rg 0 T (.slice none 0 0) false :: ringA rg d T (.slice pr (T % 128) rc) :: viewA pr rc (tailR (layAll bs)) :: ps) := h8.turn (fun hl h => h.set hl 1 (.pointer (some ⟨rg, 0, none⟩))) LR
    clear h7 h8 hlb
    refine steps_want rfl (fun K hK => ?_)
    go_simp
    refine hK _ _ (fun X => X.cell? ⟨lg, 3, none⟩ = some (.int .u64 T)) (Blk.cell h9.rest.blk0 3) (fun _ h => h) ?_
    clear hK K f1 k1
    (try simp only [Act.put, List.setIfInBounds_toArray, List.set_cons_succ, List.set_cons_zero])
    refine steps_quiet 1 (by kernel_rfl) ?_
    simp only [List.take_succ_cons, List.take_zero, List.drop_succ_cons, List.drop_zero]
    repeat (go_big_quiet_step (fail))
    refine wpQuiet_nil ?_
    refine steps_nil ?_
    generalize World.setCell _ _ _ = w7 at *
    have hfr := frames_any (lg := lg) (rg := rg) (T := T) (wv := .slice none 0 0) (rv := .slice pr (T % 128) rc) (fl := false) h9 (.cons (logA_loc _ _ _ _ _ _ _) LR) (.head _) (.tail _ (.head _)) hI.n hI.down HTT.out hT hO hs hbs
    go_upto_region 12 with fail
    go_wp2_with fail
    refine hfr.mono ?_
    clear hfr
    rintro e w8 ⟨p, c, fs, hfs, rfl, h10⟩
    go_wp2_with fail
    go_ret3
    refine ⟨lg, rg, pr, rc, p, c, fs, hfs, rfl, ?_⟩
    unfold rgL
    rw [hlT]
    exact h10
end Go.Proofs.Ythghflfgldcmbaa
