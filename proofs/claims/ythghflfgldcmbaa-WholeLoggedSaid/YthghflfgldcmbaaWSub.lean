/- A log's Submit. -/
import Derived.Test.YthghflfgldcmbaaWLay
namespace Go.Proofs.Ythghflfgldcmbaa
set_option maxRecDepth 4000
set_option linter.unusedVariables false
set_option linter.unusedSimpArgs false
open Go Go.RowKit
/-- a slice of bytes: where it lies, its room, and they -/
abbrev Bw := Option Addr × Nat × List UInt8
def bwV (x : Bw) : Value := .slice x.1 x.2.2.length x.2.1
def bwA (x : Bw) : Asr := viewA x.1 x.2.1 x.2.2
theorem bwA_loc (x : Bw) : Loc (bwA x) := viewA_loc _ _ _
/-- batches that wait -/
def wtL (p : Option Addr) (c : Nat) (ws : List Bw) (ps : List Asr) : List Asr := rowA 36 1 (.slice p ws.length c) ws.length (ws.map bwV) :: (ws.map bwA ++ ps)
theorem wtL_locs {p : Option Addr} {c : Nat} {ws : List Bw} {ps : List Asr} (h : Locs ps) : Locs (wtL p c ws ps) := .cons (rowA_loc _ _ _ _ _) ((Locs.map _ bwA_loc ws).append h)
def SbOut (w W' : World) (d : Nat) (s : DS) (lg rg tl : Nat) (ws : List Bw) (b : List UInt8) (ps : List Asr) (e : Ending) : Prop :=
  ∃ p c x, e = .returned (.int .i64 0) ∧ x.2.2 = b ∧ dkH w W' d s (logA lg d rg 0 tl (.slice p (ws.length + 1) c) false :: wtL p c (ws ++ [x]) ps)
set_option maxHeartbeats 4000000 in
theorem submit_any {w W : World} {d : Nat} {s : DS} {ps : List Asr} {lg rg tl : Nat} {wp : Option Addr} {wc : Nat} {ws : List Bw} (h : dkH w W d s (logA lg d rg 0 tl (.slice wp ws.length wc) false :: wtL wp wc ws ps)) (hl : Locs ps)
    (pb : Option Addr) (cb : Nat) (b : List UInt8) (hB : ∀ X, Has w X ps → View X pb cb b) (hb : b.length ≤ 300) (hw : ws.length < 64) :
    Calls Try.prog 7 #[.pointer (some ⟨lg, 0, none⟩), .slice pb b.length cb] W fun e W' => SbOut w W' d s lg rg tl ws b ps e := by
  obtain ⟨i0, hi0, hz0, hz1, hz2⟩ := info_parts u8Info
  obtain ⟨s0, hs0, sz0, sz1, sz2⟩ := info_parts secInfo
  have hlog : Lg W lg d rg 0 tl (.slice wp ws.length wc) false := h.rest.blk0
  have k5 : World.cell? W ⟨lg, 5, none⟩ = some (.bool false) := Blk.cell hlog 5
  have k4 : World.cell? W ⟨lg, 4, none⟩ = some (.slice wp ws.length wc) := Blk.cell hlog 4
  have g1 : ¬ (2039 : Int) < b.length := by omega
  have g2 : ((ws.length : Int) == 64) = false := by
    have : ¬ (ws.length : Int) = 64 := by omega
    simpa using this
  have LW : Locs (wtL wp wc ws ps) := wtL_locs hl
  have LL : Locs (logA lg d rg 0 tl (.slice wp ws.length wc) false :: wtL wp wc ws ps) := .cons (logA_loc _ _ _ _ _ _ _) LW
  go_enter Try.func7, Try.ntmps7
  go_upto_region 7 with fail
  clear k4 k5 g1 g2
  have d4 : ∀ x : Of (fun X => Lg X lg d rg 0 tl (.slice wp ws.length wc) false), x.val.cell? ⟨lg, 4, none⟩ = some (.slice wp ws.length wc) := fun x => Blk.cell x.property 4
  have hFd := (show Lg W.drew lg d rg 0 tl (.slice wp ws.length wc) false from hlog)
  have hne_ : Nonempty (Of ((fun X => Lg X lg d rg 0 tl (.slice wp ws.length wc) false))) := ⟨⟨_, hFd⟩⟩
  refine region_planZ 12 (.seg [0,1,2,3,4,6,5,7,8,9,10,11] [true,true,true,true,true,true,false,false,false,false,false,true] .done) ((fun X => Lg X lg d rg 0 tl (.slice wp ws.length wc) false)) (by kernel_rfl) (by kernel_rfl) hFd ?_
  refine walkZ_seg ?_
  simp only [List.filterMap_cons, List.filterMap_nil, List.getElem?_cons_zero, List.getElem?_cons_succ]
  have h2 := h.ext LL (Ext.refl W).drew
  refine steps_quiet 6 (by kernel_rfl) ?_
  simp only [List.take_succ_cons, List.take_zero, List.drop_succ_cons, List.drop_zero]
  repeat (go_big_quiet_step (fail))
  refine wpQuiet_nil ?_
  clear h hlog d4
  generalize World.drew W = w2 at *
  have hE2 := ext_alloc w2 (.cells #[] 5)
  have hlit := World.ownsRow_made (base := 0) (e := 5) (size := 1) w2 #[] 0 (Nat.zero_le _) (by simp) rfl
  have hV := (hB w2 h2.rest.drop.drop.dropA).ext hE2
  refine steps_want rfl (fun K hK => ?_)
  go_simp
  refine hK _ _ (fun X => Lg X lg d rg 0 tl (.slice wp ws.length wc) false) (h2.ext LL hE2).rest.blk0 (fun _ h => h) ?_
  clear hK K
  (try simp only [Act.put, List.setIfInBounds_toArray, List.set_cons_succ, List.set_cons_zero])
  refine steps_want rfl (fun K hK => ?_)
  refine wp_append_new _ _ 36 rfl 5 i0 (.int .u8 0) 1 1 Try.underlying36 hi0 hz0 hz1 hz2 rfl (by decide) _ 0 [] rfl hlit pb b.length cb (u8s b) rfl (by rw [u8s_length, Nat.mul_one]) hV.nil_ hV.news (u8s_one b) (by unfold maxLen; omega) (by omega) ?_
  intro v' w3 hown3 hg3 hf3
  obtain ⟨p3, c3, rfl⟩ := ownsRow_slice hown3
  obtain ⟨hE3, hown4⟩ := fresh_grown hown3 hg3 hf3
  have h3 := h2.fresh LL hE3 hown4
  rw [Nat.zero_add] at h3 ⊢
  rw [List.nil_append] at h3
  clear hown3 hg3 hf3 hlit hV hE2 hown4 hE3 h2
  have LB : Locs (viewA p3 c3 b :: logA lg d rg 0 tl (.slice wp ws.length wc) false :: wtL wp wc ws ps) := .cons (viewA_loc _ _ _) LL
  have h4 : dkH w w3 d s (viewA p3 c3 b :: logA lg d rg 0 tl (.slice wp ws.length wc) false :: wtL wp wc ws ps) := h3.turn (fun hl h => h.viewRow hl) LL
  clear h3
  refine hK _ _ (fun X => Lg X lg d rg 0 tl (.slice wp ws.length wc) false) h4.rest.drop.blk0 (fun _ h => h) ?_
  clear hK K
  (try simp only [Act.put, List.setIfInBounds_toArray, List.set_cons_succ, List.set_cons_zero])
  refine steps_want rfl (fun K hK => ?_)
  go_simp
  have h5 := h4.ext LB (ext_alloc w3 (.cells [Value.slice p3 b.length c3].toArray 36))
  refine hK _ _ (fun X => Lg X lg d rg 0 tl (.slice wp ws.length wc) false) h5.rest.drop.blk0 (fun _ h => h) ?_
  clear hK K h4
  (try simp only [Act.put, List.setIfInBounds_toArray, List.set_cons_succ, List.set_cons_zero])
  have h6 := dkH.pick (l := [viewA p3 c3 b, logA lg d rg 0 tl (.slice wp ws.length wc) false, rowA 36 1 (.slice wp ws.length wc) ws.length (ws.map bwV)]) (ps := ws.map bwA ++ ps) h5 [2, 0, 1] (by rfl)
  have hnews := news_new w3 [Value.slice p3 b.length c3] 36
  have LR : Locs (viewA p3 c3 b :: logA lg d rg 0 tl (.slice wp ws.length wc) false :: (ws.map bwA ++ ps)) := .cons (viewA_loc _ _ _) (.cons (logA_loc _ _ _ _ _ _ _) ((Locs.map _ bwA_loc ws).append hl))
  refine steps_want rfl (fun K hK => ?_)
  refine wp_append_new _ _ 53 rfl 36 s0 (.slice none 0 0) 1 24 Try.underlying53 hs0 sz0 sz1 sz2 rfl (by decide) _ ws.length (ws.map bwV) rfl h6.rest.row0 (some ⟨w3.heap.size, 0, none⟩) 1 1 [Value.slice p3 b.length c3] rfl rfl (fun h => nomatch h) hnews (by intro u hu; simp at hu; subst hu; rfl) (by unfold maxLen; omega) (by omega) ?_
  intro v' w5 hown5 hg5 hf5
  obtain ⟨p5, c5, rfl⟩ := ownsRow_slice hown5
  have h7 : dkH w w5 d s (rowA 36 1 (.slice p5 (ws.length + 1) c5) (ws.length + 1) (ws.map bwV ++ [Value.slice p3 b.length c3]) :: viewA p3 c3 b :: logA lg d rg 0 tl (.slice wp ws.length wc) false :: (ws.map bwA ++ ps)) := h6.turn (fun hl h => h.grow hl hown5 hg5 hf5) LR
  have hlog7 : Lg w5 lg d rg 0 tl (.slice wp ws.length wc) false := h7.rest.drop.drop.blk0
  refine hK _ _ (fun X => Lg X lg d rg 0 tl (.slice wp ws.length wc) false) hlog7 (fun _ h => h) ?_
  clear hK K h5 h6 hown5 hg5 hf5 hnews
  (try simp only [Act.put, List.setIfInBounds_toArray, List.set_cons_succ, List.set_cons_zero])
  refine steps_want rfl (fun K hK => ?_)
  go_simp
  refine hK _ _ (fun X => Lg X lg d rg 0 tl (.slice wp ws.length wc) false) hlog7 (fun _ h => h) ?_
  clear hK K
  (try simp only [Act.put, List.setIfInBounds_toArray, List.set_cons_succ, List.set_cons_zero])
  refine steps_quiet 1 (by kernel_rfl) ?_
  simp only [List.take_succ_cons, List.take_zero, List.drop_succ_cons, List.drop_zero]
  repeat (go_big_quiet_step (fail))
  refine wpQuiet_nil ?_
  have f4 := Blk.frozen hlog7 4
  have c4 := Blk.cell hlog7 4
  have h8 := dkH.pick (l := [rowA 36 1 (.slice p5 (ws.length + 1) c5) (ws.length + 1) (ws.map bwV ++ [Value.slice p3 b.length c3]), viewA p3 c3 b, logA lg d rg 0 tl (.slice wp ws.length wc) false]) (ps := ws.map bwA ++ ps) h7 [2, 0, 1] (by rfl)
  have h9 : dkH w (w5.setCell ⟨lg, 4, none⟩ (.slice p5 (ws.length + 1) c5)) d s (logA lg d rg 0 tl (.slice p5 (ws.length + 1) c5) false :: rowA 36 1 (.slice p5 (ws.length + 1) c5) (ws.length + 1) (ws.map bwV ++ [Value.slice p3 b.length c3]) :: viewA p3 c3 b :: (ws.map bwA ++ ps)) := h8.turn (fun hl h => h.set hl 4 (.slice p5 (ws.length + 1) c5)) (.cons (rowA_loc _ _ _ _ _) (.cons (viewA_loc _ _ _) ((Locs.map _ bwA_loc ws).append hl)))
  clear h7 h8
  refine steps_end ?_
  refine walkZ_done rfl rfl (fun K hK => ?_)
  go_simp
  refine hK _ _ ?_
  clear hK K
  try simp only [Act.put, List.setIfInBounds_toArray, List.set_cons_succ, List.set_cons_zero]
  go_wp2_with fail
  go_ret
  refine ⟨p5, c5, (p3, c3, b), rfl, rfl, ?_⟩
  refine h9.perm (List.Perm.cons _ ?_)
  unfold wtL
  rw [List.map_append, List.map_append (f := bwA), List.length_append]
  refine List.Perm.cons _ ?_
  rw [List.append_assoc]
  exact List.perm_middle.symm
end Go.Proofs.Ythghflfgldcmbaa
