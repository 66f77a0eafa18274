/- A log's settle. -/
import Derived.Test.YthghflfgldcmbaaWLog
import Derived.Deep.DeepCutAuto
import Derived.Deep.CutBlock
namespace Go.Proofs.Ythghflfgldcmbaa
set_option maxRecDepth 4000
set_option linter.unusedVariables false
set_option linter.unusedSimpArgs false
open Go Go.RowKit
def StCut (w : World) (d : Nat) (s2 : DS) (L : List Asr) (T : Nat) (v7 : Value) (wx : World) : Prop := v7 = .int .i64 (s2.putR [0, T]).1.2 ∧ dkH w wx d (s2.putR [0, T]).2 L
def StOut (w W' : World) (d : Nat) (s : DS) (T lg rg : Nat) (wv : Value) (L' : List Asr) (e : Ending) : Prop :=
  (s.flushE ≠ 0 ∧ e = .returned (.int .i64 s.flushE) ∧ ∃ lc, dkH w W' d s.flushS (blkA lg 65 lc :: L')) ∨
  (s.flushE = 0 ∧ e = .returned (.int .i64 (s.flushS.putR [0, T]).1.2) ∧ ∃ lc, dkH w W' d (s.flushS.putR [0, T]).2 (blkA lg 65 lc :: L') ∧ ((s.flushS.putR [0, T]).1.2 = 0 → lc = lgC d rg 0 T wv false))
set_option maxHeartbeats 4000000 in
theorem settle_any {w W : World} {d : Nat} {s : DS} {L' : List Asr} {lg rg tl T : Nat} {wv : Value} {pr : Option Addr} {rc : Nat} {R : List UInt8} (h' : dkH w W d s (logA lg d rg 0 tl wv false :: L')) (hl' : Locs L') (hRm' : ringA rg d T (.slice pr R.length rc) ∈ L') (hn : 2 ≤ s.n) (hdn : s.flushE = 0 → s.flushS.down = false) (hn2 : 2 ≤ s.flushS.n) (hT : T ≤ 24576) (htop : s.flushE = 0 → s.flushS.looked.2 < 4611686018427387904) :
    Calls Try.prog 21 #[.pointer (some ⟨lg, 0, none⟩), .int .u64 0] W fun e W' => StOut w W' d s T lg rg wv L' e := by
  obtain ⟨L, hL⟩ : ∃ L, logA lg d rg 0 tl wv false :: L' = L := ⟨_, rfl⟩
  have h : dkH w W d s L := by rw [← hL]; exact h'
  have hl : Locs L := by rw [← hL]; exact .cons (logA_loc _ _ _ _ _ _ _) hl'
  have hLm : logA lg d rg 0 tl wv false ∈ L := by rw [← hL]; exact .head _
  have hRm : ringA rg d T (.slice pr R.length rc) ∈ L := by rw [← hL]; exact .tail _ hRm'
  have HL := Lib.hid hL
  clear h' hL
  have hb : Lg W lg d rg 0 tl wv false := h.rest.blk hLm
  have c0 : World.cell? W ⟨lg, 0, none⟩ = some (.pointer (some ⟨d, 0, none⟩)) := Blk.cell hb 0
  go_enter Try.func21, Try.ntmps21
  go_wp2_with fail
  refine (flush_any h hl).mono ?_
  rintro e w1 ⟨rfl, h1⟩
  clear h hb c0
  by_cases hf0 : s.flushE = 0
  · rw [hf0]
    have hd2 := hdn hf0
    have ht2 := htop hf0
    have HF0 := Lib.hid hf0
    obtain ⟨s2, hs2⟩ : ∃ s2, s.flushS = s2 := ⟨_, rfl⟩
    rw [hs2] at h1 hn2 hd2 ht2
    have HS2 := Lib.hid hs2
    clear hdn htop hf0 hs2
    go_upto_region 4 with fail
    have hws : ∀ x ∈ [0, T], x < 18446744073709551616 := by
      intro x hx
      simp at hx
      rcases hx with rfl | rfl <;> omega
    have LU : ∀ {v : Value}, Locs (rowA 57 1 v 2 (us [0, T]) :: L) := .cons (rowA_loc _ _ _ _ _) hl
    go_cut [7] (fun v7 wx => StCut w d s2 L T v7 wx)
    case first =>
      have d0 : ∀ x : Of (fun X => Lg X lg d rg 0 tl wv false ∧ Ring X rg d T (.slice pr R.length rc)), x.val.cell? ⟨lg, 0, none⟩ = some (.pointer (some ⟨d, 0, none⟩)) := fun x => Blk.cell x.property.1 0
      have d1 : ∀ x : Of (fun X => Lg X lg d rg 0 tl wv false ∧ Ring X rg d T (.slice pr R.length rc)), x.val.cell? ⟨lg, 1, none⟩ = some (.pointer (some ⟨rg, 0, none⟩)) := fun x => Blk.cell x.property.1 1
      have hcls : Lg w1.drew lg d rg 0 tl wv false ∧ Ring w1.drew rg d T (.slice pr R.length rc) := ⟨h1.rest.blk hLm, h1.rest.blk hRm⟩
      have hFd := hcls
      have hne_ : Nonempty (Of ((fun X => Lg X lg d rg 0 tl wv false ∧ Ring X rg d T (.slice pr R.length rc)))) := ⟨⟨_, hFd⟩⟩
      refine region_plan (.seg [0,1,2,3,4,5,6,7,8] [true,true,true,true,true,true,true,true,true] (.fork 9 (.fork 10 (.fork 11 (.seg [12,13,14,15,16,17] [true,true,true,false,false,true] .done) 15 (.seg [11,12,13,14,16,17] [false,true,true,true,false,true] .done)) 15 (.seg [10,11,12,13,14,16,17] [false,false,true,true,true,false,true] .done)) 15 (.seg [9,10,11,12,13,14,16,17] [false,false,false,true,true,true,false,true] .done))) ((fun X => Lg X lg d rg 0 tl wv false ∧ Ring X rg d T (.slice pr R.length rc))) (by kernel_rfl) (by kernel_rfl) hFd ?_
      refine walkP_seg ?_
      simp only [List.filterMap_cons, List.filterMap_nil, List.getElem?_cons_zero, List.getElem?_cons_succ]
      refine steps_quiet 9 (by kernel_rfl) ?_
      simp only [List.take_succ_cons, List.take_zero, List.drop_succ_cons, List.drop_zero]
      repeat (go_big_quiet_step (fail))
      refine wpQuiet_nil ?_
      have h2 := h1.ext hl (Ext.refl w1).drew
      clear h1 d0 d1 hcls
      generalize World.drew w1 = w2 at *
      refine steps_end ?_
      refine walkP_fork ?_ ?_
      all_goals simp only [List.filterMap_cons, List.filterMap_nil, List.getElem?_cons_zero, List.getElem?_cons_succ]
      · refine steps_want rfl (fun K hK => ?_)
        go_simp
        refine (tail_any (g := rg) (d := d) (T := T) (rv := .slice pr R.length rc) ((h2).rest.blk (by first | exact hRm | exact .tail _ hRm | exact .tail _ (.tail _ hRm)))).mono ?_
        rintro e _ ⟨rfl, rfl⟩
        refine hK _ _ (fun X => Lg X lg d rg 0 tl wv false ∧ Ring X rg d T (.slice pr R.length rc)) ⟨(h2).rest.blk (by first | exact hLm | exact .tail _ hLm | exact .tail _ (.tail _ hLm)), (h2).rest.blk (by first | exact hRm | exact .tail _ hRm | exact .tail _ (.tail _ hRm))⟩ (fun _ h => h) ?_
        clear hK K
        (try simp only [Act.put, List.setIfInBounds_toArray, List.set_cons_succ, List.set_cons_zero])
        refine steps_end ?_
        refine walkP_fork ?_ ?_
        all_goals simp only [List.filterMap_cons, List.filterMap_nil, List.getElem?_cons_zero, List.getElem?_cons_succ]
        · have h3 := (h2).fresh hl (ext_alloc w2 (.cells #[.int .u64 0, .int .u64 (T : Int)] 57)) (World.ownsRow_lit (size := 1) w2 #[.int .u64 0, .int .u64 (T : Int)] 2 (Nat.le_refl _) (by unfold maxLen; omega) rfl)
          refine steps_want rfl (fun K hK => ?_)
          go_simp
          refine hK _ _ (fun X => Lg X lg d rg 0 tl wv false ∧ Ring X rg d T (.slice pr R.length rc)) ⟨(h3).rest.blk (by first | exact hLm | exact .tail _ hLm | exact .tail _ (.tail _ hLm)), (h3).rest.blk (by first | exact hRm | exact .tail _ hRm | exact .tail _ (.tail _ hRm))⟩ (fun _ h => h) ?_
          clear hK K
          (try simp only [Act.put, List.setIfInBounds_toArray, List.set_cons_succ, List.set_cons_zero])
          clear h2
          generalize World.alloc w2 (.cells #[.int .u64 0, .int .u64 (T : Int)] 57) = w3 at *
          refine steps_end ?_
          refine walkP_fork ?_ ?_
          all_goals simp only [List.filterMap_cons, List.filterMap_nil, List.getElem?_cons_zero, List.getElem?_cons_succ]
          · have hput := put_any h3 LU hn2 hd2 [0, T] (by simp) (by simp) hws ht2 (pw := ⟨w2.heap.size, 0, none⟩) (cw := 2) (by simp [us])
            refine steps_want rfl (fun K hK => ?_)
            go_simp
            refine hput.mono ?_
            rintro e w5 ⟨rfl, h4⟩
            refine hK _ _ (fun X => Lg X lg d rg 0 tl wv false ∧ Ring X rg d T (.slice pr R.length rc)) ⟨(h4).rest.blk (by first | exact hLm | exact .tail _ hLm | exact .tail _ (.tail _ hLm)), (h4).rest.blk (by first | exact hRm | exact .tail _ hRm | exact .tail _ (.tail _ hRm))⟩ (fun _ h => h) ?_
            clear hK K
            (try simp only [Act.put, List.setIfInBounds_toArray, List.set_cons_succ, List.set_cons_zero])
            clear hput h3
            obtain ⟨pM, hpM⟩ : ∃ pM, (s2.putR [0, T]).1.1 = pM := ⟨_, rfl⟩
            rw [hpM]
            clear hpM
            refine steps_end ?_
            refine walkP_seg ?_
            simp only [List.filterMap_cons, List.filterMap_nil, List.getElem?_cons_zero, List.getElem?_cons_succ]
            refine steps_quiet 3 (by kernel_rfl) ?_
            simp only [List.take_succ_cons, List.take_zero, List.drop_succ_cons, List.drop_zero]
            repeat (go_big_quiet_step (fail))
            refine wpQuiet_nil ?_
            have h5 : dkH w (World.alloc w5 (.cells #[.int .u64 0, .int .u64 0, .int .u64 0, .int .u64 0, .int .u64 0, .int .u64 0, .int .u64 0] 60)) d _ _ := (h4).new LU 60 (mkA zeroM)
            refine steps_want rfl (fun K hK => ?_)
            go_simp
            refine hK _ _ (fun X => Lg X lg d rg 0 tl wv false ∧ Ring X rg d T (.slice pr R.length rc)) ⟨(h5).rest.blk (by first | exact hLm | exact .tail _ hLm | exact .tail _ (.tail _ hLm)), (h5).rest.blk (by first | exact hRm | exact .tail _ hRm | exact .tail _ (.tail _ hRm))⟩ (fun _ h => h) ?_
            clear hK K
            (try simp only [Act.put, List.setIfInBounds_toArray, List.set_cons_succ, List.set_cons_zero])
            clear h4
            generalize World.alloc w5 (.cells #[.int .u64 0, .int .u64 0, .int .u64 0, .int .u64 0, .int .u64 0, .int .u64 0, .int .u64 0] 60) = w6 at *
            have hbm := (h5).rest.blk0
            have hs := (h5).turn (fun hl h => h.row (cs := mkA pM) hl) LU
            refine steps_want rfl (fun K hK => ?_)
            refine wp_store_row _ _ _ rfl w5.heap.size (mkA pM) rfl rfl _ _ hbm markInfo rfl (mkA_all _) ?_
            refine hK _ _ (fun X => Lg X lg d rg 0 tl wv false ∧ Ring X rg d T (.slice pr R.length rc)) ⟨(hs).rest.blk (by first | exact hLm | exact .tail _ hLm | exact .tail _ (.tail _ hLm)), (hs).rest.blk (by first | exact hRm | exact .tail _ hRm | exact .tail _ (.tail _ hRm))⟩ (fun _ h => h) ?_
            clear hK K
            (try simp only [Act.put, List.setIfInBounds_toArray, List.set_cons_succ, List.set_cons_zero])
            refine steps_quiet 1 (by kernel_rfl) ?_
            simp only [List.take_succ_cons, List.take_zero, List.drop_succ_cons, List.drop_zero]
            repeat (go_big_quiet_step (fail))
            refine wpQuiet_nil ?_
            refine steps_end ?_
            refine walkP_done ?_
            go_wp2_with fail
            go_meet
            exact ⟨rfl, hs.drop.drop⟩
          · have h4 : dkH w (World.alloc w3 (.cells #[.int .u64 0, .int .u64 0, .int .u64 0, .int .u64 0, .int .u64 0, .int .u64 0, .int .u64 0] 60)) d _ _ := (h3).new LU 60 (mkA zeroM)
            refine steps_want rfl (fun K hK => ?_)
            go_simp
            refine hK _ _ (fun X => Lg X lg d rg 0 tl wv false ∧ Ring X rg d T (.slice pr R.length rc)) ⟨(h4).rest.blk (by first | exact hLm | exact .tail _ hLm | exact .tail _ (.tail _ hLm)), (h4).rest.blk (by first | exact hRm | exact .tail _ hRm | exact .tail _ (.tail _ hRm))⟩ (fun _ h => h) ?_
            clear hK K
            (try simp only [Act.put, List.setIfInBounds_toArray, List.set_cons_succ, List.set_cons_zero])
            clear h3
            generalize World.alloc w3 (.cells #[.int .u64 0, .int .u64 0, .int .u64 0, .int .u64 0, .int .u64 0, .int .u64 0, .int .u64 0] 60) = w4 at *
            refine steps_end ?_
            refine walkP_seg ?_
            simp only [List.filterMap_cons, List.filterMap_nil, List.getElem?_cons_zero, List.getElem?_cons_succ]
            have hput := put_any h4 (.cons (blkA_loc _ _ _) LU) hn2 hd2 [0, T] (by simp) (by simp) hws ht2 (pw := ⟨w2.heap.size, 0, none⟩) (cw := 2) (by simp [us])
            refine steps_want rfl (fun K hK => ?_)
            go_simp
            refine hput.mono ?_
            rintro e w5 ⟨rfl, h5⟩
            refine hK _ _ (fun X => Lg X lg d rg 0 tl wv false ∧ Ring X rg d T (.slice pr R.length rc)) ⟨(h5).rest.blk (by first | exact hLm | exact .tail _ hLm | exact .tail _ (.tail _ hLm)), (h5).rest.blk (by first | exact hRm | exact .tail _ hRm | exact .tail _ (.tail _ hRm))⟩ (fun _ h => h) ?_
            clear hK K
            (try simp only [Act.put, List.setIfInBounds_toArray, List.set_cons_succ, List.set_cons_zero])
            clear hput h4
            obtain ⟨pM, hpM⟩ : ∃ pM, (s2.putR [0, T]).1.1 = pM := ⟨_, rfl⟩
            rw [hpM]
            clear hpM
            refine steps_quiet 3 (by kernel_rfl) ?_
            simp only [List.take_succ_cons, List.take_zero, List.drop_succ_cons, List.drop_zero]
            repeat (go_big_quiet_step (fail))
            refine wpQuiet_nil ?_
            have hbm := (h5).rest.blk0
            have hs := (h5).turn (fun hl h => h.row (cs := mkA pM) hl) LU
            refine steps_want rfl (fun K hK => ?_)
            refine wp_store_row _ _ _ rfl w3.heap.size (mkA pM) rfl rfl _ _ hbm markInfo rfl (mkA_all _) ?_
            refine hK _ _ (fun X => Lg X lg d rg 0 tl wv false ∧ Ring X rg d T (.slice pr R.length rc)) ⟨(hs).rest.blk (by first | exact hLm | exact .tail _ hLm | exact .tail _ (.tail _ hLm)), (hs).rest.blk (by first | exact hRm | exact .tail _ hRm | exact .tail _ (.tail _ hRm))⟩ (fun _ h => h) ?_
            clear hK K
            (try simp only [Act.put, List.setIfInBounds_toArray, List.set_cons_succ, List.set_cons_zero])
            refine steps_quiet 1 (by kernel_rfl) ?_
            simp only [List.take_succ_cons, List.take_zero, List.drop_succ_cons, List.drop_zero]
            repeat (go_big_quiet_step (fail))
            refine wpQuiet_nil ?_
            refine steps_end ?_
            refine walkP_done ?_
            go_wp2_with fail
            go_meet
            exact ⟨rfl, hs.drop.drop⟩
        · have h3 : dkH w (World.alloc w2 (.cells #[.int .u64 0, .int .u64 0, .int .u64 0, .int .u64 0, .int .u64 0, .int .u64 0, .int .u64 0] 60)) d _ _ := (h2).new hl 60 (mkA zeroM)
          refine steps_want rfl (fun K hK => ?_)
          go_simp
          refine hK _ _ (fun X => Lg X lg d rg 0 tl wv false ∧ Ring X rg d T (.slice pr R.length rc)) ⟨(h3).rest.blk (by first | exact hLm | exact .tail _ hLm | exact .tail _ (.tail _ hLm)), (h3).rest.blk (by first | exact hRm | exact .tail _ hRm | exact .tail _ (.tail _ hRm))⟩ (fun _ h => h) ?_
          clear hK K
          (try simp only [Act.put, List.setIfInBounds_toArray, List.set_cons_succ, List.set_cons_zero])
          clear h2
          generalize World.alloc w2 (.cells #[.int .u64 0, .int .u64 0, .int .u64 0, .int .u64 0, .int .u64 0, .int .u64 0, .int .u64 0] 60) = w3 at *
          refine steps_end ?_
          refine walkP_seg ?_
          simp only [List.filterMap_cons, List.filterMap_nil, List.getElem?_cons_zero, List.getElem?_cons_succ]
          have h4 := (h3).fresh (.cons (blkA_loc _ _ _) hl) (ext_alloc w3 (.cells #[.int .u64 0, .int .u64 (T : Int)] 57)) (World.ownsRow_lit (size := 1) w3 #[.int .u64 0, .int .u64 (T : Int)] 2 (Nat.le_refl _) (by unfold maxLen; omega) rfl)
          refine steps_want rfl (fun K hK => ?_)
          go_simp
          refine hK _ _ (fun X => Lg X lg d rg 0 tl wv false ∧ Ring X rg d T (.slice pr R.length rc)) ⟨(h4).rest.blk (by first | exact hLm | exact .tail _ hLm | exact .tail _ (.tail _ hLm)), (h4).rest.blk (by first | exact hRm | exact .tail _ hRm | exact .tail _ (.tail _ hRm))⟩ (fun _ h => h) ?_
          clear hK K
          (try simp only [Act.put, List.setIfInBounds_toArray, List.set_cons_succ, List.set_cons_zero])
          clear h3
          generalize World.alloc w3 (.cells #[.int .u64 0, .int .u64 (T : Int)] 57) = w4 at *
          have hput := put_any h4 (.cons (rowA_loc _ _ _ _ _) (.cons (blkA_loc _ _ _) hl)) hn2 hd2 [0, T] (by simp) (by simp) hws ht2 (pw := ⟨w3.heap.size, 0, none⟩) (cw := 2) (by simp [us])
          refine steps_want rfl (fun K hK => ?_)
          go_simp
          refine hput.mono ?_
          rintro e w5 ⟨rfl, h5⟩
          refine hK _ _ (fun X => Lg X lg d rg 0 tl wv false ∧ Ring X rg d T (.slice pr R.length rc)) ⟨(h5).rest.blk (by first | exact hLm | exact .tail _ hLm | exact .tail _ (.tail _ hLm)), (h5).rest.blk (by first | exact hRm | exact .tail _ hRm | exact .tail _ (.tail _ hRm))⟩ (fun _ h => h) ?_
          clear hK K
          (try simp only [Act.put, List.setIfInBounds_toArray, List.set_cons_succ, List.set_cons_zero])
          clear hput h4
          obtain ⟨pM, hpM⟩ : ∃ pM, (s2.putR [0, T]).1.1 = pM := ⟨_, rfl⟩
          rw [hpM]
          clear hpM
          refine steps_quiet 3 (by kernel_rfl) ?_
          simp only [List.take_succ_cons, List.take_zero, List.drop_succ_cons, List.drop_zero]
          repeat (go_big_quiet_step (fail))
          refine wpQuiet_nil ?_
          have h6 := h5.perm (List.Perm.swap _ _ _)
          have hbm := (h6).rest.blk0
          have hs := (h6).turn (fun hl h => h.row (cs := mkA pM) hl) LU
          refine steps_want rfl (fun K hK => ?_)
          refine wp_store_row _ _ _ rfl w2.heap.size (mkA pM) rfl rfl _ _ hbm markInfo rfl (mkA_all _) ?_
          refine hK _ _ (fun X => Lg X lg d rg 0 tl wv false ∧ Ring X rg d T (.slice pr R.length rc)) ⟨(hs).rest.blk (by first | exact hLm | exact .tail _ hLm | exact .tail _ (.tail _ hLm)), (hs).rest.blk (by first | exact hRm | exact .tail _ hRm | exact .tail _ (.tail _ hRm))⟩ (fun _ h => h) ?_
          clear hK K
          (try simp only [Act.put, List.setIfInBounds_toArray, List.set_cons_succ, List.set_cons_zero])
          refine steps_quiet 1 (by kernel_rfl) ?_
          simp only [List.take_succ_cons, List.take_zero, List.drop_succ_cons, List.drop_zero]
          repeat (go_big_quiet_step (fail))
          refine wpQuiet_nil ?_
          refine steps_end ?_
          refine walkP_done ?_
          go_wp2_with fail
          go_meet
          exact ⟨rfl, hs.drop.drop⟩
      · have h3 : dkH w (World.alloc w2 (.cells #[.int .u64 0, .int .u64 0, .int .u64 0, .int .u64 0, .int .u64 0, .int .u64 0, .int .u64 0] 60)) d _ _ := (h2).new hl 60 (mkA zeroM)
        refine steps_want rfl (fun K hK => ?_)
        go_simp
        refine hK _ _ (fun X => Lg X lg d rg 0 tl wv false ∧ Ring X rg d T (.slice pr R.length rc)) ⟨(h3).rest.blk (by first | exact hLm | exact .tail _ hLm | exact .tail _ (.tail _ hLm)), (h3).rest.blk (by first | exact hRm | exact .tail _ hRm | exact .tail _ (.tail _ hRm))⟩ (fun _ h => h) ?_
        clear hK K
        (try simp only [Act.put, List.setIfInBounds_toArray, List.set_cons_succ, List.set_cons_zero])
        clear h2
        generalize World.alloc w2 (.cells #[.int .u64 0, .int .u64 0, .int .u64 0, .int .u64 0, .int .u64 0, .int .u64 0, .int .u64 0] 60) = w3 at *
        refine steps_end ?_
        refine walkP_seg ?_
        simp only [List.filterMap_cons, List.filterMap_nil, List.getElem?_cons_zero, List.getElem?_cons_succ]
        refine steps_want rfl (fun K hK => ?_)
        go_simp
        refine (tail_any (g := rg) (d := d) (T := T) (rv := .slice pr R.length rc) ((h3).rest.blk (by first | exact hRm | exact .tail _ hRm | exact .tail _ (.tail _ hRm)))).mono ?_
        rintro e _ ⟨rfl, rfl⟩
        refine hK _ _ (fun X => Lg X lg d rg 0 tl wv false ∧ Ring X rg d T (.slice pr R.length rc)) ⟨(h3).rest.blk (by first | exact hLm | exact .tail _ hLm | exact .tail _ (.tail _ hLm)), (h3).rest.blk (by first | exact hRm | exact .tail _ hRm | exact .tail _ (.tail _ hRm))⟩ (fun _ h => h) ?_
        clear hK K
        (try simp only [Act.put, List.setIfInBounds_toArray, List.set_cons_succ, List.set_cons_zero])
        have h4 := (h3).fresh (.cons (blkA_loc _ _ _) hl) (ext_alloc w3 (.cells #[.int .u64 0, .int .u64 (T : Int)] 57)) (World.ownsRow_lit (size := 1) w3 #[.int .u64 0, .int .u64 (T : Int)] 2 (Nat.le_refl _) (by unfold maxLen; omega) rfl)
        refine steps_want rfl (fun K hK => ?_)
        go_simp
        refine hK _ _ (fun X => Lg X lg d rg 0 tl wv false ∧ Ring X rg d T (.slice pr R.length rc)) ⟨(h4).rest.blk (by first | exact hLm | exact .tail _ hLm | exact .tail _ (.tail _ hLm)), (h4).rest.blk (by first | exact hRm | exact .tail _ hRm | exact .tail _ (.tail _ hRm))⟩ (fun _ h => h) ?_
        clear hK K
        (try simp only [Act.put, List.setIfInBounds_toArray, List.set_cons_succ, List.set_cons_zero])
        clear h3
        generalize World.alloc w3 (.cells #[.int .u64 0, .int .u64 (T : Int)] 57) = w4 at *
        have hput := put_any h4 (.cons (rowA_loc _ _ _ _ _) (.cons (blkA_loc _ _ _) hl)) hn2 hd2 [0, T] (by simp) (by simp) hws ht2 (pw := ⟨w3.heap.size, 0, none⟩) (cw := 2) (by simp [us])
        refine steps_want rfl (fun K hK => ?_)
        go_simp
        refine hput.mono ?_
        rintro e w5 ⟨rfl, h5⟩
        refine hK _ _ (fun X => Lg X lg d rg 0 tl wv false ∧ Ring X rg d T (.slice pr R.length rc)) ⟨(h5).rest.blk (by first | exact hLm | exact .tail _ hLm | exact .tail _ (.tail _ hLm)), (h5).rest.blk (by first | exact hRm | exact .tail _ hRm | exact .tail _ (.tail _ hRm))⟩ (fun _ h => h) ?_
        clear hK K
        (try simp only [Act.put, List.setIfInBounds_toArray, List.set_cons_succ, List.set_cons_zero])
        clear hput h4
        obtain ⟨pM, hpM⟩ : ∃ pM, (s2.putR [0, T]).1.1 = pM := ⟨_, rfl⟩
        rw [hpM]
        clear hpM
        refine steps_quiet 3 (by kernel_rfl) ?_
        simp only [List.take_succ_cons, List.take_zero, List.drop_succ_cons, List.drop_zero]
        repeat (go_big_quiet_step (fail))
        refine wpQuiet_nil ?_
        have h6 := h5.perm (List.Perm.swap _ _ _)
        have hbm := (h6).rest.blk0
        have hs := (h6).turn (fun hl h => h.row (cs := mkA pM) hl) LU
        refine steps_want rfl (fun K hK => ?_)
        refine wp_store_row _ _ _ rfl w2.heap.size (mkA pM) rfl rfl _ _ hbm markInfo rfl (mkA_all _) ?_
        refine hK _ _ (fun X => Lg X lg d rg 0 tl wv false ∧ Ring X rg d T (.slice pr R.length rc)) ⟨(hs).rest.blk (by first | exact hLm | exact .tail _ hLm | exact .tail _ (.tail _ hLm)), (hs).rest.blk (by first | exact hRm | exact .tail _ hRm | exact .tail _ (.tail _ hRm))⟩ (fun _ h => h) ?_
        clear hK K
        (try simp only [Act.put, List.setIfInBounds_toArray, List.set_cons_succ, List.set_cons_zero])
        refine steps_quiet 1 (by kernel_rfl) ?_
        simp only [List.take_succ_cons, List.take_zero, List.drop_succ_cons, List.drop_zero]
        repeat (go_big_quiet_step (fail))
        refine wpQuiet_nil ?_
        refine steps_end ?_
        refine walkP_done ?_
        go_wp2_with fail
        go_meet
        exact ⟨rfl, hs.drop.drop⟩
    case rest =>
      obtain ⟨rfl, h2⟩ := hcut
      clear h1
      obtain ⟨pe, hpe⟩ : ∃ pe, (s2.putR [0, T]).1.2 = pe := ⟨_, rfl⟩
      rw [hpe]
      obtain ⟨s3, hs3⟩ : ∃ s3, (s2.putR [0, T]).2 = s3 := ⟨_, rfl⟩
      rw [hs3] at h2
      have HPE := Lib.hid hpe
      have HS3 := Lib.hid hs3
      clear hpe hs3
      by_cases hp0 : pe = 0
      · subst hp0
        have hring : Ring wc rg d T (.slice pr R.length rc) := h2.rest.blk hRm
        have h3 : dkH w wc d s3 (logA lg d rg 0 tl wv false :: L') := by rw [HL.out]; exact h2
        have hl2 : Locs L' := hl'
        clear LU h2
        have hlb : Lg wc lg d rg 0 tl wv false := h3.rest.blk0
        have k1 : World.cell? wc ⟨lg, 1, none⟩ = some (.pointer (some ⟨rg, 0, none⟩)) := Blk.cell hlb 1
        have k2 : World.cell? wc ⟨lg, 2, none⟩ = some (.int .u64 0) := Blk.cell hlb 2
        have k3 : World.cell? wc ⟨lg, 3, none⟩ = some (.int .u64 tl) := Blk.cell hlb 3
        have f2 := Blk.frozen hlb 2
        have f3 := Blk.frozen hlb 3
        have h4 : dkH w ((wc.setCell ⟨lg, 2, none⟩ (.int .u64 0)).setCell ⟨lg, 3, none⟩ (.int .u64 T)) d s3 (logA lg d rg 0 T wv false :: L') := (h3.turn (q := logA lg d rg 0 tl wv false) (fun hl h => h.set hl 2 (.int .u64 0)) hl2).turn (fun hl h => h.set hl 3 (.int .u64 T)) hl2
        clear h3 hlb
        go_wp2_with fail
        refine (tail_any hring).mono ?_
        rintro e _ ⟨rfl, rfl⟩
        go_wp2_with fail
        go_ret
        exact Or.inr ⟨HF0.out, by rw [HS2.out, HPE.out]; rfl, _, by rw [HS2.out, HS3.out]; exact h4, fun _ => rfl⟩
      · have hpq : (pe == 0) = false := by simpa using hp0
        have h3 : dkH w wc d s3 (logA lg d rg 0 tl wv false :: L') := by rw [HL.out]; exact h2
        have hl2 : Locs L' := hl'
        clear LU
        go_wp2_with fail
        refine (fail_any h3 hl2 pe).mono ?_
        rintro e w2 ⟨rfl, h4⟩
        go_wp2_with fail
        go_ret
        exact Or.inr ⟨HF0.out, by rw [HS2.out, HPE.out]; rfl, _, by rw [HS2.out, HS3.out]; exact h4, fun h => absurd (by rw [HS2.out, HPE.out] at h; exact h) hp0⟩
  · obtain ⟨fe, hfe⟩ : ∃ fe, s.flushE = fe := ⟨_, rfl⟩
    rw [hfe] at hf0 ⊢
    have hfq : (fe == 0) = false := by simpa using hf0
    have HFE := Lib.hid hfe
    clear hdn htop hfe
    have h2 : dkH w w1 d s.flushS (logA lg d rg 0 tl wv false :: L') := by rw [HL.out]; exact h1
    have hl2 : Locs L' := hl'
    go_wp2_with fail
    refine (fail_any h2 hl2 fe).mono ?_
    rintro e w2 ⟨rfl, h3⟩
    go_wp2_with fail
    go_ret
    exact Or.inl ⟨by rw [HFE.out]; exact hf0, by rw [HFE.out]; rfl, _, h3⟩
end Go.Proofs.Ythghflfgldcmbaa
