/- A heap's Put. -/
import Derived.Test.YtnbdcdeidhhgoaaDoorHOps
import Derived.Test.YtnbdcdeidhhgoaaDoorRow
namespace Go.Proofs.YtnbdcdeidhhgoaaDoor
set_option maxRecDepth 4000
set_option linter.unusedVariables false
set_option linter.unusedSimpArgs false
open Go Go.RowKit Go.Sort
theorem itemInfo : (Tryd.prog.info? 51).map (fun i => (i.zero, i.size, i.bytes)) = some (some (.agg #[.int .i64 0, .int .i64 0, .int .i64 0, .int .i64 0, .int .u64 0]), 5, 40) := by kernel_rfl
theorem its_to_row {w W : World} {v : Value} {xs : List It} {ps : List Asr} (h : Has w W (itsA true v xs :: ps)) : Has w W (rowA 51 5 v xs.length (itC xs) :: ps) := h.imp fun _ => row_of_its
theorem row_to_its {w W : World} {v : Value} {xs : List It} {ps : List Asr} (h : Has w W (rowA 51 5 v xs.length (itC xs) :: ps)) : Has w W (itsA true v xs :: ps) := h.imp fun _ => its_of_row
theorem item_build5 (X : World) (a b c d : Int) (n : Nat) : (Instr.build 51 #[(0, .agg #[.int .i64 a, .int .i64 b, .int .i64 c]), (1, .int .i64 d), (2, .int .u64 (n : Int))]).run Tryd.prog X = .ok (.agg #[.int .i64 a, .int .i64 b, .int .i64 c, .int .i64 d, .int .u64 (n : Int)]) X := by kernel_rfl
theorem map_nil_eq (X : World) : (binOp .eql 24 (.map none) (.map none)).run Tryd.prog X = .ok (.bool true) X := by kernel_rfl
theorem map_some_eq (X : World) (b : Nat) : (binOp .eql 24 (.map (some b)) (.map none)).run Tryd.prog X = .ok (.bool false) X := by kernel_rfl
def PutX (k : HK) (due : Int) (seq : Nat) : It := ⟨k.1, k.2.1, k.2.2, due, seq + 1⟩
def PutOut (w W' : World) (g : Nat) (T : TypeId) (seq : Nat) (xs : List It) (m : HK → Option Nat) (x : It) (ps : List Asr) (e : Ending) : Prop :=
  ∃ gi c mb, e = .returned (.int .i64 0) ∧ Has w W' (hpL g T true (.slice (some ⟨gi, 0, none⟩) (xs.length + 1) c) (.map (some mb)) (seq + 1) (upS (xs ++ [x]) m x xs.length).1 (upS (xs ++ [x]) m x xs.length).2 ps)
set_option maxHeartbeats 4000000 in
set_option maxHeartbeats 4000000 in
theorem put_any {w W : World} {g : Nat} {T : TypeId} {v mv : Value} {seq : Nat} {xs : List It} {m : HK → Option Nat} {ps : List Asr}
    (h : Has w W (hpL g T true v mv seq xs m ps)) (hl : Locs ps) (hok : ∀ t ∈ xs, t.Ok) (k : HK) (hk : KeyOk k) (hm : m k = none) (due : Int) (hd1 : -9223372036854775808 ≤ due) (hd2 : due ≤ 9223372036854775807) (hs : seq + 1 < 18446744073709551616) (hx : xs.length < 1000) :
    Calls Tryd.prog 6 #[.pointer (some ⟨g, 0, none⟩), .agg #[.int .i64 k.1, .int .i64 k.2.1, .int .i64 k.2.2], .int .i64 due] W fun e W' => PutOut w W' g T seq xs m (PutX k due seq) ps e := by
  obtain ⟨k1, k2, k3⟩ := k
  have LH : Locs (hpL g T true v mv seq xs m ps) := hpL_locs hl
  obtain ⟨F, hF⟩ := h.drop.head
  obtain ⟨pv, c, hv, _⟩ := its_slice hF
  obtain ⟨FM, hFM⟩ := h.drop.drop.head
  have hmv : mv = .map none ∨ ∃ b, mv = .map (some b) := by
    rcases hFM with ⟨h1, _⟩ | ⟨b, h1, _⟩
    · exact Or.inl h1
    · exact Or.inr ⟨b, h1⟩
  clear hF hFM
  have HM := Lib.hid hm
  have HMV := Lib.hid hmv
  clear hm hmv
  subst hv
  have h1 := h.new LH 41 #[.int .i64 k1, .int .i64 k2, .int .i64 k3]
  go_enter Tryd.func6, Tryd.ntmps6
  go_upto_region 1 with fail
  refine gen_world' (fun X => Has w X (blkA W.heap.size 41 #[.int .i64 k1, .int .i64 k2, .int .i64 k3] :: hpL g T true (.slice pv xs.length c) mv seq xs m ps)) h1 ?_
  clear h h1
  generalize W.heap.size = gk at *
  intro w1 h1
  have LB : Locs (blkA gk 41 #[.int .i64 k1, .int .i64 k2, .int .i64 k3] :: hpL g T true (.slice pv xs.length c) mv seq xs m ps) := .cons (blkA_loc _ _ _) LH
  have h2 := h1.ext LB (Ext.refl w1).drew
  have hmp : ∃ F, mpA mv m w1.drew F := h2.drop.drop.drop.head
  have e1 : ∀ z : Of (fun X => Blk X g T #[.slice pv xs.length c, mv, .int .u64 seq] ∧ Blk X gk 41 #[.int .i64 k1, .int .i64 k2, .int .i64 k3] ∧ ∃ F, mpA mv m X F), z.val.cell? ⟨g, 1, none⟩ = some mv := fun z => Blk.cell z.property.1 1
  have e2 : ∀ z : Of (fun X => Blk X g T #[.slice pv xs.length c, mv, .int .u64 seq] ∧ Blk X gk 41 #[.int .i64 k1, .int .i64 k2, .int .i64 k3] ∧ ∃ F, mpA mv m X F), (Instr.lookup 24 mv (.agg #[.int .i64 k1, .int .i64 k2, .int .i64 k3]) true).run Tryd.prog z.val = .ok (.tuple #[.int .i64 0, .bool false]) z.val := fun z => by
    obtain ⟨F, hF⟩ := z.property.2.2
    have := mp_look2 hF hk
    rw [HM.out] at this
    exact this
  have hFd := (⟨h2.drop.blk0, h2.blk0, hmp⟩ : Blk w1.drew g T _ ∧ Blk w1.drew gk 41 _ ∧ ∃ F, mpA _ _ w1.drew F)
  have hne_ : Nonempty (Of ((fun X => Blk X g T #[.slice pv xs.length c, mv, .int .u64 seq] ∧ Blk X gk 41 #[.int .i64 k1, .int .i64 k2, .int .i64 k3] ∧ ∃ F, mpA mv m X F))) := ⟨⟨_, hFd⟩⟩
  refine region_steps [0,1,2,3,4,5,6,7,8,9,10] [true,true,true,true,true,true,true,true,true,true,true] ((fun X => Blk X g T #[.slice pv xs.length c, mv, .int .u64 seq] ∧ Blk X gk 41 #[.int .i64 k1, .int .i64 k2, .int .i64 k3] ∧ ∃ F, mpA mv m X F)) (by kernel_rfl) (by kernel_rfl) hFd ?_
  simp only [List.filterMap_cons, List.filterMap_nil, List.getElem?_cons_zero, List.getElem?_cons_succ]
  clear h1
  generalize World.drew w1 = w2 at *
  refine steps_quiet 4 (by kernel_rfl) ?_
  simp only [List.take_succ_cons, List.take_zero, List.drop_succ_cons, List.drop_zero]
  repeat (go_big_quiet_step (fail))
  refine wpQuiet_nil ?_
  refine steps_load_mid rfl _ _ rfl gk 0 rfl [.int .i64 k1, .int .i64 k2, .int .i64 k3] _ (fun X hX => blk_range (cs := [.int .i64 k1, .int .i64 k2, .int .i64 k3]) hX.2.1) Tryd.underlying41 rfl keySize ?_
  (try simp only [Act.put, List.setIfInBounds_toArray, List.set_cons_succ, List.set_cons_zero])
  refine steps_quiet 6 (by kernel_rfl) ?_
  simp only [List.take_succ_cons, List.take_zero, List.drop_succ_cons, List.drop_zero]
  repeat (go_big_quiet_step (fail))
  refine wpQuiet_nil ?_
  refine steps_nil ?_
  clear hmp e1 e2 hFd
  have k0 := h2.drop.blk0.cell 0
  have k1c := h2.drop.blk0.cell 1
  simp only [List.getElem?_toArray, List.getElem?_cons_zero, List.getElem?_cons_succ] at k0 k1c
  have h16 : ¬ (16384 : Int) ≤ xs.length := by omega
  obtain ⟨sq1, hsq0⟩ : ∃ sq1, seq + 1 = sq1 := ⟨_, rfl⟩
  have HSQ := Lib.hid hsq0
  clear hsq0
  rcases HMV.out with rfl | ⟨mb, rfl⟩
  · have hmm := @run_makeMap Tryd.prog
    have hbe := map_nil_eq
    obtain ⟨FM, hFM⟩ := h2.drop.drop.drop.head
    have hmn : m = fun _ => none := by
      funext x
      rcases hFM with ⟨_, h1, _⟩ | ⟨b, h1, _⟩
      · exact h1 x
      · cases h1
    clear hFM
    have h3 := h2.pick (l := [_, _, _, _]) (ps := ps) [3, 0, 1, 2] (by rfl)
    have L3 : Locs (blkA gk 41 #[.int .i64 k1, .int .i64 k2, .int .i64 k3] :: blkA g T #[.slice pv xs.length c, .map none, .int .u64 seq] :: itsA true (.slice pv xs.length c) xs :: ps) := .cons (blkA_loc _ _ _) (.cons (blkA_loc _ _ _) (.cons (itsA_loc _ _ _) hl))
    have h4 := h3.drop.add L3 (ext_alloc w2 (.map #[] 0)) (mp_new w2) (fun k hk => by omega)
    have h5 := h4.pick (l := [_, _, _, _]) (ps := ps) [2, 1, 3, 0] (by rfl)
    have f1 : (w2.alloc (.map #[] 0)).frozen? ⟨g, 1, none⟩ = false := h5.blk0.frozen 1
    have g1 := h5.blk0.cell 1
    have h6 := h5.set (.cons (blkA_loc _ _ _) (.cons (itsA_loc _ _ _) (.cons (mpA_loc _ _) hl))) 1 (.map (some w2.heap.size))
    have h7 := h6.pick (l := [_, _, _, _]) (ps := ps) [1, 0, 2, 3] (by rfl)
    rw [← hmn] at h7
    clear h3 h4 h5 h6 hmn L3
    go_upto_region 8 with fail
    refine gen_world' (fun X => ∃ mb, Has w X (blkA gk 41 #[.int .i64 k1, .int .i64 k2, .int .i64 k3] :: hpL g T true (.slice pv xs.length c) (.map (some mb)) seq xs m ps)) ⟨_, h7⟩ ?_
    clear h7 h2 f1 g1 hmm hbe k0 k1c LB
    rintro w3 ⟨mb, h3⟩
    have hblk := (h3).drop.blk0
    have k2c : World.cell? w3 ⟨g, 2, none⟩ = some (.int .u64 seq) := hblk.cell 2
    have f2 := hblk.frozen 2
    have hsq : (seq : Int) + 1 = (sq1 : Int) := by have := HSQ.out; omega
    have hsq2 : (sq1 : Int) ≤ 18446744073709551615 := by have := HSQ.out; omega
    have hp1 := (h3).pick (l := [_, _, _, _]) (ps := ps) [1, 0, 2, 3] (by rfl)
    have hp2 := hp1.set (.cons (blkA_loc _ _ _) (.cons (itsA_loc _ _ _) (.cons (mpA_loc _ _) hl))) 2 (.int .u64 sq1)
    clear h3 hp1 hblk
    go_upto_region 9 with fail
    refine gen_world' (fun X => Has w X (blkA g T #[.slice pv xs.length c, .map (some mb), .int .u64 sq1] :: blkA gk 41 #[.int .i64 k1, .int .i64 k2, .int .i64 k3] :: itsA true (.slice pv xs.length c) xs :: mpA (.map (some mb)) m :: ps)) hp2 ?_
    clear hp2 k2c f2 hsq hsq2
    intro w4 h4
    have LP : ∀ {v : Value}, Locs (blkA g T #[.slice pv xs.length c, .map (some mb), .int .u64 sq1] :: blkA gk 41 #[.int .i64 k1, .int .i64 k2, .int .i64 k3] :: itsA true v xs :: mpA (.map (some mb)) m :: ps) := .cons (blkA_loc _ _ _) (.cons (blkA_loc _ _ _) (.cons (itsA_loc _ _ _) (.cons (mpA_loc _ _) hl)))
    have h5 := h4.ext LP (Ext.refl w4).drew
    have e0 : ∀ z : Of (fun X => Blk X g T #[.slice pv xs.length c, .map (some mb), .int .u64 sq1] ∧ Blk X gk 41 #[.int .i64 k1, .int .i64 k2, .int .i64 k3]), z.val.cell? ⟨g, 0, none⟩ = some (.slice pv xs.length c) := fun z => Blk.cell z.property.1 0
    have e2 : ∀ z : Of (fun X => Blk X g T #[.slice pv xs.length c, .map (some mb), .int .u64 sq1] ∧ Blk X gk 41 #[.int .i64 k1, .int .i64 k2, .int .i64 k3]), z.val.cell? ⟨g, 2, none⟩ = some (.int .u64 sq1) := fun z => Blk.cell z.property.1 2
    have hb5 := fun X => item_build5 X k1 k2 k3 due sq1
    have hFd := (⟨h5.blk0, h5.drop.blk0⟩ : Blk w4.drew g T _ ∧ Blk w4.drew gk 41 _)
    have hne_ : Nonempty (Of ((fun X => Blk X g T #[.slice pv xs.length c, .map (some mb), .int .u64 sq1] ∧ Blk X gk 41 #[.int .i64 k1, .int .i64 k2, .int .i64 k3]))) := ⟨⟨_, hFd⟩⟩
    refine region_planZ 16 (.seg [0,1,2,3,4,5,6,7,8,9,10,11,12,13,14,15] [true,true,true,true,true,true,true,true,true,true,true,true,false,false,false,true] .done) ((fun X => Blk X g T #[.slice pv xs.length c, .map (some mb), .int .u64 sq1] ∧ Blk X gk 41 #[.int .i64 k1, .int .i64 k2, .int .i64 k3])) (by kernel_rfl) (by kernel_rfl) hFd ?_
    refine walkZ_seg ?_
    simp only [List.filterMap_cons, List.filterMap_nil, List.getElem?_cons_zero, List.getElem?_cons_succ]
    clear h4
    generalize World.drew w4 = w5 at *
    refine steps_quiet 5 (by kernel_rfl) ?_
    simp only [List.take_succ_cons, List.take_zero, List.drop_succ_cons, List.drop_zero]
    repeat (go_big_quiet_step (fail))
    refine wpQuiet_nil ?_
    refine steps_load_mid rfl _ _ rfl gk 0 rfl [.int .i64 k1, .int .i64 k2, .int .i64 k3] _ (fun X hX => blk_range (cs := [.int .i64 k1, .int .i64 k2, .int .i64 k3]) hX.2) Tryd.underlying41 rfl keySize ?_
    (try simp only [Act.put, List.setIfInBounds_toArray, List.set_cons_succ, List.set_cons_zero])
    refine steps_quiet 6 (by kernel_rfl) ?_
    simp only [List.take_succ_cons, List.take_zero, List.drop_succ_cons, List.drop_zero]
    repeat (go_big_quiet_step (fail))
    refine wpQuiet_nil ?_
    refine steps_want rfl (fun K hK => ?_)
    go_simp
    have h6 := h5.ext LP (ext_alloc w5 (.cells #[.int .i64 k1, .int .i64 k2, .int .i64 k3, .int .i64 due, .int .u64 sq1] 51))
    refine hK _ _ (fun X => Blk X g T #[.slice pv xs.length c, .map (some mb), .int .u64 sq1] ∧ Blk X gk 41 #[.int .i64 k1, .int .i64 k2, .int .i64 k3]) ⟨h6.blk0, h6.drop.blk0⟩ (fun _ h => h) ?_
    clear hK K hb5
    (try simp only [Act.put, List.setIfInBounds_toArray, List.set_cons_succ, List.set_cons_zero])
    have hnews := news_new w5 [.int .i64 k1, .int .i64 k2, .int .i64 k3, .int .i64 due, .int .u64 sq1] 51
    have h7 := its_to_row (h6.pick (l := [_, _, _, _]) (ps := ps) [2, 0, 1, 3] (by rfl))
    have LR : Locs (blkA g T #[.slice pv xs.length c, .map (some mb), .int .u64 sq1] :: blkA gk 41 #[.int .i64 k1, .int .i64 k2, .int .i64 k3] :: mpA (.map (some mb)) m :: ps) := .cons (blkA_loc _ _ _) (.cons (blkA_loc _ _ _) (.cons (mpA_loc _ _) hl))
    clear h5 h6
    obtain ⟨i0, hi0, hz0, hz1, hz2⟩ := info_parts itemInfo
    refine steps_want rfl (fun K hK => ?_)
    refine wp_append_new _ _ 23 rfl 51 i0 (.agg #[.int .i64 0, .int .i64 0, .int .i64 0, .int .i64 0, .int .u64 0]) 5 40 Tryd.underlying23 hi0 hz0 hz1 hz2 rfl (by decide) _ xs.length (itC xs) rfl h7.row0 (some ⟨w5.heap.size, 0, none⟩) 1 1 [.int .i64 k1, .int .i64 k2, .int .i64 k3, .int .i64 due, .int .u64 sq1] rfl rfl (fun h => nomatch h) hnews (by intro u hu; simp at hu; rcases hu with rfl | rfl | rfl | rfl | rfl <;> rfl) (by unfold maxLen; omega) (by omega) ?_
    intro v' w6 hown6 hg6 hf6
    obtain ⟨p6, c6, rfl⟩ := ownsRow_slice hown6
    have h8 := h7.grow LR hown6 hg6 hf6
    have hcat : itC xs ++ [.int .i64 k1, .int .i64 k2, .int .i64 k3, .int .i64 due, .int .u64 sq1] = itC (xs ++ [⟨k1, k2, k3, due, sq1⟩]) := by rw [itC_append]; rfl
    rw [hcat, show xs.length + 1 = (xs ++ [(⟨k1, k2, k3, due, sq1⟩ : It)]).length by simp] at h8
    have h9 := row_to_its h8
    have hlx : (xs ++ [(⟨k1, k2, k3, due, sq1⟩ : It)]).length = xs.length + 1 := by simp
    rw [hlx] at h9
    obtain ⟨F9, hF9⟩ := h9.head
    obtain ⟨gi, c9, hv9, _⟩ := its_some hF9 (by rw [hlx]; omega)
    injection hv9 with hv9 hv9b hv9c
    clear hv9b
    subst hv9
    clear hv9c
    clear hF9
    have HLX := Lib.hid hlx
    clear hlx
    clear h7 h8 hown6 hg6 hf6 hnews hi0 hz0 hz1 hz2 hcat
    refine hK _ _ (fun X => Blk X g T #[.slice pv xs.length c, .map (some mb), .int .u64 sq1] ∧ Blk X gk 41 #[.int .i64 k1, .int .i64 k2, .int .i64 k3]) ⟨h9.drop.blk0, h9.drop.drop.blk0⟩ (fun _ h => h) ?_
    clear hK K
    (try simp only [Act.put, List.setIfInBounds_toArray, List.set_cons_succ, List.set_cons_zero])
    refine steps_want rfl (fun K hK => ?_)
    go_simp
    refine hK _ _ (fun X => Blk X g T #[.slice pv xs.length c, .map (some mb), .int .u64 sq1] ∧ Blk X gk 41 #[.int .i64 k1, .int .i64 k2, .int .i64 k3]) ⟨h9.drop.blk0, h9.drop.drop.blk0⟩ (fun _ h => h) ?_
    clear hK K
    (try simp only [Act.put, List.setIfInBounds_toArray, List.set_cons_succ, List.set_cons_zero])
    refine steps_quiet 1 (by kernel_rfl) ?_
    simp only [List.take_succ_cons, List.take_zero, List.drop_succ_cons, List.drop_zero]
    repeat (go_big_quiet_step (fail))
    refine wpQuiet_nil ?_
    have hbl9 := h9.drop.blk0
    have f4 := Blk.frozen hbl9 0
    have c4 := Blk.cell hbl9 0
    have h10 := h9.pick (l := [_, _, _, _]) (ps := ps) [1, 0, 3, 2] (by rfl)
    have h11 := h10.set (.cons (itsA_loc _ _ _) (.cons (mpA_loc _ _) (.cons (blkA_loc _ _ _) hl))) 0 (.slice (some ⟨gi, 0, none⟩) (xs.length + 1) c6)
    clear h9 h10 hbl9
    refine steps_end ?_
    refine walkZ_done rfl rfl (fun K hK => ?_)
    go_simp
    refine hK _ _ ?_
    clear hK K
    try simp only [Act.put, List.setIfInBounds_toArray, List.set_cons_succ, List.set_cons_zero]
    clear f4 c4
    go_upto_region 10 with fail
    refine gen_world' (fun X => Has w X (hpL g T true (.slice (some ⟨gi, 0, none⟩) (xs.length + 1) c6) (.map (some mb)) sq1 (xs ++ [(⟨k1, k2, k3, due, sq1⟩ : It)]) m (blkA gk 41 #[.int .i64 k1, .int .i64 k2, .int .i64 k3] :: ps))) h11 ?_
    clear h11 e0 e2
    intro w7 h12
    have k0 := h12.blk0.cell 0
    simp only [List.getElem?_toArray, List.getElem?_cons_zero] at k0
    have hxo : ∀ t ∈ xs ++ [(⟨k1, k2, k3, due, sq1⟩ : It)], t.Ok := by
      intro t ht
      rcases List.mem_append.1 ht with ht | ht
      · exact hok t ht
      · rw [List.mem_singleton.1 ht]
        exact ⟨hk, hd1, hd2, by have := HSQ.out; show sq1 < _; omega⟩
    have hgd : (xs ++ [(⟨k1, k2, k3, due, sq1⟩ : It)]).getD xs.length It.none_ = (⟨k1, k2, k3, due, sq1⟩ : It) := by
      rw [List.getD_eq_getElem?_getD, List.getElem?_append_right (Nat.le_refl _), Nat.sub_self]; rfl
    have HGD := Lib.hid hgd
    clear hgd
    go_wp2_with fail
    refine (up_any h12 (.cons (blkA_loc _ _ _) hl) HLX.out hxo xs.length (by omega)).mono ?_
    clear h12 k0
    rintro e w8 ⟨rfl, h13⟩
    rw [HGD.out] at h13
    go_wp2_with fail
    go_ret
    have h14 := h13.pick (l := [_, _, _, _]) (ps := ps) [3, 0, 1, 2] (by rfl)
    refine ⟨gi, c6, mb, rfl, ?_⟩
    unfold PutX
    rw [HSQ.out]
    exact h14.drop
  · have hbe := fun X => map_some_eq X mb
    go_upto_region 8 with fail
    clear k0 k1c LB hbe
    have hblk := (h2).drop.blk0
    have k2c : World.cell? w2 ⟨g, 2, none⟩ = some (.int .u64 seq) := hblk.cell 2
    have f2 := hblk.frozen 2
    have hsq : (seq : Int) + 1 = (sq1 : Int) := by have := HSQ.out; omega
    have hsq2 : (sq1 : Int) ≤ 18446744073709551615 := by have := HSQ.out; omega
    have hp1 := (h2).pick (l := [_, _, _, _]) (ps := ps) [1, 0, 2, 3] (by rfl)
    have hp2 := hp1.set (.cons (blkA_loc _ _ _) (.cons (itsA_loc _ _ _) (.cons (mpA_loc _ _) hl))) 2 (.int .u64 sq1)
    clear h2 hp1 hblk
    go_upto_region 9 with fail
    refine gen_world' (fun X => Has w X (blkA g T #[.slice pv xs.length c, .map (some mb), .int .u64 sq1] :: blkA gk 41 #[.int .i64 k1, .int .i64 k2, .int .i64 k3] :: itsA true (.slice pv xs.length c) xs :: mpA (.map (some mb)) m :: ps)) hp2 ?_
    clear hp2 k2c f2 hsq hsq2
    intro w4 h4
    have LP : ∀ {v : Value}, Locs (blkA g T #[.slice pv xs.length c, .map (some mb), .int .u64 sq1] :: blkA gk 41 #[.int .i64 k1, .int .i64 k2, .int .i64 k3] :: itsA true v xs :: mpA (.map (some mb)) m :: ps) := .cons (blkA_loc _ _ _) (.cons (blkA_loc _ _ _) (.cons (itsA_loc _ _ _) (.cons (mpA_loc _ _) hl)))
    have h5 := h4.ext LP (Ext.refl w4).drew
    have e0 : ∀ z : Of (fun X => Blk X g T #[.slice pv xs.length c, .map (some mb), .int .u64 sq1] ∧ Blk X gk 41 #[.int .i64 k1, .int .i64 k2, .int .i64 k3]), z.val.cell? ⟨g, 0, none⟩ = some (.slice pv xs.length c) := fun z => Blk.cell z.property.1 0
    have e2 : ∀ z : Of (fun X => Blk X g T #[.slice pv xs.length c, .map (some mb), .int .u64 sq1] ∧ Blk X gk 41 #[.int .i64 k1, .int .i64 k2, .int .i64 k3]), z.val.cell? ⟨g, 2, none⟩ = some (.int .u64 sq1) := fun z => Blk.cell z.property.1 2
    have hb5 := fun X => item_build5 X k1 k2 k3 due sq1
    have hFd := (⟨h5.blk0, h5.drop.blk0⟩ : Blk w4.drew g T _ ∧ Blk w4.drew gk 41 _)
    have hne_ : Nonempty (Of ((fun X => Blk X g T #[.slice pv xs.length c, .map (some mb), .int .u64 sq1] ∧ Blk X gk 41 #[.int .i64 k1, .int .i64 k2, .int .i64 k3]))) := ⟨⟨_, hFd⟩⟩
    refine region_planZ 16 (.seg [0,1,2,3,4,5,6,7,8,9,10,11,12,13,14,15] [true,true,true,true,true,true,true,true,true,true,true,true,false,false,false,true] .done) ((fun X => Blk X g T #[.slice pv xs.length c, .map (some mb), .int .u64 sq1] ∧ Blk X gk 41 #[.int .i64 k1, .int .i64 k2, .int .i64 k3])) (by kernel_rfl) (by kernel_rfl) hFd ?_
    refine walkZ_seg ?_
    simp only [List.filterMap_cons, List.filterMap_nil, List.getElem?_cons_zero, List.getElem?_cons_succ]
    clear h4
    generalize World.drew w4 = w5 at *
    refine steps_quiet 5 (by kernel_rfl) ?_
    simp only [List.take_succ_cons, List.take_zero, List.drop_succ_cons, List.drop_zero]
    repeat (go_big_quiet_step (fail))
    refine wpQuiet_nil ?_
    refine steps_load_mid rfl _ _ rfl gk 0 rfl [.int .i64 k1, .int .i64 k2, .int .i64 k3] _ (fun X hX => blk_range (cs := [.int .i64 k1, .int .i64 k2, .int .i64 k3]) hX.2) Tryd.underlying41 rfl keySize ?_
    (try simp only [Act.put, List.setIfInBounds_toArray, List.set_cons_succ, List.set_cons_zero])
    refine steps_quiet 6 (by kernel_rfl) ?_
    simp only [List.take_succ_cons, List.take_zero, List.drop_succ_cons, List.drop_zero]
    repeat (go_big_quiet_step (fail))
    refine wpQuiet_nil ?_
    refine steps_want rfl (fun K hK => ?_)
    go_simp
    have h6 := h5.ext LP (ext_alloc w5 (.cells #[.int .i64 k1, .int .i64 k2, .int .i64 k3, .int .i64 due, .int .u64 sq1] 51))
    refine hK _ _ (fun X => Blk X g T #[.slice pv xs.length c, .map (some mb), .int .u64 sq1] ∧ Blk X gk 41 #[.int .i64 k1, .int .i64 k2, .int .i64 k3]) ⟨h6.blk0, h6.drop.blk0⟩ (fun _ h => h) ?_
    clear hK K hb5
    (try simp only [Act.put, List.setIfInBounds_toArray, List.set_cons_succ, List.set_cons_zero])
    have hnews := news_new w5 [.int .i64 k1, .int .i64 k2, .int .i64 k3, .int .i64 due, .int .u64 sq1] 51
    have h7 := its_to_row (h6.pick (l := [_, _, _, _]) (ps := ps) [2, 0, 1, 3] (by rfl))
    have LR : Locs (blkA g T #[.slice pv xs.length c, .map (some mb), .int .u64 sq1] :: blkA gk 41 #[.int .i64 k1, .int .i64 k2, .int .i64 k3] :: mpA (.map (some mb)) m :: ps) := .cons (blkA_loc _ _ _) (.cons (blkA_loc _ _ _) (.cons (mpA_loc _ _) hl))
    clear h5 h6
    obtain ⟨i0, hi0, hz0, hz1, hz2⟩ := info_parts itemInfo
    refine steps_want rfl (fun K hK => ?_)
    refine wp_append_new _ _ 23 rfl 51 i0 (.agg #[.int .i64 0, .int .i64 0, .int .i64 0, .int .i64 0, .int .u64 0]) 5 40 Tryd.underlying23 hi0 hz0 hz1 hz2 rfl (by decide) _ xs.length (itC xs) rfl h7.row0 (some ⟨w5.heap.size, 0, none⟩) 1 1 [.int .i64 k1, .int .i64 k2, .int .i64 k3, .int .i64 due, .int .u64 sq1] rfl rfl (fun h => nomatch h) hnews (by intro u hu; simp at hu; rcases hu with rfl | rfl | rfl | rfl | rfl <;> rfl) (by unfold maxLen; omega) (by omega) ?_
    intro v' w6 hown6 hg6 hf6
    obtain ⟨p6, c6, rfl⟩ := ownsRow_slice hown6
    have h8 := h7.grow LR hown6 hg6 hf6
    have hcat : itC xs ++ [.int .i64 k1, .int .i64 k2, .int .i64 k3, .int .i64 due, .int .u64 sq1] = itC (xs ++ [⟨k1, k2, k3, due, sq1⟩]) := by rw [itC_append]; rfl
    rw [hcat, show xs.length + 1 = (xs ++ [(⟨k1, k2, k3, due, sq1⟩ : It)]).length by simp] at h8
    have h9 := row_to_its h8
    have hlx : (xs ++ [(⟨k1, k2, k3, due, sq1⟩ : It)]).length = xs.length + 1 := by simp
    rw [hlx] at h9
    obtain ⟨F9, hF9⟩ := h9.head
    obtain ⟨gi, c9, hv9, _⟩ := its_some hF9 (by rw [hlx]; omega)
    injection hv9 with hv9 hv9b hv9c
    clear hv9b
    subst hv9
    clear hv9c
    clear hF9
    have HLX := Lib.hid hlx
    clear hlx
    clear h7 h8 hown6 hg6 hf6 hnews hi0 hz0 hz1 hz2 hcat
    refine hK _ _ (fun X => Blk X g T #[.slice pv xs.length c, .map (some mb), .int .u64 sq1] ∧ Blk X gk 41 #[.int .i64 k1, .int .i64 k2, .int .i64 k3]) ⟨h9.drop.blk0, h9.drop.drop.blk0⟩ (fun _ h => h) ?_
    clear hK K
    (try simp only [Act.put, List.setIfInBounds_toArray, List.set_cons_succ, List.set_cons_zero])
    refine steps_want rfl (fun K hK => ?_)
    go_simp
    refine hK _ _ (fun X => Blk X g T #[.slice pv xs.length c, .map (some mb), .int .u64 sq1] ∧ Blk X gk 41 #[.int .i64 k1, .int .i64 k2, .int .i64 k3]) ⟨h9.drop.blk0, h9.drop.drop.blk0⟩ (fun _ h => h) ?_
    clear hK K
    (try simp only [Act.put, List.setIfInBounds_toArray, List.set_cons_succ, List.set_cons_zero])
    refine steps_quiet 1 (by kernel_rfl) ?_
    simp only [List.take_succ_cons, List.take_zero, List.drop_succ_cons, List.drop_zero]
    repeat (go_big_quiet_step (fail))
    refine wpQuiet_nil ?_
    have hbl9 := h9.drop.blk0
    have f4 := Blk.frozen hbl9 0
    have c4 := Blk.cell hbl9 0
    have h10 := h9.pick (l := [_, _, _, _]) (ps := ps) [1, 0, 3, 2] (by rfl)
    have h11 := h10.set (.cons (itsA_loc _ _ _) (.cons (mpA_loc _ _) (.cons (blkA_loc _ _ _) hl))) 0 (.slice (some ⟨gi, 0, none⟩) (xs.length + 1) c6)
    clear h9 h10 hbl9
    refine steps_end ?_
    refine walkZ_done rfl rfl (fun K hK => ?_)
    go_simp
    refine hK _ _ ?_
    clear hK K
    try simp only [Act.put, List.setIfInBounds_toArray, List.set_cons_succ, List.set_cons_zero]
    clear f4 c4
    go_upto_region 10 with fail
    refine gen_world' (fun X => Has w X (hpL g T true (.slice (some ⟨gi, 0, none⟩) (xs.length + 1) c6) (.map (some mb)) sq1 (xs ++ [(⟨k1, k2, k3, due, sq1⟩ : It)]) m (blkA gk 41 #[.int .i64 k1, .int .i64 k2, .int .i64 k3] :: ps))) h11 ?_
    clear h11 e0 e2
    intro w7 h12
    have k0 := h12.blk0.cell 0
    simp only [List.getElem?_toArray, List.getElem?_cons_zero] at k0
    have hxo : ∀ t ∈ xs ++ [(⟨k1, k2, k3, due, sq1⟩ : It)], t.Ok := by
      intro t ht
      rcases List.mem_append.1 ht with ht | ht
      · exact hok t ht
      · rw [List.mem_singleton.1 ht]
        exact ⟨hk, hd1, hd2, by have := HSQ.out; show sq1 < _; omega⟩
    have hgd : (xs ++ [(⟨k1, k2, k3, due, sq1⟩ : It)]).getD xs.length It.none_ = (⟨k1, k2, k3, due, sq1⟩ : It) := by
      rw [List.getD_eq_getElem?_getD, List.getElem?_append_right (Nat.le_refl _), Nat.sub_self]; rfl
    have HGD := Lib.hid hgd
    clear hgd
    go_wp2_with fail
    refine (up_any h12 (.cons (blkA_loc _ _ _) hl) HLX.out hxo xs.length (by omega)).mono ?_
    clear h12 k0
    rintro e w8 ⟨rfl, h13⟩
    rw [HGD.out] at h13
    go_wp2_with fail
    go_ret
    have h14 := h13.pick (l := [_, _, _, _]) (ps := ps) [3, 0, 1, 2] (by rfl)
    refine ⟨gi, c6, mb, rfl, ?_⟩
    unfold PutX
    rw [HSQ.out]
    exact h14.drop
end Go.Proofs.YtnbdcdeidhhgoaaDoor
