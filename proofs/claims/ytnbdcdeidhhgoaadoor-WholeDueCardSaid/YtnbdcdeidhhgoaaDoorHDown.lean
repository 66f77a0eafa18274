/- A thing goes down as far as it must. -/
import Derived.Test.YtnbdcdeidhhgoaaDoorHUp
namespace Go.Proofs.YtnbdcdeidhhgoaaDoor
set_option maxRecDepth 4000
set_option linter.unusedVariables false
set_option linter.unusedSimpArgs false
open Go Go.RowKit Go.Sort
def kidS (xs : List It) (i : Nat) : Nat := if 2 * i + 2 < xs.length ∧ hcmp (xs.getD (2 * i + 2) It.none_) (xs.getD (2 * i + 1) It.none_) < 0 then 2 * i + 2 else 2 * i + 1
theorem kidS_gt (xs : List It) (i : Nat) : i < kidS xs i := by unfold kidS; split <;> omega
theorem kidS_lt {xs : List It} {i : Nat} (h : 2 * i + 1 < xs.length) : kidS xs i < xs.length := by unfold kidS; split <;> omega
/-- what has come of the things and their places, as one goes down from a place -/
def downS (xs : List It) (m : HK → Option Nat) (x : It) (i : Nat) : List It × (HK → Option Nat) :=
  if h : 2 * i + 1 < xs.length then
    if hcmp x (xs.getD (kidS xs i) It.none_) ≤ 0 then (xs.set i x, updM m x.key i)
    else downS (xs.set i (xs.getD (kidS xs i) It.none_)) (updM m (xs.getD (kidS xs i) It.none_).key i) x (kidS xs i)
  else (xs.set i x, updM m x.key i)
termination_by xs.length - i
decreasing_by
  rw [List.length_set]
  have h1 := kidS_gt xs i
  have h2 := kidS_lt h
  omega

def DnRel (w : World) (g : Nat) (T : TypeId) (full : Bool) (gi n c mb seq gx : Nat) (x : It) (R : List It × (HK → Option Nat)) (ps : List Asr) (v1 : Value) (wr : World) : Prop :=
  ∃ (i : Nat) (ys : List It) (m : HK → Option Nat), v1 = .int .i64 i ∧ i < n ∧ ys.length = n ∧ (∀ t ∈ ys, t.Ok) ∧ downS ys m x i = R ∧ Has w wr (blkA gx 51 #[.int .i64 x.run, .int .i64 x.kind, .int .i64 x.id, .int .i64 x.due, .int .u64 x.seq] :: hpL g T full (.slice (some ⟨gi, 0, none⟩) n c) (.map (some mb)) seq ys m ps)
set_option maxHeartbeats 4000000 in
theorem down_any {w W : World} {g : Nat} {T : TypeId} {full : Bool} {gi n c mb seq : Nat} {xs : List It} {m : HK → Option Nat} {ps : List Asr}
    (h : Has w W (hpL g T full (.slice (some ⟨gi, 0, none⟩) n c) (.map (some mb)) seq xs m ps)) (hl : Locs ps) (hn : xs.length = n) (hok : ∀ t ∈ xs, t.Ok) (i : Nat) (hi : i < n) (hn20 : n ≤ 1000000) :
    Calls Tryd.prog 36 #[.pointer (some ⟨g, 0, none⟩), .int .i64 i] W fun e W' =>
      e = .returned (.tuple #[]) ∧ Has w W' (hpL g T full (.slice (some ⟨gi, 0, none⟩) n c) (.map (some mb)) seq (downS xs m (xs.getD i It.none_) i).1 (downS xs m (xs.getD i It.none_) i).2 ps) := by
  have LH : ∀ {ys : List It} {m : HK → Option Nat}, Locs (hpL g T full (.slice (some ⟨gi, 0, none⟩) n c) (.map (some mb)) seq ys m ps) := hpL_locs hl
  have hgd : xs.getD i It.none_ = xs[i]'(by omega) := by rw [List.getD_eq_getElem?_getD, List.getElem?_eq_getElem (by omega)]; rfl
  obtain ⟨F, hF⟩ := h.drop.head
  have hn63 : (n : Int) ≤ 9223372036854775807 := by
    obtain ⟨p, c', hv, hm⟩ := its_slice hF
    unfold maxLen at hm; omega
  have x0 := its_cell hF i (by omega) 0 (by omega)
  have x1 := its_cell hF i (by omega) 1 (by omega)
  have x2 := its_cell hF i (by omega) 2 (by omega)
  have x3 := its_cell hF i (by omega) 3 (by omega)
  have x4 := its_cell hF i (by omega) 4 (by omega)
  have hxo : (xs[i]'(by omega)).Ok := hok _ (List.getElem_mem _)
  rw [hgd]
  clear hF hgd
  generalize xs[i]'(by omega) = x at *
  simp only [It.cells, List.getElem?_cons_zero, List.getElem?_cons_succ, Nat.add_zero] at x0 x1 x2 x3 x4
  have k0 := h.blk0.cell 0
  simp only [List.getElem?_toArray, List.getElem?_cons_zero] at k0
  have hin : (i : Int) < n := by omega
  have HOK := Lib.hid hok
  have HN := Lib.hid hn
  clear hok hn
  go_enter Tryd.func36, Tryd.ntmps36
  have h2 := h.new LH 51 #[.int .i64 x.run, .int .i64 x.kind, .int .i64 x.id, .int .i64 x.due, .int .u64 x.seq]
  go_wp2_with fail
  refine gen_world' (fun X => Has w X (blkA W.heap.size 51 #[.int .i64 x.run, .int .i64 x.kind, .int .i64 x.id, .int .i64 x.due, .int .u64 x.seq] :: hpL g T full (.slice (some ⟨gi, 0, none⟩) n c) (.map (some mb)) seq xs m ps)) h2 ?_
  clear h h2 x0 x1 x2 x3 x4 k0
  generalize W.heap.size = gx at *
  intro w2 h2
  go_loopw [1] (fun v wr => DnRel w g T full gi n c mb seq gx x (downS xs m x i) ps v wr) (fun v _ => ((n : Int) - intOf v).toNat)
  case atStart => exact ⟨i, xs, m, rfl, hi, HN.out, HOK.out, rfl, h2⟩
  case round =>
    clear h2 hi hin
    obtain ⟨i, ys, m, rfl, hi, hyl, hyo, hR, h3⟩ := hrel
    rw [downS] at hR
    obtain ⟨k, hk⟩ : ∃ k, 2 * i + 1 = k := ⟨_, rfl⟩
    have hki : 2 * (i : Int) + 1 = (k : Int) := by omega
    have k0 := h3.drop.blk0.cell 0
    simp only [List.getElem?_toArray, List.getElem?_cons_zero] at k0
    by_cases h1 : k < ys.length
    · rw [dif_pos (by omega)] at hR
      have HR := Lib.hid hR
      have HYL := Lib.hid hyl
      have HYO := Lib.hid hyo
      have HKK := Lib.hid hk
      have hkl : i < k := by omega
      have h1i : (k : Int) < n := by omega
      clear hR hyl hyo hk
      go_upto_region 3 with fail
      clear k0
      by_cases h2 : k + 1 < ys.length
      · have h2i : (k : Int) + 1 < n := by have := HYL.out; omega
        have h1l : k < ys.length := h1
        obtain ⟨F, hF⟩ := h3.drop.drop.head
        have hr1 := its_range hF k h1
        have hr2 := its_range hF (k + 1) h2
        clear hF
        obtain ⟨ya, hya⟩ : ∃ y, ys[k] = y := ⟨_, rfl⟩
        obtain ⟨yb, hyb⟩ : ∃ y, ys[k + 1] = y := ⟨_, rfl⟩
        rw [hya] at hr1
        rw [hyb] at hr2
        have HYA := Lib.hid hya
        have HYB := Lib.hid hyb
        clear hya hyb
        have e0 : ∀ z : Of (fun X => Blk X g T #[.slice (some ⟨gi, 0, none⟩) n c, .map (some mb), .int .u64 seq] ∧ X.rangeAt gi (k * 5) ya.cells ∧ X.rangeAt gi ((k + 1) * 5) yb.cells), z.val.cell? ⟨g, 0, none⟩ = some (.slice (some ⟨gi, 0, none⟩) n c) := fun z => Blk.cell z.property.1 0
        have hFd := (⟨h3.drop.blk0, hr1, hr2⟩ : Blk wr.drew g T _ ∧ wr.drew.rangeAt gi (k * 5) _ ∧ wr.drew.rangeAt gi ((k + 1) * 5) _)
        have hne_ : Nonempty (Of ((fun X => Blk X g T #[.slice (some ⟨gi, 0, none⟩) n c, .map (some mb), .int .u64 seq] ∧ X.rangeAt gi (k * 5) ya.cells ∧ X.rangeAt gi ((k + 1) * 5) yb.cells))) := ⟨⟨_, hFd⟩⟩
        refine region_steps [0,1,2,3,4,5,6,7,8,9,10,11,12,13,14,15,16,17,18,19,20,21,22,23,24,25,26] [true,true,true,true,true,true,true,true,true,true,true,true,true,true,true,true,true,true,true,true,true,true,true,true,false,true,true] ((fun X => Blk X g T #[.slice (some ⟨gi, 0, none⟩) n c, .map (some mb), .int .u64 seq] ∧ X.rangeAt gi (k * 5) ya.cells ∧ X.rangeAt gi ((k + 1) * 5) yb.cells)) (by kernel_rfl) (by kernel_rfl) hFd ?_
        simp only [List.filterMap_cons, List.filterMap_nil, List.getElem?_cons_zero, List.getElem?_cons_succ]
        have LB3 : Locs (blkA gx 51 #[.int .i64 x.run, .int .i64 x.kind, .int .i64 x.id, .int .i64 x.due, .int .u64 x.seq] :: hpL g T full (.slice (some ⟨gi, 0, none⟩) n c) (.map (some mb)) seq ys m ps) := .cons (blkA_loc _ _ _) LH
        have h4 := h3.ext LB3 (Ext.refl wr).drew
        clear h3 hr1 hr2
        generalize World.drew wr = w3 at *
        refine steps_quiet 16 (by kernel_rfl) ?_
        simp only [List.take_succ_cons, List.take_zero, List.drop_succ_cons, List.drop_zero]
        repeat (go_big_quiet_step (fail))
        refine wpQuiet_nil ?_
        refine steps_load_mid rfl _ _ rfl gi ((k + 1) * 5) rfl [.int .i64 (yb).run, .int .i64 (yb).kind, .int .i64 (yb).id, .int .i64 (yb).due, .int .u64 (yb).seq] _ (fun X hX => hX.2.2) Tryd.underlying51 rfl itemSize ?_
        (try simp only [Act.put, List.setIfInBounds_toArray, List.set_cons_succ, List.set_cons_zero])
        refine steps_quiet 6 (by kernel_rfl) ?_
        simp only [List.take_succ_cons, List.take_zero, List.drop_succ_cons, List.drop_zero]
        repeat (go_big_quiet_step (fail))
        refine wpQuiet_nil ?_
        refine steps_load_mid rfl _ _ rfl gi (k * 5) rfl [.int .i64 (ya).run, .int .i64 (ya).kind, .int .i64 (ya).id, .int .i64 (ya).due, .int .u64 (ya).seq] _ (fun X hX => hX.2.1) Tryd.underlying51 rfl itemSize ?_
        (try simp only [Act.put, List.setIfInBounds_toArray, List.set_cons_succ, List.set_cons_zero])
        refine steps_want rfl (fun K hK => ?_)
        go_simp
        refine (hcomp_ext yb ya w3).mono ?_
        rintro e w5 ⟨rfl, hE5⟩
        have h5 := h4.ext LB3 hE5
        refine hK _ _ (fun X => Blk X g T #[.slice (some ⟨gi, 0, none⟩) n c, .map (some mb), .int .u64 seq] ∧ X.rangeAt gi (k * 5) ya.cells ∧ X.rangeAt gi ((k + 1) * 5) yb.cells) ⟨h5.drop.blk0, range_ext hFd.2.1 (World.block_lt_of_cell? w3 _ (hFd.2.1 0 _ rfl)) hE5, range_ext hFd.2.2 (World.block_lt_of_cell? w3 _ (hFd.2.1 0 _ rfl)) hE5⟩ (fun _ h => h) ?_
        clear hK K h4 hFd hE5 e0 LB3
        (try simp only [Act.put, List.setIfInBounds_toArray, List.set_cons_succ, List.set_cons_zero])
        refine steps_quiet 2 (by kernel_rfl) ?_
        simp only [List.take_succ_cons, List.take_zero, List.drop_succ_cons, List.drop_zero]
        repeat (go_big_quiet_step (fail))
        refine wpQuiet_nil ?_
        refine steps_nil ?_
        by_cases hlt : hcmp yb ya < 0
        · have HKID : Hid (kidS ys i = k + 1) := Lib.hid (by
            unfold kidS
            rw [show 2 * i + 2 = k + 1 by have := HKK.out; omega, show 2 * i + 1 = k by have := HKK.out; omega]
            refine if_pos ⟨h2, ?_⟩
            rw [List.getD_eq_getElem?_getD, List.getD_eq_getElem?_getD, List.getElem?_eq_getElem h2, List.getElem?_eq_getElem h1l]
            show hcmp ys[k + 1] ys[k] < 0
            rw [HYA.out, HYB.out]; exact hlt)
          have hd : decide (hcmp yb ya < 0) = true := decide_eq_true hlt
          rw [hd]
          clear hd hlt h2i h1i hki
          have k0 := h5.drop.blk0.cell 0
          simp only [List.getElem?_toArray, List.getElem?_cons_zero] at k0
          have hkn : (k + 1) < ys.length := by have := HYL.out; omega
          obtain ⟨F, hF⟩ := h5.drop.drop.head
          have hrg : w5.rangeAt gi ((k + 1) * 5) (yb).cells := by
            have := its_range hF (k + 1) hkn
            rw [HYB.out] at this
            exact this
          have hyk : (yb).Ok := by rw [← HYB.out]; exact HYO.out _ (List.getElem_mem _)
          clear hF
          have hkn2 : ((k + 1) : Int) < n := by have := HYL.out; omega
          have LB : ∀ {m : HK → Option Nat}, Locs (blkA gx 51 #[.int .i64 x.run, .int .i64 x.kind, .int .i64 x.id, .int .i64 x.due, .int .u64 x.seq] :: hpL g T full (.slice (some ⟨gi, 0, none⟩) n c) (.map (some mb)) seq ys m ps) := .cons (blkA_loc _ _ _) LH
          have e0 : ∀ z : Of (fun X => Blk X g T #[.slice (some ⟨gi, 0, none⟩) n c, .map (some mb), .int .u64 seq] ∧ X.rangeAt gi ((k + 1) * 5) (yb).cells ∧ Blk X gx 51 #[.int .i64 x.run, .int .i64 x.kind, .int .i64 x.id, .int .i64 x.due, .int .u64 x.seq]), z.val.cell? ⟨g, 0, none⟩ = some (.slice (some ⟨gi, 0, none⟩) n c) := fun z => Blk.cell z.property.1 0
          go_upto_region 5 with fail
          clear k0
          have hFd := (⟨h5.drop.blk0, hrg, h5.blk0⟩ : Blk w5.drew g T _ ∧ w5.drew.rangeAt gi ((k + 1) * 5) _ ∧ Blk w5.drew gx 51 _)
          have hne_ : Nonempty (Of ((fun X => Blk X g T #[.slice (some ⟨gi, 0, none⟩) n c, .map (some mb), .int .u64 seq] ∧ X.rangeAt gi ((k + 1) * 5) (yb).cells ∧ Blk X gx 51 #[.int .i64 x.run, .int .i64 x.kind, .int .i64 x.id, .int .i64 x.due, .int .u64 x.seq]))) := ⟨⟨_, hFd⟩⟩
          refine region_steps [0,1,2,3,4,5,6,7,8,9] [true,true,true,true,true,true,true,true,false,true] ((fun X => Blk X g T #[.slice (some ⟨gi, 0, none⟩) n c, .map (some mb), .int .u64 seq] ∧ X.rangeAt gi ((k + 1) * 5) (yb).cells ∧ Blk X gx 51 #[.int .i64 x.run, .int .i64 x.kind, .int .i64 x.id, .int .i64 x.due, .int .u64 x.seq])) (by kernel_rfl) (by kernel_rfl) hFd ?_
          simp only [List.filterMap_cons, List.filterMap_nil, List.getElem?_cons_zero, List.getElem?_cons_succ]
          have h6 := h5.ext LB (Ext.refl w5).drew
          clear h5 hrg
          generalize World.drew w5 = w6 at *
          refine steps_load_mid rfl _ _ rfl gx 0 rfl [.int .i64 (x).run, .int .i64 (x).kind, .int .i64 (x).id, .int .i64 (x).due, .int .u64 (x).seq] _ (fun X hX => blk_range (cs := x.cells) hX.2.2) Tryd.underlying51 rfl itemSize ?_
          (try simp only [Act.put, List.setIfInBounds_toArray, List.set_cons_succ, List.set_cons_zero])
          refine steps_quiet 6 (by kernel_rfl) ?_
          simp only [List.take_succ_cons, List.take_zero, List.drop_succ_cons, List.drop_zero]
          repeat (go_big_quiet_step (fail))
          refine wpQuiet_nil ?_
          refine steps_load_mid rfl _ _ rfl gi ((k + 1) * 5) rfl [.int .i64 (yb).run, .int .i64 (yb).kind, .int .i64 (yb).id, .int .i64 (yb).due, .int .u64 (yb).seq] _ (fun X hX => hX.2.1) Tryd.underlying51 rfl itemSize ?_
          (try simp only [Act.put, List.setIfInBounds_toArray, List.set_cons_succ, List.set_cons_zero])
          refine steps_want rfl (fun K hK => ?_)
          go_simp
          refine (hcomp_ext x yb w6).mono ?_
          rintro e w7 ⟨rfl, hE7⟩
          have h7 := h6.ext LB hE7
          have hr7 : w7.rangeAt gi ((k + 1) * 5) (yb).cells := range_ext hFd.2.1 (World.block_lt_of_cell? w6 _ (hFd.2.1 0 _ rfl)) hE7
          refine hK _ _ (fun X => Blk X g T #[.slice (some ⟨gi, 0, none⟩) n c, .map (some mb), .int .u64 seq] ∧ X.rangeAt gi ((k + 1) * 5) (yb).cells ∧ Blk X gx 51 #[.int .i64 x.run, .int .i64 x.kind, .int .i64 x.id, .int .i64 x.due, .int .u64 x.seq]) ⟨h7.drop.blk0, hr7, h7.blk0⟩ (fun _ h => h) ?_
          clear hK K h6 hFd hE7 e0
          (try simp only [Act.put, List.setIfInBounds_toArray, List.set_cons_succ, List.set_cons_zero])
          refine steps_quiet 1 (by kernel_rfl) ?_
          simp only [List.take_succ_cons, List.take_zero, List.drop_succ_cons, List.drop_zero]
          repeat (go_big_quiet_step (fail))
          refine wpQuiet_nil ?_
          refine steps_nil ?_
          have hR := HR.out
          rw [HKID.out, show ys.getD ((k + 1)) It.none_ = yb by rw [List.getD_eq_getElem?_getD, List.getElem?_eq_getElem hkn]; exact HYB.out] at hR
          by_cases hle : hcmp x yb ≤ 0
          · rw [if_pos hle] at hR
            have HR2 := Lib.hid hR
            clear hR hr7
            have hd : decide (hcmp x yb ≤ 0) = true := decide_eq_true hle
            rw [hd]
            clear hd hle
            have z0 : World.cell? w7 ⟨gx, 0, none⟩ = some (.int .i64 x.run) := (h7).blk0.cell 0
            have z1 : World.cell? w7 ⟨gx, 1, none⟩ = some (.int .i64 x.kind) := (h7).blk0.cell 1
            have z2 : World.cell? w7 ⟨gx, 2, none⟩ = some (.int .i64 x.id) := (h7).blk0.cell 2
            have z3 : World.cell? w7 ⟨gx, 3, none⟩ = some (.int .i64 x.due) := (h7).blk0.cell 3
            have z4 : World.cell? w7 ⟨gx, 4, none⟩ = some (.int .u64 x.seq) := (h7).blk0.cell 4
            have h6 := (h7).pick (l := [_, _, _, _]) (ps := ps) [1, 2, 3, 0] (by rfl)
            clear h7
            go_wp2_with fail
            refine (set_any h6 (.cons (blkA_loc _ _ _) hl) HYL.out.symm i (by have := HYL.out; omega) x hxo).mono ?_
            clear h6 z0 z1 z2 z3 z4
            rintro e w5 ⟨rfl, h7⟩
            have h8 := h7.pick (l := [_, _, _, _]) (ps := ps) [3, 0, 1, 2] (by rfl)
            clear h7
            go_wp2_with fail
            go_end0
            refine ⟨rfl, ?_⟩
            rw [← HR2.out]
            exact h8.drop
          · rw [if_neg hle] at hR
            have HR2 := Lib.hid hR
            clear hR
            have hd : decide (hcmp x yb ≤ 0) = false := decide_eq_false hle
            rw [hd]
            clear hd hle
            have k0 := h7.drop.blk0.cell 0
            simp only [List.getElem?_toArray, List.getElem?_cons_zero] at k0
            have y0 := hr7 0 _ rfl
            have y1 := hr7 1 _ rfl
            have y2 := hr7 2 _ rfl
            have y3 := hr7 3 _ rfl
            have y4 := hr7 4 _ rfl
            simp only [Nat.add_zero] at y0
            clear hr7
            have h8 := h7.pick (l := [_, _, _, _]) (ps := ps) [1, 2, 3, 0] (by rfl)
            clear h7
            go_wp2_with fail
            refine (set_any h8 (.cons (blkA_loc _ _ _) hl) HYL.out.symm i (by have := HYL.out; omega) yb hyk).mono ?_
            clear h8 y0 y1 y2 y3 y4 k0
            rintro e w8 ⟨rfl, h9⟩
            have h10 := h9.pick (l := [_, _, _, _]) (ps := ps) [3, 0, 1, 2] (by rfl)
            clear h9
            go_wp2_with fail
            refine ⟨⟨(k + 1), ys.set i yb, updM m (yb).key i, by go_num, by have := hkn2; omega, by rw [List.length_set]; exact HYL.out, ?_, HR2.out, h10⟩, ?_⟩
            · intro t ht
              rcases List.mem_or_eq_of_mem_set ht with h | rfl
              · exact HYO.out t h
              · exact hyk
            · simp [intOf]; omega
        · have HKID : Hid (kidS ys i = k) := Lib.hid (by
            unfold kidS
            rw [show 2 * i + 2 = k + 1 by have := HKK.out; omega, show 2 * i + 1 = k by have := HKK.out; omega]
            refine if_neg fun hh => hlt ?_
            have := hh.2
            rw [List.getD_eq_getElem?_getD, List.getD_eq_getElem?_getD, List.getElem?_eq_getElem h2, List.getElem?_eq_getElem h1l] at this
            have h3 : hcmp ys[k + 1] ys[k] < 0 := this
            rw [HYA.out, HYB.out] at h3; exact h3)
          have hd : decide (hcmp yb ya < 0) = false := decide_eq_false hlt
          rw [hd]
          clear hd hlt h2i h1i hki
          have k0 := h5.drop.blk0.cell 0
          simp only [List.getElem?_toArray, List.getElem?_cons_zero] at k0
          have hkn : k < ys.length := by have := HYL.out; omega
          obtain ⟨F, hF⟩ := h5.drop.drop.head
          have hrg : w5.rangeAt gi (k * 5) (ya).cells := by
            have := its_range hF k hkn
            rw [HYA.out] at this
            exact this
          have hyk : (ya).Ok := by rw [← HYA.out]; exact HYO.out _ (List.getElem_mem _)
          clear hF
          have hkn2 : (k : Int) < n := by have := HYL.out; omega
          have LB : ∀ {m : HK → Option Nat}, Locs (blkA gx 51 #[.int .i64 x.run, .int .i64 x.kind, .int .i64 x.id, .int .i64 x.due, .int .u64 x.seq] :: hpL g T full (.slice (some ⟨gi, 0, none⟩) n c) (.map (some mb)) seq ys m ps) := .cons (blkA_loc _ _ _) LH
          have e0 : ∀ z : Of (fun X => Blk X g T #[.slice (some ⟨gi, 0, none⟩) n c, .map (some mb), .int .u64 seq] ∧ X.rangeAt gi (k * 5) (ya).cells ∧ Blk X gx 51 #[.int .i64 x.run, .int .i64 x.kind, .int .i64 x.id, .int .i64 x.due, .int .u64 x.seq]), z.val.cell? ⟨g, 0, none⟩ = some (.slice (some ⟨gi, 0, none⟩) n c) := fun z => Blk.cell z.property.1 0
          go_upto_region 5 with fail
          clear k0
          have hFd := (⟨h5.drop.blk0, hrg, h5.blk0⟩ : Blk w5.drew g T _ ∧ w5.drew.rangeAt gi (k * 5) _ ∧ Blk w5.drew gx 51 _)
          have hne_ : Nonempty (Of ((fun X => Blk X g T #[.slice (some ⟨gi, 0, none⟩) n c, .map (some mb), .int .u64 seq] ∧ X.rangeAt gi (k * 5) (ya).cells ∧ Blk X gx 51 #[.int .i64 x.run, .int .i64 x.kind, .int .i64 x.id, .int .i64 x.due, .int .u64 x.seq]))) := ⟨⟨_, hFd⟩⟩
          refine region_steps [0,1,2,3,4,5,6,7,8,9] [true,true,true,true,true,true,true,true,false,true] ((fun X => Blk X g T #[.slice (some ⟨gi, 0, none⟩) n c, .map (some mb), .int .u64 seq] ∧ X.rangeAt gi (k * 5) (ya).cells ∧ Blk X gx 51 #[.int .i64 x.run, .int .i64 x.kind, .int .i64 x.id, .int .i64 x.due, .int .u64 x.seq])) (by kernel_rfl) (by kernel_rfl) hFd ?_
          simp only [List.filterMap_cons, List.filterMap_nil, List.getElem?_cons_zero, List.getElem?_cons_succ]
          have h6 := h5.ext LB (Ext.refl w5).drew
          clear h5 hrg
          generalize World.drew w5 = w6 at *
          refine steps_load_mid rfl _ _ rfl gx 0 rfl [.int .i64 (x).run, .int .i64 (x).kind, .int .i64 (x).id, .int .i64 (x).due, .int .u64 (x).seq] _ (fun X hX => blk_range (cs := x.cells) hX.2.2) Tryd.underlying51 rfl itemSize ?_
          (try simp only [Act.put, List.setIfInBounds_toArray, List.set_cons_succ, List.set_cons_zero])
          refine steps_quiet 6 (by kernel_rfl) ?_
          simp only [List.take_succ_cons, List.take_zero, List.drop_succ_cons, List.drop_zero]
          repeat (go_big_quiet_step (fail))
          refine wpQuiet_nil ?_
          refine steps_load_mid rfl _ _ rfl gi (k * 5) rfl [.int .i64 (ya).run, .int .i64 (ya).kind, .int .i64 (ya).id, .int .i64 (ya).due, .int .u64 (ya).seq] _ (fun X hX => hX.2.1) Tryd.underlying51 rfl itemSize ?_
          (try simp only [Act.put, List.setIfInBounds_toArray, List.set_cons_succ, List.set_cons_zero])
          refine steps_want rfl (fun K hK => ?_)
          go_simp
          refine (hcomp_ext x ya w6).mono ?_
          rintro e w7 ⟨rfl, hE7⟩
          have h7 := h6.ext LB hE7
          have hr7 : w7.rangeAt gi (k * 5) (ya).cells := range_ext hFd.2.1 (World.block_lt_of_cell? w6 _ (hFd.2.1 0 _ rfl)) hE7
          refine hK _ _ (fun X => Blk X g T #[.slice (some ⟨gi, 0, none⟩) n c, .map (some mb), .int .u64 seq] ∧ X.rangeAt gi (k * 5) (ya).cells ∧ Blk X gx 51 #[.int .i64 x.run, .int .i64 x.kind, .int .i64 x.id, .int .i64 x.due, .int .u64 x.seq]) ⟨h7.drop.blk0, hr7, h7.blk0⟩ (fun _ h => h) ?_
          clear hK K h6 hFd hE7 e0
          (try simp only [Act.put, List.setIfInBounds_toArray, List.set_cons_succ, List.set_cons_zero])
          refine steps_quiet 1 (by kernel_rfl) ?_
          simp only [List.take_succ_cons, List.take_zero, List.drop_succ_cons, List.drop_zero]
          repeat (go_big_quiet_step (fail))
          refine wpQuiet_nil ?_
          refine steps_nil ?_
          have hR := HR.out
          rw [HKID.out, show ys.getD (k) It.none_ = ya by rw [List.getD_eq_getElem?_getD, List.getElem?_eq_getElem hkn]; exact HYA.out] at hR
          by_cases hle : hcmp x ya ≤ 0
          · rw [if_pos hle] at hR
            have HR2 := Lib.hid hR
            clear hR hr7
            have hd : decide (hcmp x ya ≤ 0) = true := decide_eq_true hle
            rw [hd]
            clear hd hle
            have z0 : World.cell? w7 ⟨gx, 0, none⟩ = some (.int .i64 x.run) := (h7).blk0.cell 0
            have z1 : World.cell? w7 ⟨gx, 1, none⟩ = some (.int .i64 x.kind) := (h7).blk0.cell 1
            have z2 : World.cell? w7 ⟨gx, 2, none⟩ = some (.int .i64 x.id) := (h7).blk0.cell 2
            have z3 : World.cell? w7 ⟨gx, 3, none⟩ = some (.int .i64 x.due) := (h7).blk0.cell 3
            have z4 : World.cell? w7 ⟨gx, 4, none⟩ = some (.int .u64 x.seq) := (h7).blk0.cell 4
            have h6 := (h7).pick (l := [_, _, _, _]) (ps := ps) [1, 2, 3, 0] (by rfl)
            clear h7
            go_wp2_with fail
            refine (set_any h6 (.cons (blkA_loc _ _ _) hl) HYL.out.symm i (by have := HYL.out; omega) x hxo).mono ?_
            clear h6 z0 z1 z2 z3 z4
            rintro e w5 ⟨rfl, h7⟩
            have h8 := h7.pick (l := [_, _, _, _]) (ps := ps) [3, 0, 1, 2] (by rfl)
            clear h7
            go_wp2_with fail
            go_end0
            refine ⟨rfl, ?_⟩
            rw [← HR2.out]
            exact h8.drop
          · rw [if_neg hle] at hR
            have HR2 := Lib.hid hR
            clear hR
            have hd : decide (hcmp x ya ≤ 0) = false := decide_eq_false hle
            rw [hd]
            clear hd hle
            have k0 := h7.drop.blk0.cell 0
            simp only [List.getElem?_toArray, List.getElem?_cons_zero] at k0
            have y0 := hr7 0 _ rfl
            have y1 := hr7 1 _ rfl
            have y2 := hr7 2 _ rfl
            have y3 := hr7 3 _ rfl
            have y4 := hr7 4 _ rfl
            simp only [Nat.add_zero] at y0
            clear hr7
            have h8 := h7.pick (l := [_, _, _, _]) (ps := ps) [1, 2, 3, 0] (by rfl)
            clear h7
            go_wp2_with fail
            refine (set_any h8 (.cons (blkA_loc _ _ _) hl) HYL.out.symm i (by have := HYL.out; omega) ya hyk).mono ?_
            clear h8 y0 y1 y2 y3 y4 k0
            rintro e w8 ⟨rfl, h9⟩
            have h10 := h9.pick (l := [_, _, _, _]) (ps := ps) [3, 0, 1, 2] (by rfl)
            clear h9
            go_wp2_with fail
            refine ⟨⟨k, ys.set i ya, updM m (ya).key i, by go_num, by have := hkn2; omega, by rw [List.length_set]; exact HYL.out, ?_, HR2.out, h10⟩, ?_⟩
            · intro t ht
              rcases List.mem_or_eq_of_mem_set ht with h | rfl
              · exact HYO.out t h
              · exact hyk
            · simp [intOf]; omega
      · have h2i : ¬ (k : Int) + 1 < n := by have := HYL.out; omega
        have h1l : k < ys.length := h1
        obtain ⟨ya, hya⟩ : ∃ y, ys[k] = y := ⟨_, rfl⟩
        have HYA := Lib.hid hya
        clear hya
        have e0 : ∀ z : Of (fun X => Blk X g T #[.slice (some ⟨gi, 0, none⟩) n c, .map (some mb), .int .u64 seq]), z.val.cell? ⟨g, 0, none⟩ = some (.slice (some ⟨gi, 0, none⟩) n c) := fun z => Blk.cell z.property 0
        have hFd := (show Blk wr.drew g T #[.slice (some ⟨gi, 0, none⟩) n c, .map (some mb), .int .u64 seq] from h3.drop.blk0)
        have hne_ : Nonempty (Of ((fun X => Blk X g T #[.slice (some ⟨gi, 0, none⟩) n c, .map (some mb), .int .u64 seq]))) := ⟨⟨_, hFd⟩⟩
        refine region_steps [0,1,2,3,4,5,6,7,8,9,10,11,12,13,14,15,16,17,18,19,20,21,22,23,24,25,26] [true,true,true,true,true,true,true,true,true,true,true,true,true,true,true,true,true,true,true,true,true,true,true,true,false,true,true] ((fun X => Blk X g T #[.slice (some ⟨gi, 0, none⟩) n c, .map (some mb), .int .u64 seq])) (by kernel_rfl) (by kernel_rfl) hFd ?_
        simp only [List.filterMap_cons, List.filterMap_nil, List.getElem?_cons_zero, List.getElem?_cons_succ]
        have LB3 : Locs (blkA gx 51 #[.int .i64 x.run, .int .i64 x.kind, .int .i64 x.id, .int .i64 x.due, .int .u64 x.seq] :: hpL g T full (.slice (some ⟨gi, 0, none⟩) n c) (.map (some mb)) seq ys m ps) := .cons (blkA_loc _ _ _) LH
        have h5 := h3.ext LB3 (Ext.refl wr).drew
        clear h3
        generalize World.drew wr = w5 at *
        refine steps_quiet 24 (by kernel_rfl) ?_
        simp only [List.take_succ_cons, List.take_zero, List.drop_succ_cons, List.drop_zero]
        repeat (go_big_quiet_step (fail))
        refine wpQuiet_nil ?_
        refine steps_skip rfl ?_
        (try simp only [Act.put, List.setIfInBounds_toArray, List.set_cons_succ, List.set_cons_zero])
        refine steps_quiet 2 (by kernel_rfl) ?_
        simp only [List.take_succ_cons, List.take_zero, List.drop_succ_cons, List.drop_zero]
        repeat (go_big_quiet_step (fail))
        refine wpQuiet_nil ?_
        refine steps_nil ?_
        have HKID : Hid (kidS ys i = k) := Lib.hid (by
          unfold kidS
          rw [show 2 * i + 2 = k + 1 by have := HKK.out; omega, show 2 * i + 1 = k by have := HKK.out; omega]
          exact if_neg fun hh => h2 hh.1)
        clear h2i h1i hki hFd e0 LB3
        have k0 := h5.drop.blk0.cell 0
        simp only [List.getElem?_toArray, List.getElem?_cons_zero] at k0
        have hkn : k < ys.length := by have := HYL.out; omega
        obtain ⟨F, hF⟩ := h5.drop.drop.head
        have hrg : w5.rangeAt gi (k * 5) (ya).cells := by
          have := its_range hF k hkn
          rw [HYA.out] at this
          exact this
        have hyk : (ya).Ok := by rw [← HYA.out]; exact HYO.out _ (List.getElem_mem _)
        clear hF
        have hkn2 : (k : Int) < n := by have := HYL.out; omega
        have LB : ∀ {m : HK → Option Nat}, Locs (blkA gx 51 #[.int .i64 x.run, .int .i64 x.kind, .int .i64 x.id, .int .i64 x.due, .int .u64 x.seq] :: hpL g T full (.slice (some ⟨gi, 0, none⟩) n c) (.map (some mb)) seq ys m ps) := .cons (blkA_loc _ _ _) LH
        have e0 : ∀ z : Of (fun X => Blk X g T #[.slice (some ⟨gi, 0, none⟩) n c, .map (some mb), .int .u64 seq] ∧ X.rangeAt gi (k * 5) (ya).cells ∧ Blk X gx 51 #[.int .i64 x.run, .int .i64 x.kind, .int .i64 x.id, .int .i64 x.due, .int .u64 x.seq]), z.val.cell? ⟨g, 0, none⟩ = some (.slice (some ⟨gi, 0, none⟩) n c) := fun z => Blk.cell z.property.1 0
        go_upto_region 5 with fail
        clear k0
        have hFd := (⟨h5.drop.blk0, hrg, h5.blk0⟩ : Blk w5.drew g T _ ∧ w5.drew.rangeAt gi (k * 5) _ ∧ Blk w5.drew gx 51 _)
        have hne_ : Nonempty (Of ((fun X => Blk X g T #[.slice (some ⟨gi, 0, none⟩) n c, .map (some mb), .int .u64 seq] ∧ X.rangeAt gi (k * 5) (ya).cells ∧ Blk X gx 51 #[.int .i64 x.run, .int .i64 x.kind, .int .i64 x.id, .int .i64 x.due, .int .u64 x.seq]))) := ⟨⟨_, hFd⟩⟩
        refine region_steps [0,1,2,3,4,5,6,7,8,9] [true,true,true,true,true,true,true,true,false,true] ((fun X => Blk X g T #[.slice (some ⟨gi, 0, none⟩) n c, .map (some mb), .int .u64 seq] ∧ X.rangeAt gi (k * 5) (ya).cells ∧ Blk X gx 51 #[.int .i64 x.run, .int .i64 x.kind, .int .i64 x.id, .int .i64 x.due, .int .u64 x.seq])) (by kernel_rfl) (by kernel_rfl) hFd ?_
        simp only [List.filterMap_cons, List.filterMap_nil, List.getElem?_cons_zero, List.getElem?_cons_succ]
        have h6 := h5.ext LB (Ext.refl w5).drew
        clear h5 hrg
        generalize World.drew w5 = w6 at *
        refine steps_load_mid rfl _ _ rfl gx 0 rfl [.int .i64 (x).run, .int .i64 (x).kind, .int .i64 (x).id, .int .i64 (x).due, .int .u64 (x).seq] _ (fun X hX => blk_range (cs := x.cells) hX.2.2) Tryd.underlying51 rfl itemSize ?_
        (try simp only [Act.put, List.setIfInBounds_toArray, List.set_cons_succ, List.set_cons_zero])
        refine steps_quiet 6 (by kernel_rfl) ?_
        simp only [List.take_succ_cons, List.take_zero, List.drop_succ_cons, List.drop_zero]
        repeat (go_big_quiet_step (fail))
        refine wpQuiet_nil ?_
        refine steps_load_mid rfl _ _ rfl gi (k * 5) rfl [.int .i64 (ya).run, .int .i64 (ya).kind, .int .i64 (ya).id, .int .i64 (ya).due, .int .u64 (ya).seq] _ (fun X hX => hX.2.1) Tryd.underlying51 rfl itemSize ?_
        (try simp only [Act.put, List.setIfInBounds_toArray, List.set_cons_succ, List.set_cons_zero])
        refine steps_want rfl (fun K hK => ?_)
        go_simp
        refine (hcomp_ext x ya w6).mono ?_
        rintro e w7 ⟨rfl, hE7⟩
        have h7 := h6.ext LB hE7
        have hr7 : w7.rangeAt gi (k * 5) (ya).cells := range_ext hFd.2.1 (World.block_lt_of_cell? w6 _ (hFd.2.1 0 _ rfl)) hE7
        refine hK _ _ (fun X => Blk X g T #[.slice (some ⟨gi, 0, none⟩) n c, .map (some mb), .int .u64 seq] ∧ X.rangeAt gi (k * 5) (ya).cells ∧ Blk X gx 51 #[.int .i64 x.run, .int .i64 x.kind, .int .i64 x.id, .int .i64 x.due, .int .u64 x.seq]) ⟨h7.drop.blk0, hr7, h7.blk0⟩ (fun _ h => h) ?_
        clear hK K h6 hFd hE7 e0
        (try simp only [Act.put, List.setIfInBounds_toArray, List.set_cons_succ, List.set_cons_zero])
        refine steps_quiet 1 (by kernel_rfl) ?_
        simp only [List.take_succ_cons, List.take_zero, List.drop_succ_cons, List.drop_zero]
        repeat (go_big_quiet_step (fail))
        refine wpQuiet_nil ?_
        refine steps_nil ?_
        have hR := HR.out
        rw [HKID.out, show ys.getD (k) It.none_ = ya by rw [List.getD_eq_getElem?_getD, List.getElem?_eq_getElem hkn]; exact HYA.out] at hR
        by_cases hle : hcmp x ya ≤ 0
        · rw [if_pos hle] at hR
          have HR2 := Lib.hid hR
          clear hR hr7
          have hd : decide (hcmp x ya ≤ 0) = true := decide_eq_true hle
          rw [hd]
          clear hd hle
          have z0 : World.cell? w7 ⟨gx, 0, none⟩ = some (.int .i64 x.run) := (h7).blk0.cell 0
          have z1 : World.cell? w7 ⟨gx, 1, none⟩ = some (.int .i64 x.kind) := (h7).blk0.cell 1
          have z2 : World.cell? w7 ⟨gx, 2, none⟩ = some (.int .i64 x.id) := (h7).blk0.cell 2
          have z3 : World.cell? w7 ⟨gx, 3, none⟩ = some (.int .i64 x.due) := (h7).blk0.cell 3
          have z4 : World.cell? w7 ⟨gx, 4, none⟩ = some (.int .u64 x.seq) := (h7).blk0.cell 4
          have h6 := (h7).pick (l := [_, _, _, _]) (ps := ps) [1, 2, 3, 0] (by rfl)
          clear h7
          go_wp2_with fail
          refine (set_any h6 (.cons (blkA_loc _ _ _) hl) HYL.out.symm i (by have := HYL.out; omega) x hxo).mono ?_
          clear h6 z0 z1 z2 z3 z4
          rintro e w5 ⟨rfl, h7⟩
          have h8 := h7.pick (l := [_, _, _, _]) (ps := ps) [3, 0, 1, 2] (by rfl)
          clear h7
          go_wp2_with fail
          go_end0
          refine ⟨rfl, ?_⟩
          rw [← HR2.out]
          exact h8.drop
        · rw [if_neg hle] at hR
          have HR2 := Lib.hid hR
          clear hR
          have hd : decide (hcmp x ya ≤ 0) = false := decide_eq_false hle
          rw [hd]
          clear hd hle
          have k0 := h7.drop.blk0.cell 0
          simp only [List.getElem?_toArray, List.getElem?_cons_zero] at k0
          have y0 := hr7 0 _ rfl
          have y1 := hr7 1 _ rfl
          have y2 := hr7 2 _ rfl
          have y3 := hr7 3 _ rfl
          have y4 := hr7 4 _ rfl
          simp only [Nat.add_zero] at y0
          clear hr7
          have h8 := h7.pick (l := [_, _, _, _]) (ps := ps) [1, 2, 3, 0] (by rfl)
          clear h7
          go_wp2_with fail
          refine (set_any h8 (.cons (blkA_loc _ _ _) hl) HYL.out.symm i (by have := HYL.out; omega) ya hyk).mono ?_
          clear h8 y0 y1 y2 y3 y4 k0
          rintro e w8 ⟨rfl, h9⟩
          have h10 := h9.pick (l := [_, _, _, _]) (ps := ps) [3, 0, 1, 2] (by rfl)
          clear h9
          go_wp2_with fail
          refine ⟨⟨k, ys.set i ya, updM m (ya).key i, by go_num, by have := hkn2; omega, by rw [List.length_set]; exact HYL.out, ?_, HR2.out, h10⟩, ?_⟩
          · intro t ht
            rcases List.mem_or_eq_of_mem_set ht with h | rfl
            · exact HYO.out t h
            · exact hyk
          · simp [intOf]; omega
    · rw [dif_neg (by omega)] at hR
      have HR2 := Lib.hid hR
      have HYL := Lib.hid hyl
      have h1i : ¬ (k : Int) < n := by omega
      have h1j : (n : Int) ≤ k := by omega
      clear hR hyl hyo
      clear k0
      have k0 := h3.drop.blk0.cell 0
      simp only [List.getElem?_toArray, List.getElem?_cons_zero] at k0
      have z0 : World.cell? wr ⟨gx, 0, none⟩ = some (.int .i64 x.run) := (h3).blk0.cell 0
      have z1 : World.cell? wr ⟨gx, 1, none⟩ = some (.int .i64 x.kind) := (h3).blk0.cell 1
      have z2 : World.cell? wr ⟨gx, 2, none⟩ = some (.int .i64 x.id) := (h3).blk0.cell 2
      have z3 : World.cell? wr ⟨gx, 3, none⟩ = some (.int .i64 x.due) := (h3).blk0.cell 3
      have z4 : World.cell? wr ⟨gx, 4, none⟩ = some (.int .u64 x.seq) := (h3).blk0.cell 4
      have h6 := (h3).pick (l := [_, _, _, _]) (ps := ps) [1, 2, 3, 0] (by rfl)
      clear h3
      go_wp2_with fail
      refine (set_any h6 (.cons (blkA_loc _ _ _) hl) HYL.out.symm i (by have := HYL.out; omega) x hxo).mono ?_
      clear h6 z0 z1 z2 z3 z4
      rintro e w5 ⟨rfl, h7⟩
      have h8 := h7.pick (l := [_, _, _, _]) (ps := ps) [3, 0, 1, 2] (by rfl)
      clear h7
      go_wp2_with fail
      go_end0
      refine ⟨rfl, ?_⟩
      rw [← HR2.out]
      exact h8.drop
end Go.Proofs.YtnbdcdeidhhgoaaDoor
