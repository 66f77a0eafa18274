/- A thing goes up as far as it must. -/
import Derived.Test.YtnbdcdeidhhgoaaDoorHSet
namespace Go.Proofs.YtnbdcdeidhhgoaaDoor
set_option maxRecDepth 4000
set_option linter.unusedVariables false
set_option linter.unusedSimpArgs false
open Go Go.RowKit Go.Sort
theorem ext_grow {W W' : World} (h : ∃ q os', W' = grow (W.drewN q) os') : Ext W W' := by
  obtain ⟨q, os', rfl⟩ := h
  have h0 : Ext W (W.drewN q) := Ext.drewN (Ext.refl W) q
  refine h0.trans ⟨rfl, rfl, rfl, ?_, fun k hk => ?_⟩
  · show (W.drewN q).heap.size ≤ ((W.drewN q).heap ++ os').size
    rw [Array.size_append]; omega
  · show ((W.drewN q).heap ++ os')[k]? = (W.drewN q).heap[k]?
    rw [Array.getElem?_append_left hk]
theorem hcomp_ext (a b : It) (W : World) : Calls Tryd.prog 26 #[.agg #[.int .i64 a.run, .int .i64 a.kind, .int .i64 a.id, .int .i64 a.due, .int .u64 a.seq], .agg #[.int .i64 b.run, .int .i64 b.kind, .int .i64 b.id, .int .i64 b.due, .int .u64 b.seq]] W fun e w' => e = .returned (.int .i64 (hcmp a b)) ∧ Ext W w' :=
  (hcompare_any a b W).mono fun _ _ ⟨h1, h2⟩ => ⟨h1, ext_grow h2⟩
theorem hcmp_bd (a b : It) : -1 ≤ hcmp a b ∧ hcmp a b ≤ 1 := by
  have h : ∀ x y : Int, -1 ≤ c3 x y ∧ c3 x y ≤ 1 := fun x y => by unfold c3; split; omega; split <;> omega
  unfold hcmp
  split
  · exact h _ _
  · exact h _ _
instance : Inhabited It := ⟨⟨0, 0, 0, 0, 0⟩⟩
def It.none_ : It := ⟨0, 0, 0, 0, 0⟩
/-- what has come of the things and their places, as one goes up from a place -/
def upS (xs : List It) (m : HK → Option Nat) (x : It) (i : Nat) : List It × (HK → Option Nat) :=
  if h : 0 < i then
    if hcmp (xs.getD ((i - 1) / 2) It.none_) x ≤ 0 then (xs.set i x, updM m x.key i)
    else upS (xs.set i (xs.getD ((i - 1) / 2) It.none_)) (updM m (xs.getD ((i - 1) / 2) It.none_).key i) x ((i - 1) / 2)
  else (xs.set i x, updM m x.key i)
termination_by i
decreasing_by omega
theorem range_ext {W W' : World} {b o : Nat} {cs : List Value} (h : W.rangeAt b o cs) (hb : b < W.heap.size) (hE : Ext W W') : W'.rangeAt b o cs := fun j v hv => (hE.cell b _ hb).trans (h j v hv)
def UpRel (w : World) (g : Nat) (T : TypeId) (full : Bool) (gi n c mb seq gx : Nat) (x : It) (R : List It × (HK → Option Nat)) (ps : List Asr) (v1 : Value) (wr : World) : Prop :=
  ∃ (i : Nat) (ys : List It) (m : HK → Option Nat), v1 = .int .i64 i ∧ i < n ∧ ys.length = n ∧ (∀ t ∈ ys, t.Ok) ∧ upS ys m x i = R ∧ Has w wr (blkA gx 51 #[.int .i64 x.run, .int .i64 x.kind, .int .i64 x.id, .int .i64 x.due, .int .u64 x.seq] :: hpL g T full (.slice (some ⟨gi, 0, none⟩) n c) (.map (some mb)) seq ys m ps)
set_option maxHeartbeats 2000000 in
theorem up_any {w W : World} {g : Nat} {T : TypeId} {full : Bool} {gi n c mb seq : Nat} {xs : List It} {m : HK → Option Nat} {ps : List Asr}
    (h : Has w W (hpL g T full (.slice (some ⟨gi, 0, none⟩) n c) (.map (some mb)) seq xs m ps)) (hl : Locs ps) (hn : xs.length = n) (hok : ∀ t ∈ xs, t.Ok) (i : Nat) (hi : i < n) :
    Calls Tryd.prog 18 #[.pointer (some ⟨g, 0, none⟩), .int .i64 i] W fun e W' =>
      e = .returned (.tuple #[]) ∧ Has w W' (hpL g T full (.slice (some ⟨gi, 0, none⟩) n c) (.map (some mb)) seq (upS xs m (xs.getD i It.none_) i).1 (upS xs m (xs.getD i It.none_) i).2 ps) := by
  have LH : ∀ {ys : List It} {m : HK → Option Nat}, Locs (hpL g T full (.slice (some ⟨gi, 0, none⟩) n c) (.map (some mb)) seq ys m ps) := hpL_locs hl
  have hgd : xs.getD i It.none_ = xs[i]'(by omega) := by rw [List.getD_eq_getElem?_getD, List.getElem?_eq_getElem (by omega)]; rfl
  obtain ⟨F, hF⟩ := h.drop.head
  have hn63 : (n : Int) ≤ 9223372036854775807 := by
    obtain ⟨p, c', hv, hm⟩ := its_slice hF
    unfold maxLen at hm; omega
  have x0 := its_cell hF i (by omega) 0 (by omega)
  have x1 := its_cell hF i (by omega) 1 (by omega)
  have x2 := its_cell hF i (by omega) 2 (by omega)
  have x3 := its_cell hF i (by omega) 3 (by omega)
  have x4 := its_cell hF i (by omega) 4 (by omega)
  have hxo : (xs[i]'(by omega)).Ok := hok _ (List.getElem_mem _)
  rw [hgd]
  clear hF hgd
  generalize xs[i]'(by omega) = x at *
  simp only [It.cells, List.getElem?_cons_zero, List.getElem?_cons_succ, Nat.add_zero] at x0 x1 x2 x3 x4
  have k0 := h.blk0.cell 0
  simp only [List.getElem?_toArray, List.getElem?_cons_zero] at k0
  have hin : (i : Int) < n := by omega
  have HOK := Lib.hid hok
  have HN := Lib.hid hn
  clear hok hn
  go_enter Tryd.func18, Tryd.ntmps18
  have h2 := h.new LH 51 #[.int .i64 x.run, .int .i64 x.kind, .int .i64 x.id, .int .i64 x.due, .int .u64 x.seq]
  go_wp2_with fail
  refine gen_world' (fun X => Has w X (blkA W.heap.size 51 #[.int .i64 x.run, .int .i64 x.kind, .int .i64 x.id, .int .i64 x.due, .int .u64 x.seq] :: hpL g T full (.slice (some ⟨gi, 0, none⟩) n c) (.map (some mb)) seq xs m ps)) h2 ?_
  clear h h2 x0 x1 x2 x3 x4 k0
  generalize W.heap.size = gx at *
  intro w2 h2
  go_loopw [1] (fun v wr => UpRel w g T full gi n c mb seq gx x (upS xs m x i) ps v wr) (fun v _ => (intOf v).toNat)
  case atStart => exact ⟨i, xs, m, rfl, hi, HN.out, HOK.out, rfl, h2⟩
  case round =>
    clear h2 hi hin
    obtain ⟨i, ys, m, rfl, hi, hyl, hyo, hR, h3⟩ := hrel
    rw [upS] at hR
    by_cases h0 : 0 < i
    · rw [dif_pos h0] at hR
      obtain ⟨p, hpd⟩ : ∃ p, (i - 1) / 2 = p := ⟨_, rfl⟩
      rw [hpd] at hR
      have hpn : p < ys.length := by omega
      have hpi : ((i : Int) - 1) / 2 = (p : Int) := by omega
      have hpl : p < i := by omega
      have hgd : ys.getD p It.none_ = ys[p] := by rw [List.getD_eq_getElem?_getD, List.getElem?_eq_getElem hpn]; rfl
      have hyk : ys[p].Ok := hyo _ (List.getElem_mem _)
      rw [hgd] at hR
      obtain ⟨F, hF⟩ := h3.drop.drop.head
      have hrg := its_range hF p hpn
      have y0 := its_cell hF p hpn 0 (by omega)
      have y1 := its_cell hF p hpn 1 (by omega)
      have y2 := its_cell hF p hpn 2 (by omega)
      have y3 := its_cell hF p hpn 3 (by omega)
      have y4 := its_cell hF p hpn 4 (by omega)
      have hgl : gi < wr.heap.size := by
        have := World.block_lt_of_cell? wr _ y0
        exact this
      clear hF hgd
      generalize ys[p] = y at *
      have HR := Lib.hid hR
      have HYL := Lib.hid hyl
      have HYO := Lib.hid hyo
      have HPD := Lib.hid hpd
      clear hR hyl hyo hpd
      simp only [It.cells, List.getElem?_cons_zero, List.getElem?_cons_succ, Nat.add_zero] at y0 y1 y2 y3 y4
      have h0i : (0 : Int) < i := by omega
      have hpn2 : (p : Int) < n := by omega
      have k0 := h3.drop.blk0.cell 0
      simp only [List.getElem?_toArray, List.getElem?_cons_zero] at k0
      have LB : ∀ {m : HK → Option Nat}, Locs (blkA gx 51 #[.int .i64 x.run, .int .i64 x.kind, .int .i64 x.id, .int .i64 x.due, .int .u64 x.seq] :: hpL g T full (.slice (some ⟨gi, 0, none⟩) n c) (.map (some mb)) seq ys m ps) := .cons (blkA_loc _ _ _) LH
      go_upto_region 3 with fail
      clear k0 y0 y1 y2 y3 y4
      have e0 : ∀ z : Of (fun X => Blk X g T #[.slice (some ⟨gi, 0, none⟩) n c, .map (some mb), .int .u64 seq] ∧ X.rangeAt gi (p * 5) y.cells ∧ Blk X gx 51 #[.int .i64 x.run, .int .i64 x.kind, .int .i64 x.id, .int .i64 x.due, .int .u64 x.seq]), z.val.cell? ⟨g, 0, none⟩ = some (.slice (some ⟨gi, 0, none⟩) n c) := fun z => Blk.cell z.property.1 0
      have hFd := (⟨h3.drop.blk0, hrg, h3.blk0⟩ : Blk wr.drew g T _ ∧ wr.drew.rangeAt gi (p * 5) _ ∧ Blk wr.drew gx 51 _)
      have hne_ : Nonempty (Of ((fun X => Blk X g T #[.slice (some ⟨gi, 0, none⟩) n c, .map (some mb), .int .u64 seq] ∧ X.rangeAt gi (p * 5) y.cells ∧ Blk X gx 51 #[.int .i64 x.run, .int .i64 x.kind, .int .i64 x.id, .int .i64 x.due, .int .u64 x.seq]))) := ⟨⟨_, hFd⟩⟩
      refine region_steps [0,1,2,3,4,5,6,7,8,9] [true,true,true,true,true,true,true,true,false,true] ((fun X => Blk X g T #[.slice (some ⟨gi, 0, none⟩) n c, .map (some mb), .int .u64 seq] ∧ X.rangeAt gi (p * 5) y.cells ∧ Blk X gx 51 #[.int .i64 x.run, .int .i64 x.kind, .int .i64 x.id, .int .i64 x.due, .int .u64 x.seq])) (by kernel_rfl) (by kernel_rfl) hFd ?_
      simp only [List.filterMap_cons, List.filterMap_nil, List.getElem?_cons_zero, List.getElem?_cons_succ]
      have h4 := h3.ext LB (Ext.refl wr).drew
      clear h3
      generalize World.drew wr = w3 at *
      refine steps_quiet 6 (by kernel_rfl) ?_
      simp only [List.take_succ_cons, List.take_zero, List.drop_succ_cons, List.drop_zero]
      repeat (go_big_quiet_step (fail))
      refine wpQuiet_nil ?_
      refine steps_load_mid rfl _ _ rfl gi (p * 5) rfl (It.cells y) _ (fun X hX => hX.2.1) Tryd.underlying51 rfl itemSize ?_
      (try simp only [Act.put, List.setIfInBounds_toArray, List.set_cons_succ, List.set_cons_zero, It.cells])
      refine steps_load_mid rfl _ _ rfl gx 0 rfl (It.cells x) _ (fun X hX => blk_range (cs := x.cells) hX.2.2) Tryd.underlying51 rfl itemSize ?_
      (try simp only [Act.put, List.setIfInBounds_toArray, List.set_cons_succ, List.set_cons_zero, It.cells])
      refine steps_want rfl (fun K hK => ?_)
      go_simp
      refine (hcomp_ext y x w3).mono ?_
      rintro e w4 ⟨rfl, hE4⟩
      have h5 := h4.ext LB hE4
      have hr5 : w4.rangeAt gi (p * 5) y.cells := range_ext hFd.2.1 (World.block_lt_of_cell? w3 _ (hFd.2.1 0 _ rfl)) hE4
      refine hK _ _ (fun X => Blk X g T #[.slice (some ⟨gi, 0, none⟩) n c, .map (some mb), .int .u64 seq] ∧ X.rangeAt gi (p * 5) y.cells ∧ Blk X gx 51 #[.int .i64 x.run, .int .i64 x.kind, .int .i64 x.id, .int .i64 x.due, .int .u64 x.seq]) ⟨h5.drop.blk0, hr5, h5.blk0⟩ (fun _ h => h) ?_
      clear hK K h4 hFd hrg hE4 e0
      (try simp only [Act.put, List.setIfInBounds_toArray, List.set_cons_succ, List.set_cons_zero])
      refine steps_quiet 1 (by kernel_rfl) ?_
      simp only [List.take_succ_cons, List.take_zero, List.drop_succ_cons, List.drop_zero]
      repeat (go_big_quiet_step (fail))
      refine wpQuiet_nil ?_
      refine steps_nil ?_
      by_cases hle : hcmp y x ≤ 0
      · have hR := HR.out
        rw [if_pos hle] at hR
        have HR2 := Lib.hid hR
        clear hR hr5
        have hd : decide (hcmp y x ≤ 0) = true := decide_eq_true hle
        rw [hd]
        clear hd hle
        have z0 : World.cell? w4 ⟨gx, 0, none⟩ = some (.int .i64 x.run) := (h5).blk0.cell 0
        have z1 : World.cell? w4 ⟨gx, 1, none⟩ = some (.int .i64 x.kind) := (h5).blk0.cell 1
        have z2 : World.cell? w4 ⟨gx, 2, none⟩ = some (.int .i64 x.id) := (h5).blk0.cell 2
        have z3 : World.cell? w4 ⟨gx, 3, none⟩ = some (.int .i64 x.due) := (h5).blk0.cell 3
        have z4 : World.cell? w4 ⟨gx, 4, none⟩ = some (.int .u64 x.seq) := (h5).blk0.cell 4
        have h6 := (h5).pick (l := [_, _, _, _]) (ps := ps) [1, 2, 3, 0] (by rfl)
        clear h5
        go_wp2_with fail
        refine (set_any h6 (.cons (blkA_loc _ _ _) hl) HYL.out.symm i (by have := HYL.out; omega) x hxo).mono ?_
        clear h6 z0 z1 z2 z3 z4
        rintro e w5 ⟨rfl, h7⟩
        have h8 := h7.pick (l := [_, _, _, _]) (ps := ps) [3, 0, 1, 2] (by rfl)
        clear h7
        go_wp2_with fail
        go_end0
        refine ⟨rfl, ?_⟩
        rw [← HR2.out]
        exact h8.drop
      · have hR := HR.out
        rw [if_neg hle] at hR
        have HR2 := Lib.hid hR
        clear hR
        have hd : decide (hcmp y x ≤ 0) = false := decide_eq_false hle
        rw [hd]
        clear hd hle
        have k0 := h5.drop.blk0.cell 0
        simp only [List.getElem?_toArray, List.getElem?_cons_zero] at k0
        have y0 := hr5 0 _ rfl
        have y1 := hr5 1 _ rfl
        have y2 := hr5 2 _ rfl
        have y3 := hr5 3 _ rfl
        have y4 := hr5 4 _ rfl
        simp only [Nat.add_zero] at y0
        clear hr5
        have h6 := h5.pick (l := [_, _, _, _]) (ps := ps) [1, 2, 3, 0] (by rfl)
        clear h5
        go_wp2_with fail
        refine (set_any h6 (.cons (blkA_loc _ _ _) hl) HYL.out.symm i (by have := HYL.out; omega) y hyk).mono ?_
        clear h6 y0 y1 y2 y3 y4 k0
        rintro e w5 ⟨rfl, h7⟩
        have h8 := h7.pick (l := [_, _, _, _]) (ps := ps) [3, 0, 1, 2] (by rfl)
        clear h7
        go_wp2_with fail
        refine ⟨⟨p, ys.set i y, updM m y.key i, rfl, by have := hpn2; omega, by rw [List.length_set]; exact HYL.out, ?_, HR2.out, h8⟩, ?_⟩
        rotate_left
        · simp [intOf]; omega
        intro t ht
        rcases List.mem_or_eq_of_mem_set ht with h | rfl
        · exact HYO.out t h
        · exact hyk
    · rw [dif_neg h0] at hR
      have HR2 := Lib.hid hR
      have HYL := Lib.hid hyl
      clear hR hyl hyo
      have h0i : ¬ (0 : Int) < i := by omega
      have z0 : World.cell? wr ⟨gx, 0, none⟩ = some (.int .i64 x.run) := (h3).blk0.cell 0
      have z1 : World.cell? wr ⟨gx, 1, none⟩ = some (.int .i64 x.kind) := (h3).blk0.cell 1
      have z2 : World.cell? wr ⟨gx, 2, none⟩ = some (.int .i64 x.id) := (h3).blk0.cell 2
      have z3 : World.cell? wr ⟨gx, 3, none⟩ = some (.int .i64 x.due) := (h3).blk0.cell 3
      have z4 : World.cell? wr ⟨gx, 4, none⟩ = some (.int .u64 x.seq) := (h3).blk0.cell 4
      have h6 := (h3).pick (l := [_, _, _, _]) (ps := ps) [1, 2, 3, 0] (by rfl)
      clear h3
      go_wp2_with fail
      refine (set_any h6 (.cons (blkA_loc _ _ _) hl) HYL.out.symm i (by have := HYL.out; omega) x hxo).mono ?_
      clear h6 z0 z1 z2 z3 z4
      rintro e w5 ⟨rfl, h7⟩
      have h8 := h7.pick (l := [_, _, _, _]) (ps := ps) [3, 0, 1, 2] (by rfl)
      clear h7
      go_wp2_with fail
      go_end0
      refine ⟨rfl, ?_⟩
      rw [← HR2.out]
      exact h8.drop
end Go.Proofs.YtnbdcdeidhhgoaaDoor
