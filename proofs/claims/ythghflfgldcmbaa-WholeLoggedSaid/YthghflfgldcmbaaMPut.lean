/- mark.Get and Put. -/
import Derived.Test.YthghflfgldcmbaaMLook
namespace Go.Proofs.Ythghflfgldcmbaa
set_option maxRecDepth 4000
set_option linter.unusedVariables false
set_option linter.unusedSimpArgs false
open Go Go.RowKit Go.MapKept Go.ChangeMaps
/-- what Get tells -/
def getM (L : (Nat → Nat) × Nat) : (Nat → Nat) × Int := if L.1 0 = 0 then (zeroM, 4) else (L.1, 0)
def GtOut (w W' : World) (d : Nat) (s : DS) (M : Nat → Nat) (z : Int) (s' : DS) (ps : List Asr) (e : Ending) : Prop := e = .returned (.tuple #[.agg (mkA M), .int .i64 z]) ∧ dkH w W' d s' ps
set_option maxHeartbeats 4000000 in
theorem get_any {w W : World} {d : Nat} {s : DS} {ps : List Asr} (h : dkH w W d s ps) (hl : Locs ps) (hn : 2 ≤ s.n) (hdn : s.down = false) :
    Calls Try.prog 15 #[.pointer (some ⟨d, 0, none⟩), .int .i64 0] W fun e W' => GtOut w W' d s (getM s.looked).1 (getM s.looked).2 s ps e := by
  have h1 := h.new hl 60 (mkA zeroM)
  clear h
  have hbd := mark_build
  go_enter Try.func15, Try.ntmps15
  go_upto_region 1 with fail
  refine gen_world' (fun X => dkH w X d s (blkA W.heap.size 60 (mkA zeroM) :: ps)) h1 ?_
  clear h1
  generalize W.heap.size = g at *
  intro W1 h1
  go_wp2_with fail
  refine (look_any h1 (.cons (blkA_loc _ _ _) hl) hn hdn).mono ?_
  rintro e W2 ⟨rfl, h2⟩
  clear h1
  obtain ⟨M, t, hL⟩ : ∃ M t, s.looked = (M, t) := ⟨_, _, rfl⟩
  have HL := Lib.hid hL
  rw [hL]
  clear hL
  have h3 := h2.new (.cons (blkA_loc _ _ _) hl) 60 (mkA M)
  clear h2
  simp only [mkA]
  go_upto_block 0 with fail
  refine gen_world' (fun X => dkH w X d s (blkA W2.heap.size 60 (mkA M) :: blkA g 60 (mkA zeroM) :: ps)) h3 ?_
  clear h3
  generalize W2.heap.size = gm at *
  intro W3 h3
  have hbm := h3.rest.blk0
  have hbg := h3.rest.drop.blk0
  have c0 : World.cell? W3 ⟨gm, 0, none⟩ = some (.int .u64 (M 0)) := Blk.cell hbm 0
  have c1 : World.cell? W3 ⟨gm, 1, none⟩ = some (.int .u64 (M 1)) := Blk.cell hbm 1
  have c2 : World.cell? W3 ⟨gm, 2, none⟩ = some (.int .u64 (M 2)) := Blk.cell hbm 2
  have c3 : World.cell? W3 ⟨gm, 3, none⟩ = some (.int .u64 (M 3)) := Blk.cell hbm 3
  have c4 : World.cell? W3 ⟨gm, 4, none⟩ = some (.int .u64 (M 4)) := Blk.cell hbm 4
  have c5 : World.cell? W3 ⟨gm, 5, none⟩ = some (.int .u64 (M 5)) := Blk.cell hbm 5
  have c6 : World.cell? W3 ⟨gm, 6, none⟩ = some (.int .u64 (M 6)) := Blk.cell hbm 6
  by_cases hz : M 0 = 0
  · have hq : ((M 0 : Int) == 0) = true := by simpa using hz
    have HG := Lib.hid (show getM s.looked = (zeroM, 4) by unfold getM; rw [HL.out, if_pos hz])
    have hh6 : dkH w (W3.setRow g (mkA zeroM)) d s (blkA g 60 (mkA zeroM) :: ps) := h3.drop.turn (fun hl h => h.row hl) hl
    clear hz
    go_wp2_with (refine wpList_store_row rfl _ _ _ rfl g (mkA zeroM) rfl rfl _ _ hbg markInfo rfl (mkA_all _) ?_)
    refine bodyPost_ret (v := .tuple #[.agg (mkA zeroM), .int .i64 4]) (results_cell2 Try.results15 _ _ g 60 (mkA zeroM) _ _ rfl hh6.rest.blk0 Try.underlying60 rfl markInfo) rfl ⟨?_, hh6.drop⟩
    rw [HG.out]
  · have hq : ((M 0 : Int) == 0) = false := by simpa using hz
    have HG := Lib.hid (show getM s.looked = (M, 0) by unfold getM; rw [HL.out, if_neg hz])
    have hh6 : dkH w (W3.setRow g (mkA M)) d s (blkA g 60 (mkA M) :: ps) := h3.drop.turn (fun hl h => h.row hl) hl
    clear hz
    go_wp2_with (refine wpList_store_row rfl _ _ _ rfl g (mkA M) rfl rfl _ _ hbg markInfo rfl (mkA_all _) ?_)
    refine bodyPost_ret (v := .tuple #[.agg (mkA M), .int .i64 0]) (results_cell2 Try.results15 _ _ g 60 (mkA M) _ _ rfl hh6.rest.blk0 Try.underlying60 rfl markInfo) rfl ⟨?_, hh6.drop⟩
    rw [HG.out]
def us (ws : List Nat) : List Value := ws.map fun n : Nat => Value.int .u64 (n : Int)
theorem us_length (ws : List Nat) : (us ws).length = ws.length := by simp [us]
theorem us_one (ws : List Nat) : ∀ u ∈ us ws, u.oneCell' = true := by
  intro u hu; simp only [us, List.mem_map] at hu; obtain ⟨n, _, rfl⟩ := hu; rfl
def newM (q : Nat) (ws : List Nat) : Nat → Nat := fun i => if i = 0 then q else ws.getD (i - 1) 0
theorem mkA_list (M : Nat → Nat) : (mkA M).toList = (List.range 7).map fun i => Value.int .u64 (M i : Int) := rfl
theorem newM_row (q : Nat) (ws : List Nat) (h : ws.length ≤ 6) : ((mkA (newM q [])).toList.take 1 ++ us ws ++ (mkA (newM q [])).toList.drop (1 + (us ws).length)).toArray = mkA (newM q ws) := by
  apply Array.toList_inj.1
  rw [mkA_list, mkA_list, us_length]
  simp only [List.toList_toArray]
  apply List.ext_getElem?
  intro i
  have hl1 : (((List.range 7).map fun i => Value.int .u64 (newM q [] i : Int)).take 1).length = 1 := rfl
  by_cases h0 : i = 0
  · subst h0; rfl
  · by_cases hi : i < 1 + ws.length
    · rw [List.getElem?_append_left (by rw [List.length_append, hl1, us_length]; omega), List.getElem?_append_right (by rw [hl1]; omega), hl1, us, List.getElem?_map, List.getElem?_eq_getElem (by omega), List.getElem?_map, List.getElem?_range (by omega)]
      simp only [Option.map_some, newM, if_neg h0]
      rw [List.getD_eq_getElem?_getD, List.getElem?_eq_getElem (by omega)]; rfl
    · rw [List.getElem?_append_right (by rw [List.length_append, hl1, us_length]; omega), List.length_append, hl1, us_length, List.getElem?_drop, show 1 + ws.length + (i - (1 + ws.length)) = i by omega, List.getElem?_map, List.getElem?_map]
      by_cases h7 : i < 7
      · rw [List.getElem?_range h7]
        simp only [Option.map_some, newM, if_neg h0]
        rw [List.getD_eq_getElem?_getD, List.getD_eq_getElem?_getD, List.getElem?_eq_none (by simp), List.getElem?_eq_none (by omega)]
      · rw [List.getElem?_eq_none (by simp; omega)]; rfl
theorem mark_build1 (x : Int) (X : World) : (Instr.build 60 #[(0, .int .u64 x)]).run Try.prog X = .ok (.agg #[.int .u64 x, .int .u64 0, .int .u64 0, .int .u64 0, .int .u64 0, .int .u64 0, .int .u64 0]) X := by kernel_rfl
theorem slice_words (X : World) (a : Addr) : (Instr.sliceAt 58 (.pointer (some a)) none none none).run Try.prog X = .ok (.slice (some a) 6 6) X := by kernel_rfl
theorem u64Size : (Try.prog.info? 57).map (·.size) = some 1 := by kernel_rfl
/-- the next mark's number -/
def nextQ (L : (Nat → Nat) × Nat) : Nat := if 0 < L.1 0 ∧ (L.2 + 1) % 2 = L.1 0 % 2 then L.2 + 2 else L.2 + 1
/-- what Put does: the mark that it tells, the error, and the disk behind it -/
def DS.putR (s : DS) (ws : List Nat) : ((Nat → Nat) × Int) × DS :=
  let q := nextQ s.looked
  let s1 := s.writeS (q % 2) (bytesM (newM q ws))
  if s.writeE = 0 then (if s1.flushE = 0 then ((newM q ws, 0), s1.flushS) else ((zeroM, s1.flushE), s1.flushS)) else ((zeroM, s.writeE), s1)
theorem dkH.swap_drop {w W : World} {d : Nat} {s : DS} {p q : Asr} {ps : List Asr} (h : dkH w W d s (p :: q :: ps)) : dkH w W d s (p :: ps) := (h.perm (List.Perm.swap _ _ _)).drop
theorem dkH.swap_drop2 {w W : World} {d : Nat} {s : DS} {p q : Asr} {ps : List Asr} (h : dkH w W d s (p :: q :: ps)) : dkH w W d s (p :: q :: ps) := h
set_option maxHeartbeats 8000000 in
theorem put_any {w W : World} {d : Nat} {s : DS} {ps : List Asr} (h : dkH w W d s ps) (hl : Locs ps) (hn : 2 ≤ s.n) (hdn : s.down = false) (ws : List Nat) (hw0 : 0 < ws.length) (hw6 : ws.length ≤ 6) (hw64 : ∀ x ∈ ws, x < 18446744073709551616) (htop : s.looked.2 < 4611686018427387904) {pw : Addr} {cw : Nat} (hin : rowA 57 1 (.slice (some pw) ws.length cw) ws.length (us ws) ∈ ps) :
    Calls Try.prog 37 #[.pointer (some ⟨d, 0, none⟩), .int .i64 0, .slice (some pw) ws.length cw] W fun e W' => GtOut w W' d s (s.putR ws).1.1 (s.putR ws).1.2 (s.putR ws).2 ps e := by
  have h1 := h.new hl 60 (mkA zeroM)
  have hbd := mark_build
  have hbd1 := mark_build1
  have hsw := slice_words
  have hn6 : (ws.length : Int) ≤ 6 := by omega
  have hN2 := Lib.hid hn
  clear h
  go_enter Try.func37, Try.ntmps37
  go_upto_region 1 with fail
  refine gen_world' (fun X => dkH w X d s (blkA W.heap.size 60 (mkA zeroM) :: ps)) h1 ?_
  clear h1
  generalize W.heap.size = g at *
  intro W1 h1
  go_wp2_with fail
  refine (look_any h1 (.cons (blkA_loc _ _ _) hl) hn hdn).mono ?_
  rintro e W2 ⟨rfl, h2⟩
  clear h1 hn
  obtain ⟨M, t, hL⟩ : ∃ M t, s.looked = (M, t) := ⟨_, _, rfl⟩
  rw [hL] at htop
  have HL := Lib.hid hL
  rw [hL]
  clear hL
  have h3 := h2.new (.cons (blkA_loc _ _ _) hl) 60 (mkA M)
  clear h2
  simp only [mkA]
  go_upto_block 0 with fail
  refine gen_world' (fun X => dkH w X d s (blkA W2.heap.size 60 (mkA M) :: blkA g 60 (mkA zeroM) :: ps)) h3 ?_
  clear h3
  generalize W2.heap.size = gm at *
  intro W3 h3
  replace htop : t < 4611686018427387904 := htop
  have ht1 : ¬ (18446744073709551613 : Int) < t := by omega
  have ht2 : ((t + 1 : Nat) : Int) = (t : Int) + 1 := by omega
  go_upto_region 8 with fail
  have h4 := h3.new (.cons (blkA_loc _ _ _) (.cons (blkA_loc _ _ _) hl)) 60 (mkA (newM (t + 1) []))
  go_upto_region 9 with fail
  refine gen_world' (fun X => dkH w X d s (blkA W3.heap.size 60 (mkA (newM (t + 1) [])) :: blkA gm 60 (mkA M) :: blkA g 60 (mkA zeroM) :: ps)) h4 ?_
  clear h3 h4
  generalize W3.heap.size = g1 at *
  intro W4 h4
  obtain ⟨q, hq⟩ : ∃ q, nextQ (M, t) = q := ⟨_, rfl⟩
  have hqt : q ≤ t + 2 := by rw [← hq]; unfold nextQ; split <;> simp
  have HQ := Lib.hid hq
  have hqf : (0 < M 0 ∧ (t + 1) % 2 = M 0 % 2 → q = t + 2) ∧ (¬ (0 < M 0 ∧ (t + 1) % 2 = M 0 % 2) → q = t + 1) := by
    rw [← hq]; unfold nextQ
    exact ⟨fun h => if_pos h, fun h => if_neg h⟩
  have HQF := Lib.hid hqf
  clear hq hqf
  have hb1 := h4.rest.blk0
  have hbm := h4.rest.drop.blk0
  have c0 : W4.cell? ⟨gm, 0, none⟩ = some (.int .u64 (M 0)) := hbm.cell 0
  have k0 : W4.cell? ⟨g1, 0, none⟩ = some (.int .u64 ((t : Int) + 1)) := hb1.cell 0
  have f0 := hb1.frozen 0
  by_cases ha : 0 < M 0
  · have ha' : (0 : Int) < M 0 := by omega
    by_cases hb : (t + 1) % 2 = M 0 % 2
    · have hb' : (((t : Int) + 1) % 2 == (M 0 : Int) % 2) = true := by
        have : ((t : Int) + 1) % 2 = (M 0 : Int) % 2 := by omega
        rw [this]; exact beq_self_eq_true _
      have hqq := HQF.out.1 ⟨ha, hb⟩
      have h5 : dkH w (W4.setCell ⟨g1, 0, none⟩ (.int .u64 ((t : Int) + 1 + 1))) d s (blkA g1 60 (mkA (newM q [])) :: blkA gm 60 (mkA M) :: blkA g 60 (mkA zeroM) :: ps) := by
        refine h4.turn (fun {qs} hl h => ?_) (.cons (blkA_loc _ _ _) (.cons (blkA_loc _ _ _) hl))
        have := h.set hl 0 (.int .u64 ((t : Int) + 1 + 1))
        rw [hqq]
        exact this
      clear hb hqq hb1 hbm h4
      go_upto_region 11 with fail
      clear c0 k0 f0 ha'
      generalize World.setCell _ _ _ = wc at *
      have hcut := h5.swap_drop
      clear h5 HQF hb'
      have hb1 := hcut.rest.blk0
      obtain ⟨hown, -⟩ := Has.owned hcut.rest (e := 57) (size := 1) (v := .slice (some pw) ws.length cw) (n := ws.length) (xs := us ws) (by simp [hin])
      have hcells := row_news hown pw rfl
      have hus := us_length ws
      have hcp := fun ty => run_copy_row (P := Try.prog) wc 108 108 ty 57 g1 1 6 6 pw ws.length cw (mkA (newM q [])) 60 (us ws) Try.underlying108 u64Size hb1 (by rw [hus]; exact (Nat.min_eq_left hw6).symm) hcells (by rw [hus]; show 1 + ws.length ≤ 7; omega) (us_one ws)
      rw [newM_row q ws hw6] at hcp
      have h5 : dkH w (wc.setRow g1 (mkA (newM q ws))) d s (blkA g1 60 (mkA (newM q ws)) :: blkA g 60 (mkA zeroM) :: ps) := hcut.turn (fun hl h => h.row hl) (.cons (blkA_loc _ _ _) hl)
      clear hb1 hown hcells hus hcut
      generalize World.setRow wc _ _ = w5 at *
      go_upto_region 12 with fail
      clear hcp
      have hM64 : ∀ i, i < 7 → newM q ws i < 18446744073709551616 := by
        intro i _
        unfold newM
        split
        · omega
        · rw [List.getD_eq_getElem?_getD]
          by_cases hx : i - 1 < ws.length
          · rw [List.getElem?_eq_getElem hx]; exact hw64 _ (List.getElem_mem hx)
          · rw [List.getElem?_eq_none (by omega)]; exact (by decide : (0 : Nat) < 18446744073709551616)
      have HN0 := Lib.hid (show newM q ws 0 = q from rfl)
      have HR := Lib.hid (show s.putR ws = if s.writeE = 0 then (if (s.writeS (q % 2) (bytesM (newM q ws))).flushE = 0 then ((newM q ws, 0), (s.writeS (q % 2) (bytesM (newM q ws))).flushS) else ((zeroM, (s.writeS (q % 2) (bytesM (newM q ws))).flushE), (s.writeS (q % 2) (bytesM (newM q ws))).flushS)) else ((zeroM, s.writeE), s.writeS (q % 2) (bytesM (newM q ws))) by unfold DS.putR; rw [HL.out, HQ.out])
      obtain ⟨N, hN⟩ : ∃ N, newM q ws = N := ⟨_, rfl⟩
      rw [hN] at h5 hM64 HN0
      have HNN := Lib.hid hN
      clear hN
      have hbn := h5.rest.blk0
      have h6 := h5.ext (.cons (blkA_loc _ _ _) (.cons (blkA_loc _ _ _) hl)) (Ext.refl w5).drew
      have d0 : ∀ x : Of (fun X => Blk X g1 60 (mkA N)), x.val.cell? ⟨g1, 0, none⟩ = some (.int .u64 (N 0)) := fun x => x.property.cell 0
      have d1 : ∀ x : Of (fun X => Blk X g1 60 (mkA N)), x.val.cell? ⟨g1, 1, none⟩ = some (.int .u64 (N 1)) := fun x => x.property.cell 1
      have d2 : ∀ x : Of (fun X => Blk X g1 60 (mkA N)), x.val.cell? ⟨g1, 2, none⟩ = some (.int .u64 (N 2)) := fun x => x.property.cell 2
      have d3 : ∀ x : Of (fun X => Blk X g1 60 (mkA N)), x.val.cell? ⟨g1, 3, none⟩ = some (.int .u64 (N 3)) := fun x => x.property.cell 3
      have d4 : ∀ x : Of (fun X => Blk X g1 60 (mkA N)), x.val.cell? ⟨g1, 4, none⟩ = some (.int .u64 (N 4)) := fun x => x.property.cell 4
      have d5 : ∀ x : Of (fun X => Blk X g1 60 (mkA N)), x.val.cell? ⟨g1, 5, none⟩ = some (.int .u64 (N 5)) := fun x => x.property.cell 5
      have d6 : ∀ x : Of (fun X => Blk X g1 60 (mkA N)), x.val.cell? ⟨g1, 6, none⟩ = some (.int .u64 (N 6)) := fun x => x.property.cell 6
      have hFd := (show Blk w5.drew g1 60 (mkA N) from hbn)
      have hne_ : Nonempty (Of ((fun X => Blk X g1 60 (mkA N)))) := ⟨⟨_, hFd⟩⟩
      refine region_steps [0,1,2,3,5,4,6,7,8] [true,true,true,true,true,false,false,false,true] ((fun X => Blk X g1 60 (mkA N))) (by kernel_rfl) (by kernel_rfl) hFd ?_
      simp only [List.filterMap_cons, List.filterMap_nil, List.getElem?_cons_zero, List.getElem?_cons_succ]
      refine steps_quiet 5 (by kernel_rfl) ?_
      simp only [List.take_succ_cons, List.take_zero, List.drop_succ_cons, List.drop_zero]
      repeat (go_big_quiet_step (fail))
      refine wpQuiet_nil ?_
      clear hFd d0 d1 d2 d3 d4 d5 d6 hbn h5
      generalize World.drew w5 = w6 at *
      have L2 : Locs (blkA g1 60 (mkA N) :: blkA g 60 (mkA zeroM) :: ps) := .cons (blkA_loc _ _ _) (.cons (blkA_loc _ _ _) hl)
      have hN64 := hM64 0 (by omega)
      have hsl : Calls Try.prog 43 #[.int .i64 0, .int .u64 (N 0)] w6 fun e w' => e = .returned (.int .i64 ((N 0 % 2 : Nat) : Int)) ∧ w6 = w' := by
        have := slot_any w6 0 (N 0) (by omega) hN64
        rwa [Nat.zero_add] at this
      have hqn : N 0 % 2 < s.n := by have := hN2.out; omega
      clear hN64
      refine steps_want rfl (fun K hK => ?_)
      go_simp
      refine hsl.mono ?_
      rintro e w7 ⟨rfl, rfl⟩
      clear hsl
      refine hK _ _ (fun X => Blk X g1 60 (mkA N)) h6.rest.blk0 (fun _ h => h) ?_
      clear hK K
      (try simp only [Act.put, List.setIfInBounds_toArray, List.set_cons_succ, List.set_cons_zero])
      have hby := mbytes_any w6 N hM64
      simp only [mkA] at hby
      refine steps_want rfl (fun K hK => ?_)
      go_simp
      refine hby.mono ?_
      rintro e w7 ⟨gb, rfl, hown7, hE7⟩
      clear hby
      have h7 := h6.fresh L2 hE7 hown7
      clear h6 hown7 hE7
      refine hK _ _ (fun X => Blk X g1 60 (mkA N)) h7.rest.drop.blk0 (fun _ h => h) ?_
      clear hK K
      (try simp only [Act.put, List.setIfInBounds_toArray, List.set_cons_succ, List.set_cons_zero])
      have hwr := write_any (a := ⟨gb, 0, none⟩) (c := 128) h7 (.cons (rowA_loc _ _ _ _ _) L2) (N 0 % 2) hqn (bytesM_length N) (by simp)
      have hkl : List.length (bytesM N) = 128 := bytesM_length N
      refine steps_want rfl (fun K hK => ?_)
      go_simp
      refine hwr.mono ?_
      rintro e w8 ⟨rfl, h8⟩
      clear hwr h7
      refine hK _ _ (fun X => Blk X g1 60 (mkA N)) h8.rest.drop.blk0 (fun _ h => h) ?_
      clear hK K
      (try simp only [Act.put, List.setIfInBounds_toArray, List.set_cons_succ, List.set_cons_zero])
      refine steps_quiet 1 (by kernel_rfl) ?_
      simp only [List.take_succ_cons, List.take_zero, List.drop_succ_cons, List.drop_zero]
      repeat (go_big_quiet_step (fail))
      refine wpQuiet_nil ?_
      refine steps_nil ?_
      clear hkl
      obtain ⟨s1, hs1⟩ : ∃ s1, s.writeS (N 0 % 2) (bytesM N) = s1 := ⟨_, rfl⟩
      rw [hs1] at h8
      have HS1 := Lib.hid hs1
      clear hs1
      have h9 := h8.drop.swap_drop2
      clear h8
      obtain ⟨we, hwe⟩ : ∃ we, s.writeE = we := ⟨_, rfl⟩
      rw [hwe]
      have HWE := Lib.hid hwe
      clear hwe
      have HR2 := Lib.hid (show s.putR ws = if we = 0 then (if s1.flushE = 0 then ((N, 0), s1.flushS) else ((zeroM, s1.flushE), s1.flushS)) else ((zeroM, we), s1) by
        rw [HR.out, HNN.out, HWE.out, ← HN0.out, HS1.out])
      clear HR HS1 HN0
      by_cases hw0 : we = 0
      · have hwq : (we == 0) = true := by simpa using hw0
        have HW0 := Lib.hid hw0
        clear hw0
        go_wp2_with fail
        refine (flush_any h9 L2).mono ?_
        rintro e w9 ⟨rfl, h10⟩
        clear h9
        obtain ⟨fe, hfe⟩ : ∃ fe, s1.flushE = fe := ⟨_, rfl⟩
        obtain ⟨s2, hs2⟩ : ∃ s2, s1.flushS = s2 := ⟨_, rfl⟩
        rw [hfe]
        rw [hs2] at h10
        have HR3 := Lib.hid (show s.putR ws = if fe = 0 then ((N, 0), s2) else ((zeroM, fe), s2) by rw [HR2.out, if_pos HW0.out, hfe, hs2])
        clear HR2 hfe hs2
        have hbN := h10.rest.blk0
        have hbg := h10.rest.drop.blk0
        by_cases hf0 : fe = 0
        · have hfq : (fe == 0) = true := by simpa using hf0
          have HR4 := Lib.hid (show s.putR ws = ((N, 0), s2) by rw [HR3.out, if_pos hf0])
          clear HR3 hf0
          have c0 : World.cell? w9 ⟨g1, 0, none⟩ = some (.int .u64 (N 0)) := Blk.cell hbN 0
          have c1 : World.cell? w9 ⟨g1, 1, none⟩ = some (.int .u64 (N 1)) := Blk.cell hbN 1
          have c2 : World.cell? w9 ⟨g1, 2, none⟩ = some (.int .u64 (N 2)) := Blk.cell hbN 2
          have c3 : World.cell? w9 ⟨g1, 3, none⟩ = some (.int .u64 (N 3)) := Blk.cell hbN 3
          have c4 : World.cell? w9 ⟨g1, 4, none⟩ = some (.int .u64 (N 4)) := Blk.cell hbN 4
          have c5 : World.cell? w9 ⟨g1, 5, none⟩ = some (.int .u64 (N 5)) := Blk.cell hbN 5
          have c6 : World.cell? w9 ⟨g1, 6, none⟩ = some (.int .u64 (N 6)) := Blk.cell hbN 6
          have hh6 : dkH w (w9.setRow g (mkA N)) d s2 (blkA g 60 (mkA N) :: ps) := h10.drop.turn (fun hl h => h.row hl) hl
          go_wp2_with (refine wpList_store_row rfl _ _ _ rfl g (mkA N) rfl rfl _ _ hbg markInfo rfl (mkA_all _) ?_)
          refine bodyPost_ret (v := .tuple #[.agg (mkA N), .int .i64 0]) (results_cell2 Try.results37 _ _ g 60 (mkA N) _ _ rfl hh6.rest.blk0 Try.underlying60 rfl markInfo) rfl ⟨?_, ?_⟩
          · rw [HR4.out]
          · rw [HR4.out]; exact hh6.drop
        · have hfq : (fe == 0) = false := by simpa using hf0
          have HR4 := Lib.hid (show s.putR ws = ((zeroM, fe), s2) by rw [HR3.out, if_neg hf0])
          clear HR3 hf0
          have hh6 : dkH w (w9.setRow g (mkA zeroM)) d s2 (blkA g 60 (mkA zeroM) :: ps) := h10.drop.turn (fun hl h => h.row hl) hl
          go_wp2_with (refine wpList_store_row rfl _ _ _ rfl g (mkA zeroM) rfl rfl _ _ hbg markInfo rfl (mkA_all _) ?_)
          refine bodyPost_ret (v := .tuple #[.agg (mkA zeroM), .int .i64 fe]) (results_cell2 Try.results37 _ _ g 60 (mkA zeroM) _ _ rfl hh6.rest.blk0 Try.underlying60 rfl markInfo) rfl ⟨?_, ?_⟩
          · rw [HR4.out]
          · rw [HR4.out]; exact hh6.drop
      · have hwq : (we == 0) = false := by simpa using hw0
        have HR4 := Lib.hid (show s.putR ws = ((zeroM, we), s1) by rw [HR2.out, if_neg hw0])
        clear HR2 hw0
        have hbg := h9.rest.drop.blk0
        have hh6 : dkH w (w8.setRow g (mkA zeroM)) d s1 (blkA g 60 (mkA zeroM) :: ps) := h9.drop.turn (fun hl h => h.row hl) hl
        go_wp2_with (refine wpList_store_row rfl _ _ _ rfl g (mkA zeroM) rfl rfl _ _ hbg markInfo rfl (mkA_all _) ?_)
        refine bodyPost_ret (v := .tuple #[.agg (mkA zeroM), .int .i64 we]) (results_cell2 Try.results37 _ _ g 60 (mkA zeroM) _ _ rfl hh6.rest.blk0 Try.underlying60 rfl markInfo) rfl ⟨?_, ?_⟩
        · rw [HR4.out]
        · rw [HR4.out]; exact hh6.drop
    · have hb' : (((t : Int) + 1) % 2 == (M 0 : Int) % 2) = false := by
        have : ¬ ((t : Int) + 1) % 2 = (M 0 : Int) % 2 := by omega
        simpa using this
      have hqq := HQF.out.2 (fun h => hb h.2)
      rw [← hqq] at h4
      clear hb hqq hb1 hbm
      go_upto_region 11 with fail
      clear c0 k0 f0 ha'
      have hcut := h4.swap_drop
      clear h4 HQF hb'
      generalize W4 = wc at *
      have hb1 := hcut.rest.blk0
      obtain ⟨hown, -⟩ := Has.owned hcut.rest (e := 57) (size := 1) (v := .slice (some pw) ws.length cw) (n := ws.length) (xs := us ws) (by simp [hin])
      have hcells := row_news hown pw rfl
      have hus := us_length ws
      have hcp := fun ty => run_copy_row (P := Try.prog) wc 108 108 ty 57 g1 1 6 6 pw ws.length cw (mkA (newM q [])) 60 (us ws) Try.underlying108 u64Size hb1 (by rw [hus]; exact (Nat.min_eq_left hw6).symm) hcells (by rw [hus]; show 1 + ws.length ≤ 7; omega) (us_one ws)
      rw [newM_row q ws hw6] at hcp
      have h5 : dkH w (wc.setRow g1 (mkA (newM q ws))) d s (blkA g1 60 (mkA (newM q ws)) :: blkA g 60 (mkA zeroM) :: ps) := hcut.turn (fun hl h => h.row hl) (.cons (blkA_loc _ _ _) hl)
      clear hb1 hown hcells hus hcut
      generalize World.setRow wc _ _ = w5 at *
      go_upto_region 12 with fail
      clear hcp
      have hM64 : ∀ i, i < 7 → newM q ws i < 18446744073709551616 := by
        intro i _
        unfold newM
        split
        · omega
        · rw [List.getD_eq_getElem?_getD]
          by_cases hx : i - 1 < ws.length
          · rw [List.getElem?_eq_getElem hx]; exact hw64 _ (List.getElem_mem hx)
          · rw [List.getElem?_eq_none (by omega)]; exact (by decide : (0 : Nat) < 18446744073709551616)
      have HN0 := Lib.hid (show newM q ws 0 = q from rfl)
      have HR := Lib.hid (show s.putR ws = if s.writeE = 0 then (if (s.writeS (q % 2) (bytesM (newM q ws))).flushE = 0 then ((newM q ws, 0), (s.writeS (q % 2) (bytesM (newM q ws))).flushS) else ((zeroM, (s.writeS (q % 2) (bytesM (newM q ws))).flushE), (s.writeS (q % 2) (bytesM (newM q ws))).flushS)) else ((zeroM, s.writeE), s.writeS (q % 2) (bytesM (newM q ws))) by unfold DS.putR; rw [HL.out, HQ.out])
      obtain ⟨N, hN⟩ : ∃ N, newM q ws = N := ⟨_, rfl⟩
      rw [hN] at h5 hM64 HN0
      have HNN := Lib.hid hN
      clear hN
      have hbn := h5.rest.blk0
      have h6 := h5.ext (.cons (blkA_loc _ _ _) (.cons (blkA_loc _ _ _) hl)) (Ext.refl w5).drew
      have d0 : ∀ x : Of (fun X => Blk X g1 60 (mkA N)), x.val.cell? ⟨g1, 0, none⟩ = some (.int .u64 (N 0)) := fun x => x.property.cell 0
      have d1 : ∀ x : Of (fun X => Blk X g1 60 (mkA N)), x.val.cell? ⟨g1, 1, none⟩ = some (.int .u64 (N 1)) := fun x => x.property.cell 1
      have d2 : ∀ x : Of (fun X => Blk X g1 60 (mkA N)), x.val.cell? ⟨g1, 2, none⟩ = some (.int .u64 (N 2)) := fun x => x.property.cell 2
      have d3 : ∀ x : Of (fun X => Blk X g1 60 (mkA N)), x.val.cell? ⟨g1, 3, none⟩ = some (.int .u64 (N 3)) := fun x => x.property.cell 3
      have d4 : ∀ x : Of (fun X => Blk X g1 60 (mkA N)), x.val.cell? ⟨g1, 4, none⟩ = some (.int .u64 (N 4)) := fun x => x.property.cell 4
      have d5 : ∀ x : Of (fun X => Blk X g1 60 (mkA N)), x.val.cell? ⟨g1, 5, none⟩ = some (.int .u64 (N 5)) := fun x => x.property.cell 5
      have d6 : ∀ x : Of (fun X => Blk X g1 60 (mkA N)), x.val.cell? ⟨g1, 6, none⟩ = some (.int .u64 (N 6)) := fun x => x.property.cell 6
      have hFd := (show Blk w5.drew g1 60 (mkA N) from hbn)
      have hne_ : Nonempty (Of ((fun X => Blk X g1 60 (mkA N)))) := ⟨⟨_, hFd⟩⟩
      refine region_steps [0,1,2,3,5,4,6,7,8] [true,true,true,true,true,false,false,false,true] ((fun X => Blk X g1 60 (mkA N))) (by kernel_rfl) (by kernel_rfl) hFd ?_
      simp only [List.filterMap_cons, List.filterMap_nil, List.getElem?_cons_zero, List.getElem?_cons_succ]
      refine steps_quiet 5 (by kernel_rfl) ?_
      simp only [List.take_succ_cons, List.take_zero, List.drop_succ_cons, List.drop_zero]
      repeat (go_big_quiet_step (fail))
      refine wpQuiet_nil ?_
      clear hFd d0 d1 d2 d3 d4 d5 d6 hbn h5
      generalize World.drew w5 = w6 at *
      have L2 : Locs (blkA g1 60 (mkA N) :: blkA g 60 (mkA zeroM) :: ps) := .cons (blkA_loc _ _ _) (.cons (blkA_loc _ _ _) hl)
      have hN64 := hM64 0 (by omega)
      have hsl : Calls Try.prog 43 #[.int .i64 0, .int .u64 (N 0)] w6 fun e w' => e = .returned (.int .i64 ((N 0 % 2 : Nat) : Int)) ∧ w6 = w' := by
        have := slot_any w6 0 (N 0) (by omega) hN64
        rwa [Nat.zero_add] at this
      have hqn : N 0 % 2 < s.n := by have := hN2.out; omega
      clear hN64
      refine steps_want rfl (fun K hK => ?_)
      go_simp
      refine hsl.mono ?_
      rintro e w7 ⟨rfl, rfl⟩
      clear hsl
      refine hK _ _ (fun X => Blk X g1 60 (mkA N)) h6.rest.blk0 (fun _ h => h) ?_
      clear hK K
      (try simp only [Act.put, List.setIfInBounds_toArray, List.set_cons_succ, List.set_cons_zero])
      have hby := mbytes_any w6 N hM64
      simp only [mkA] at hby
      refine steps_want rfl (fun K hK => ?_)
      go_simp
      refine hby.mono ?_
      rintro e w7 ⟨gb, rfl, hown7, hE7⟩
      clear hby
      have h7 := h6.fresh L2 hE7 hown7
      clear h6 hown7 hE7
      refine hK _ _ (fun X => Blk X g1 60 (mkA N)) h7.rest.drop.blk0 (fun _ h => h) ?_
      clear hK K
      (try simp only [Act.put, List.setIfInBounds_toArray, List.set_cons_succ, List.set_cons_zero])
      have hwr := write_any (a := ⟨gb, 0, none⟩) (c := 128) h7 (.cons (rowA_loc _ _ _ _ _) L2) (N 0 % 2) hqn (bytesM_length N) (by simp)
      have hkl : List.length (bytesM N) = 128 := bytesM_length N
      refine steps_want rfl (fun K hK => ?_)
      go_simp
      refine hwr.mono ?_
      rintro e w8 ⟨rfl, h8⟩
      clear hwr h7
      refine hK _ _ (fun X => Blk X g1 60 (mkA N)) h8.rest.drop.blk0 (fun _ h => h) ?_
      clear hK K
      (try simp only [Act.put, List.setIfInBounds_toArray, List.set_cons_succ, List.set_cons_zero])
      refine steps_quiet 1 (by kernel_rfl) ?_
      simp only [List.take_succ_cons, List.take_zero, List.drop_succ_cons, List.drop_zero]
      repeat (go_big_quiet_step (fail))
      refine wpQuiet_nil ?_
      refine steps_nil ?_
      clear hkl
      obtain ⟨s1, hs1⟩ : ∃ s1, s.writeS (N 0 % 2) (bytesM N) = s1 := ⟨_, rfl⟩
      rw [hs1] at h8
      have HS1 := Lib.hid hs1
      clear hs1
      have h9 := h8.drop.swap_drop2
      clear h8
      obtain ⟨we, hwe⟩ : ∃ we, s.writeE = we := ⟨_, rfl⟩
      rw [hwe]
      have HWE := Lib.hid hwe
      clear hwe
      have HR2 := Lib.hid (show s.putR ws = if we = 0 then (if s1.flushE = 0 then ((N, 0), s1.flushS) else ((zeroM, s1.flushE), s1.flushS)) else ((zeroM, we), s1) by
        rw [HR.out, HNN.out, HWE.out, ← HN0.out, HS1.out])
      clear HR HS1 HN0
      by_cases hw0 : we = 0
      · have hwq : (we == 0) = true := by simpa using hw0
        have HW0 := Lib.hid hw0
        clear hw0
        go_wp2_with fail
        refine (flush_any h9 L2).mono ?_
        rintro e w9 ⟨rfl, h10⟩
        clear h9
        obtain ⟨fe, hfe⟩ : ∃ fe, s1.flushE = fe := ⟨_, rfl⟩
        obtain ⟨s2, hs2⟩ : ∃ s2, s1.flushS = s2 := ⟨_, rfl⟩
        rw [hfe]
        rw [hs2] at h10
        have HR3 := Lib.hid (show s.putR ws = if fe = 0 then ((N, 0), s2) else ((zeroM, fe), s2) by rw [HR2.out, if_pos HW0.out, hfe, hs2])
        clear HR2 hfe hs2
        have hbN := h10.rest.blk0
        have hbg := h10.rest.drop.blk0
        by_cases hf0 : fe = 0
        · have hfq : (fe == 0) = true := by simpa using hf0
          have HR4 := Lib.hid (show s.putR ws = ((N, 0), s2) by rw [HR3.out, if_pos hf0])
          clear HR3 hf0
          have c0 : World.cell? w9 ⟨g1, 0, none⟩ = some (.int .u64 (N 0)) := Blk.cell hbN 0
          have c1 : World.cell? w9 ⟨g1, 1, none⟩ = some (.int .u64 (N 1)) := Blk.cell hbN 1
          have c2 : World.cell? w9 ⟨g1, 2, none⟩ = some (.int .u64 (N 2)) := Blk.cell hbN 2
          have c3 : World.cell? w9 ⟨g1, 3, none⟩ = some (.int .u64 (N 3)) := Blk.cell hbN 3
          have c4 : World.cell? w9 ⟨g1, 4, none⟩ = some (.int .u64 (N 4)) := Blk.cell hbN 4
          have c5 : World.cell? w9 ⟨g1, 5, none⟩ = some (.int .u64 (N 5)) := Blk.cell hbN 5
          have c6 : World.cell? w9 ⟨g1, 6, none⟩ = some (.int .u64 (N 6)) := Blk.cell hbN 6
          have hh6 : dkH w (w9.setRow g (mkA N)) d s2 (blkA g 60 (mkA N) :: ps) := h10.drop.turn (fun hl h => h.row hl) hl
          go_wp2_with (refine wpList_store_row rfl _ _ _ rfl g (mkA N) rfl rfl _ _ hbg markInfo rfl (mkA_all _) ?_)
          refine bodyPost_ret (v := .tuple #[.agg (mkA N), .int .i64 0]) (results_cell2 Try.results37 _ _ g 60 (mkA N) _ _ rfl hh6.rest.blk0 Try.underlying60 rfl markInfo) rfl ⟨?_, ?_⟩
          · rw [HR4.out]
          · rw [HR4.out]; exact hh6.drop
        · have hfq : (fe == 0) = false := by simpa using hf0
          have HR4 := Lib.hid (show s.putR ws = ((zeroM, fe), s2) by rw [HR3.out, if_neg hf0])
          clear HR3 hf0
          have hh6 : dkH w (w9.setRow g (mkA zeroM)) d s2 (blkA g 60 (mkA zeroM) :: ps) := h10.drop.turn (fun hl h => h.row hl) hl
          go_wp2_with (refine wpList_store_row rfl _ _ _ rfl g (mkA zeroM) rfl rfl _ _ hbg markInfo rfl (mkA_all _) ?_)
          refine bodyPost_ret (v := .tuple #[.agg (mkA zeroM), .int .i64 fe]) (results_cell2 Try.results37 _ _ g 60 (mkA zeroM) _ _ rfl hh6.rest.blk0 Try.underlying60 rfl markInfo) rfl ⟨?_, ?_⟩
          · rw [HR4.out]
          · rw [HR4.out]; exact hh6.drop
      · have hwq : (we == 0) = false := by simpa using hw0
        have HR4 := Lib.hid (show s.putR ws = ((zeroM, we), s1) by rw [HR2.out, if_neg hw0])
        clear HR2 hw0
        have hbg := h9.rest.drop.blk0
        have hh6 : dkH w (w8.setRow g (mkA zeroM)) d s1 (blkA g 60 (mkA zeroM) :: ps) := h9.drop.turn (fun hl h => h.row hl) hl
        go_wp2_with (refine wpList_store_row rfl _ _ _ rfl g (mkA zeroM) rfl rfl _ _ hbg markInfo rfl (mkA_all _) ?_)
        refine bodyPost_ret (v := .tuple #[.agg (mkA zeroM), .int .i64 we]) (results_cell2 Try.results37 _ _ g 60 (mkA zeroM) _ _ rfl hh6.rest.blk0 Try.underlying60 rfl markInfo) rfl ⟨?_, ?_⟩
        · rw [HR4.out]
        · rw [HR4.out]; exact hh6.drop
  · have ha' : ¬ (0 : Int) < M 0 := by omega
    have hqq := HQF.out.2 (fun h => ha h.1)
    rw [← hqq] at h4
    clear hqq hb1 hbm
    go_upto_region 11 with fail
    clear c0 k0 f0 ha'
    have hcut := h4.swap_drop
    clear h4 HQF
    generalize W4 = wc at *
    have hb1 := hcut.rest.blk0
    obtain ⟨hown, -⟩ := Has.owned hcut.rest (e := 57) (size := 1) (v := .slice (some pw) ws.length cw) (n := ws.length) (xs := us ws) (by simp [hin])
    have hcells := row_news hown pw rfl
    have hus := us_length ws
    have hcp := fun ty => run_copy_row (P := Try.prog) wc 108 108 ty 57 g1 1 6 6 pw ws.length cw (mkA (newM q [])) 60 (us ws) Try.underlying108 u64Size hb1 (by rw [hus]; exact (Nat.min_eq_left hw6).symm) hcells (by rw [hus]; show 1 + ws.length ≤ 7; omega) (us_one ws)
    rw [newM_row q ws hw6] at hcp
    have h5 : dkH w (wc.setRow g1 (mkA (newM q ws))) d s (blkA g1 60 (mkA (newM q ws)) :: blkA g 60 (mkA zeroM) :: ps) := hcut.turn (fun hl h => h.row hl) (.cons (blkA_loc _ _ _) hl)
    clear hb1 hown hcells hus hcut
    generalize World.setRow wc _ _ = w5 at *
    go_upto_region 12 with fail
    clear hcp
    have hM64 : ∀ i, i < 7 → newM q ws i < 18446744073709551616 := by
      intro i _
      unfold newM
      split
      · omega
      · rw [List.getD_eq_getElem?_getD]
        by_cases hx : i - 1 < ws.length
        · rw [List.getElem?_eq_getElem hx]; exact hw64 _ (List.getElem_mem hx)
        · rw [List.getElem?_eq_none (by omega)]; exact (by decide : (0 : Nat) < 18446744073709551616)
    have HN0 := Lib.hid (show newM q ws 0 = q from rfl)
    have HR := Lib.hid (show s.putR ws = if s.writeE = 0 then (if (s.writeS (q % 2) (bytesM (newM q ws))).flushE = 0 then ((newM q ws, 0), (s.writeS (q % 2) (bytesM (newM q ws))).flushS) else ((zeroM, (s.writeS (q % 2) (bytesM (newM q ws))).flushE), (s.writeS (q % 2) (bytesM (newM q ws))).flushS)) else ((zeroM, s.writeE), s.writeS (q % 2) (bytesM (newM q ws))) by unfold DS.putR; rw [HL.out, HQ.out])
    obtain ⟨N, hN⟩ : ∃ N, newM q ws = N := ⟨_, rfl⟩
    rw [hN] at h5 hM64 HN0
    have HNN := Lib.hid hN
    clear hN
    have hbn := h5.rest.blk0
    have h6 := h5.ext (.cons (blkA_loc _ _ _) (.cons (blkA_loc _ _ _) hl)) (Ext.refl w5).drew
    have d0 : ∀ x : Of (fun X => Blk X g1 60 (mkA N)), x.val.cell? ⟨g1, 0, none⟩ = some (.int .u64 (N 0)) := fun x => x.property.cell 0
    have d1 : ∀ x : Of (fun X => Blk X g1 60 (mkA N)), x.val.cell? ⟨g1, 1, none⟩ = some (.int .u64 (N 1)) := fun x => x.property.cell 1
    have d2 : ∀ x : Of (fun X => Blk X g1 60 (mkA N)), x.val.cell? ⟨g1, 2, none⟩ = some (.int .u64 (N 2)) := fun x => x.property.cell 2
    have d3 : ∀ x : Of (fun X => Blk X g1 60 (mkA N)), x.val.cell? ⟨g1, 3, none⟩ = some (.int .u64 (N 3)) := fun x => x.property.cell 3
    have d4 : ∀ x : Of (fun X => Blk X g1 60 (mkA N)), x.val.cell? ⟨g1, 4, none⟩ = some (.int .u64 (N 4)) := fun x => x.property.cell 4
    have d5 : ∀ x : Of (fun X => Blk X g1 60 (mkA N)), x.val.cell? ⟨g1, 5, none⟩ = some (.int .u64 (N 5)) := fun x => x.property.cell 5
    have d6 : ∀ x : Of (fun X => Blk X g1 60 (mkA N)), x.val.cell? ⟨g1, 6, none⟩ = some (.int .u64 (N 6)) := fun x => x.property.cell 6
    have hFd := (show Blk w5.drew g1 60 (mkA N) from hbn)
    have hne_ : Nonempty (Of ((fun X => Blk X g1 60 (mkA N)))) := ⟨⟨_, hFd⟩⟩
    refine region_steps [0,1,2,3,5,4,6,7,8] [true,true,true,true,true,false,false,false,true] ((fun X => Blk X g1 60 (mkA N))) (by kernel_rfl) (by kernel_rfl) hFd ?_
    simp only [List.filterMap_cons, List.filterMap_nil, List.getElem?_cons_zero, List.getElem?_cons_succ]
    refine steps_quiet 5 (by kernel_rfl) ?_
    simp only [List.take_succ_cons, List.take_zero, List.drop_succ_cons, List.drop_zero]
    repeat (go_big_quiet_step (fail))
    refine wpQuiet_nil ?_
    clear hFd d0 d1 d2 d3 d4 d5 d6 hbn h5
    generalize World.drew w5 = w6 at *
    have L2 : Locs (blkA g1 60 (mkA N) :: blkA g 60 (mkA zeroM) :: ps) := .cons (blkA_loc _ _ _) (.cons (blkA_loc _ _ _) hl)
    have hN64 := hM64 0 (by omega)
    have hsl : Calls Try.prog 43 #[.int .i64 0, .int .u64 (N 0)] w6 fun e w' => e = .returned (.int .i64 ((N 0 % 2 : Nat) : Int)) ∧ w6 = w' := by
      have := slot_any w6 0 (N 0) (by omega) hN64
      rwa [Nat.zero_add] at this
    have hqn : N 0 % 2 < s.n := by have := hN2.out; omega
    clear hN64
    refine steps_want rfl (fun K hK => ?_)
    go_simp
    refine hsl.mono ?_
    rintro e w7 ⟨rfl, rfl⟩
    clear hsl
    refine hK _ _ (fun X => Blk X g1 60 (mkA N)) h6.rest.blk0 (fun _ h => h) ?_
    clear hK K
    (try simp only [Act.put, List.setIfInBounds_toArray, List.set_cons_succ, List.set_cons_zero])
    have hby := mbytes_any w6 N hM64
    simp only [mkA] at hby
    refine steps_want rfl (fun K hK => ?_)
    go_simp
    refine hby.mono ?_
    rintro e w7 ⟨gb, rfl, hown7, hE7⟩
    clear hby
    have h7 := h6.fresh L2 hE7 hown7
    clear h6 hown7 hE7
    refine hK _ _ (fun X => Blk X g1 60 (mkA N)) h7.rest.drop.blk0 (fun _ h => h) ?_
    clear hK K
    (try simp only [Act.put, List.setIfInBounds_toArray, List.set_cons_succ, List.set_cons_zero])
    have hwr := write_any (a := ⟨gb, 0, none⟩) (c := 128) h7 (.cons (rowA_loc _ _ _ _ _) L2) (N 0 % 2) hqn (bytesM_length N) (by simp)
    have hkl : List.length (bytesM N) = 128 := bytesM_length N
    refine steps_want rfl (fun K hK => ?_)
    go_simp
    refine hwr.mono ?_
    rintro e w8 ⟨rfl, h8⟩
    clear hwr h7
    refine hK _ _ (fun X => Blk X g1 60 (mkA N)) h8.rest.drop.blk0 (fun _ h => h) ?_
    clear hK K
    (try simp only [Act.put, List.setIfInBounds_toArray, List.set_cons_succ, List.set_cons_zero])
    refine steps_quiet 1 (by kernel_rfl) ?_
    simp only [List.take_succ_cons, List.take_zero, List.drop_succ_cons, List.drop_zero]
    repeat (go_big_quiet_step (fail))
    refine wpQuiet_nil ?_
    refine steps_nil ?_
    clear hkl
    obtain ⟨s1, hs1⟩ : ∃ s1, s.writeS (N 0 % 2) (bytesM N) = s1 := ⟨_, rfl⟩
    rw [hs1] at h8
    have HS1 := Lib.hid hs1
    clear hs1
    have h9 := h8.drop.swap_drop2
    clear h8
    obtain ⟨we, hwe⟩ : ∃ we, s.writeE = we := ⟨_, rfl⟩
    rw [hwe]
    have HWE := Lib.hid hwe
    clear hwe
    have HR2 := Lib.hid (show s.putR ws = if we = 0 then (if s1.flushE = 0 then ((N, 0), s1.flushS) else ((zeroM, s1.flushE), s1.flushS)) else ((zeroM, we), s1) by
      rw [HR.out, HNN.out, HWE.out, ← HN0.out, HS1.out])
    clear HR HS1 HN0
    by_cases hw0 : we = 0
    · have hwq : (we == 0) = true := by simpa using hw0
      have HW0 := Lib.hid hw0
      clear hw0
      go_wp2_with fail
      refine (flush_any h9 L2).mono ?_
      rintro e w9 ⟨rfl, h10⟩
      clear h9
      obtain ⟨fe, hfe⟩ : ∃ fe, s1.flushE = fe := ⟨_, rfl⟩
      obtain ⟨s2, hs2⟩ : ∃ s2, s1.flushS = s2 := ⟨_, rfl⟩
      rw [hfe]
      rw [hs2] at h10
      have HR3 := Lib.hid (show s.putR ws = if fe = 0 then ((N, 0), s2) else ((zeroM, fe), s2) by rw [HR2.out, if_pos HW0.out, hfe, hs2])
      clear HR2 hfe hs2
      have hbN := h10.rest.blk0
      have hbg := h10.rest.drop.blk0
      by_cases hf0 : fe = 0
      · have hfq : (fe == 0) = true := by simpa using hf0
        have HR4 := Lib.hid (show s.putR ws = ((N, 0), s2) by rw [HR3.out, if_pos hf0])
        clear HR3 hf0
        have c0 : World.cell? w9 ⟨g1, 0, none⟩ = some (.int .u64 (N 0)) := Blk.cell hbN 0
        have c1 : World.cell? w9 ⟨g1, 1, none⟩ = some (.int .u64 (N 1)) := Blk.cell hbN 1
        have c2 : World.cell? w9 ⟨g1, 2, none⟩ = some (.int .u64 (N 2)) := Blk.cell hbN 2
        have c3 : World.cell? w9 ⟨g1, 3, none⟩ = some (.int .u64 (N 3)) := Blk.cell hbN 3
        have c4 : World.cell? w9 ⟨g1, 4, none⟩ = some (.int .u64 (N 4)) := Blk.cell hbN 4
        have c5 : World.cell? w9 ⟨g1, 5, none⟩ = some (.int .u64 (N 5)) := Blk.cell hbN 5
        have c6 : World.cell? w9 ⟨g1, 6, none⟩ = some (.int .u64 (N 6)) := Blk.cell hbN 6
        have hh6 : dkH w (w9.setRow g (mkA N)) d s2 (blkA g 60 (mkA N) :: ps) := h10.drop.turn (fun hl h => h.row hl) hl
        go_wp2_with (refine wpList_store_row rfl _ _ _ rfl g (mkA N) rfl rfl _ _ hbg markInfo rfl (mkA_all _) ?_)
        refine bodyPost_ret (v := .tuple #[.agg (mkA N), .int .i64 0]) (results_cell2 Try.results37 _ _ g 60 (mkA N) _ _ rfl hh6.rest.blk0 Try.underlying60 rfl markInfo) rfl ⟨?_, ?_⟩
        · rw [HR4.out]
        · rw [HR4.out]; exact hh6.drop
      · have hfq : (fe == 0) = false := by simpa using hf0
        have HR4 := Lib.hid (show s.putR ws = ((zeroM, fe), s2) by rw [HR3.out, if_neg hf0])
        clear HR3 hf0
        have hh6 : dkH w (w9.setRow g (mkA zeroM)) d s2 (blkA g 60 (mkA zeroM) :: ps) := h10.drop.turn (fun hl h => h.row hl) hl
        go_wp2_with (refine wpList_store_row rfl _ _ _ rfl g (mkA zeroM) rfl rfl _ _ hbg markInfo rfl (mkA_all _) ?_)
        refine bodyPost_ret (v := .tuple #[.agg (mkA zeroM), .int .i64 fe]) (results_cell2 Try.results37 _ _ g 60 (mkA zeroM) _ _ rfl hh6.rest.blk0 Try.underlying60 rfl markInfo) rfl ⟨?_, ?_⟩
        · rw [HR4.out]
        · rw [HR4.out]; exact hh6.drop
    · have hwq : (we == 0) = false := by simpa using hw0
      have HR4 := Lib.hid (show s.putR ws = ((zeroM, we), s1) by rw [HR2.out, if_neg hw0])
      clear HR2 hw0
      have hbg := h9.rest.drop.blk0
      have hh6 : dkH w (w8.setRow g (mkA zeroM)) d s1 (blkA g 60 (mkA zeroM) :: ps) := h9.drop.turn (fun hl h => h.row hl) hl
      go_wp2_with (refine wpList_store_row rfl _ _ _ rfl g (mkA zeroM) rfl rfl _ _ hbg markInfo rfl (mkA_all _) ?_)
      refine bodyPost_ret (v := .tuple #[.agg (mkA zeroM), .int .i64 we]) (results_cell2 Try.results37 _ _ g 60 (mkA zeroM) _ _ rfl hh6.rest.blk0 Try.underlying60 rfl markInfo) rfl ⟨?_, ?_⟩
      · rw [HR4.out]
      · rw [HR4.out]; exact hh6.drop
end Go.Proofs.Ythghflfgldcmbaa
