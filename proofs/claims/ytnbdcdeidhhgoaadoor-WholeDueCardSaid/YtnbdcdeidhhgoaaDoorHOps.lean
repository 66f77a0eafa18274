/- A heap's Cancel, Top and Len. -/
import Derived.Test.YtnbdcdeidhhgoaaDoorHTake
namespace Go.Proofs.YtnbdcdeidhhgoaaDoor
set_option maxRecDepth 4000
set_option linter.unusedVariables false
set_option linter.unusedSimpArgs false
open Go Go.RowKit Go.Sort
theorem results_cell2 {P : Program} {fn : Func} {p q : Tmp} {ty : TypeId} (h : fn.results = #[.cell p ty, .tmp q]) (tmps : Array Value) (w : World) (g : Nat) (t : TypeId) (cs : Array Value) (fr : Nat × Nat) (d : TypeDesc)
    (hp : tmps.getD p undef = .pointer (some ⟨g, 0, none⟩)) (hg : w.heap[g]? = some (.cells cs t fr))
    (hu : P.underlying ty = some d) (hd : (match d with | .struct _ | .array _ _ => true | _ => false) = true) (hi : (P.info? ty).map (·.size) = some cs.size) :
    (results fn tmps).run P w = .ok (.tuple #[.agg cs, tmps.getD q undef]) w := by
  have hp' : tmps[p]?.getD undef = .pointer (some ⟨g, 0, none⟩) := by simpa using hp
  simp [results, h, hp', asAddr, run_loadVar_row w g t ty cs fr d hg hu hd hi]
def itA (t : It) : Array Value := #[.int .i64 t.run, .int .i64 t.kind, .int .i64 t.id, .int .i64 t.due, .int .u64 t.seq]
theorem itA_all (t : It) : (itA t).all (·.oneCell') = true := by simp [itA, Value.oneCell']
theorem len_any {w W : World} {g : Nat} {T : TypeId} {full : Bool} {v mv : Value} {seq : Nat} {xs : List It} {m : HK → Option Nat} {ps : List Asr} (h : Has w W (hpL g T full v mv seq xs m ps)) :
    Calls Tryd.prog 11 #[.pointer (some ⟨g, 0, none⟩)] W fun e W' => e = .returned (.int .i64 xs.length) ∧ W = W' := by
  obtain ⟨F, hF⟩ := h.drop.head
  obtain ⟨p, c, rfl, _⟩ := its_slice hF
  have k0 := h.blk0.cell 0
  simp only [List.getElem?_toArray, List.getElem?_cons_zero] at k0
  clear hF h
  go_enter Tryd.func11, Tryd.ntmps11
  go_wp2_with fail
  go_ret
  exact ⟨rfl, rfl⟩
def TopR (xs : List It) : Value := .tuple #[.agg (itA (gt xs 0)), .bool (decide (0 < xs.length))]
theorem item_build (X : World) : (Instr.build 51 #[]).run Tryd.prog X = .ok (.agg #[.int .i64 0, .int .i64 0, .int .i64 0, .int .i64 0, .int .u64 0]) X := by kernel_rfl
set_option maxHeartbeats 2000000 in
theorem top_any {w W : World} {g : Nat} {T : TypeId} {full : Bool} {v mv : Value} {seq : Nat} {xs : List It} {m : HK → Option Nat} {ps : List Asr} (h : Has w W (hpL g T full v mv seq xs m ps)) (hl : Locs ps) :
    Calls Tryd.prog 10 #[.pointer (some ⟨g, 0, none⟩)] W fun e W' => e = .returned (TopR xs) ∧ Has w W' (hpL g T full v mv seq xs m ps) := by
  have LH : Locs (hpL g T full v mv seq xs m ps) := hpL_locs hl
  obtain ⟨F, hF⟩ := h.drop.head
  obtain ⟨p, c, hv, _⟩ := its_slice hF
  have h1 := h.new LH 51 #[.int .i64 0, .int .i64 0, .int .i64 0, .int .i64 0, .int .u64 0]
  by_cases h0 : 0 < xs.length
  · obtain ⟨gi, c', hv2, _⟩ := its_some hF h0
    subst hv2
    have hTR : TopR xs = .tuple #[.agg (itA (gt xs 0)), .bool true] := by unfold TopR; rw [decide_eq_true h0]
    rw [hTR]
    clear hTR hv hF
    obtain ⟨x, hx⟩ : ∃ x, gt xs 0 = x := ⟨_, rfl⟩
    rw [hx]
    have HX := Lib.hid hx
    have H0 := Lib.hid h0
    have h0i : (0 : Int) < xs.length := by omega
    have h0e : ((xs.length : Int) == 0) = false := by simpa using (show ¬ (xs.length : Int) = 0 by omega)
    clear hx h0
    go_enter Tryd.func10, Tryd.ntmps10
    go_upto_region 1 with fail
    refine gen_world' (fun X => Has w X (blkA W.heap.size 51 #[.int .i64 0, .int .i64 0, .int .i64 0, .int .i64 0, .int .u64 0] :: hpL g T full (.slice (some ⟨gi, 0, none⟩) xs.length c') mv seq xs m ps)) h1 ?_
    clear h h1
    generalize W.heap.size = gr at *
    intro w1 h1
    obtain ⟨F, hF⟩ := h1.drop.drop.head
    have hr := item_range hF 0 H0.out HX.out
    have y0 := hr 0 _ rfl
    have y1 := hr 1 _ rfl
    have y2 := hr 2 _ rfl
    have y3 := hr 3 _ rfl
    have y4 := hr 4 _ rfl
    simp only [Nat.add_zero, Nat.zero_mul, Nat.zero_add] at y0 y1 y2 y3 y4
    have k0 := h1.drop.blk0.cell 0
    simp only [List.getElem?_toArray, List.getElem?_cons_zero] at k0
    have hbr := h1.blk0
    have h2 := h1.row (cs := itA x) LH
    clear hF hr
    go_wp2_with (refine wpList_store_row rfl _ _ _ rfl gr (itA x) rfl rfl _ _ hbr itemSize rfl (itA_all x) ?_)
    refine bodyPost_ret (v := .tuple #[.agg (itA x), .bool true]) (results_cell2 Tryd.results10 _ _ gr 51 _ _ _ rfl h2.blk0 Tryd.underlying51 rfl itemSize) rfl ⟨rfl, h2.drop⟩
  · have hx0 : xs = [] := List.length_eq_zero_iff.1 (by omega)
    subst hx0
    subst hv
    have hTR : TopR [] = .tuple #[.agg #[.int .i64 0, .int .i64 0, .int .i64 0, .int .i64 0, .int .u64 0], .bool false] := rfl
    rw [hTR]
    have hib := item_build
    clear hTR hF h0
    go_enter Tryd.func10, Tryd.ntmps10
    go_upto_region 1 with fail
    refine gen_world' (fun X => Has w X (blkA W.heap.size 51 #[.int .i64 0, .int .i64 0, .int .i64 0, .int .i64 0, .int .u64 0] :: hpL g T full (.slice p 0 c) mv seq [] m ps)) h1 ?_
    clear h h1
    generalize W.heap.size = gr at *
    intro w1 h1
    have k0 := h1.drop.blk0.cell 0
    simp only [List.getElem?_toArray, List.getElem?_cons_zero] at k0
    have hbr := h1.blk0
    have h2 := h1.row (cs := #[.int .i64 0, .int .i64 0, .int .i64 0, .int .i64 0, .int .u64 0]) LH
    go_wp2_with (refine wpList_store_row rfl _ _ _ rfl gr #[.int .i64 0, .int .i64 0, .int .i64 0, .int .i64 0, .int .u64 0] rfl rfl _ _ hbr itemSize rfl (itA_all It.none_) ?_)
    refine bodyPost_ret (v := .tuple #[.agg #[.int .i64 0, .int .i64 0, .int .i64 0, .int .i64 0, .int .u64 0], .bool false]) (results_cell2 Tryd.results10 _ _ gr 51 _ _ _ rfl h2.blk0 Tryd.underlying51 rfl itemSize) rfl ⟨rfl, h2.drop⟩
set_option maxHeartbeats 4000000 in
theorem cancel_yes {w W : World} {g : Nat} {T : TypeId} {full : Bool} {gi n c mb seq : Nat} {xs : List It} {m : HK → Option Nat} {ps : List Asr}
    (h : Has w W (hpL g T full (.slice (some ⟨gi, 0, none⟩) n c) (.map (some mb)) seq xs m ps)) (hl : Locs ps) (hn : xs.length = n) (hok : ∀ t ∈ xs, t.Ok) (hP : Pos xs m) (k : HK) (hk : KeyOk k) (i : Nat) (hm : m k = some i) (hn20 : n ≤ 1000000) :
    Calls Tryd.prog 9 #[.pointer (some ⟨g, 0, none⟩), .agg #[.int .i64 k.1, .int .i64 k.2.1, .int .i64 k.2.2]] W fun e W' =>
      e = .returned (.tuple #[.agg (itA (gt xs i)), .bool true]) ∧
      Has w W' (hpL g T false (.slice (some ⟨gi, 0, none⟩) (n - 1) (n - 1)) (.map (some mb)) seq (takeS xs m i).1 (takeS xs m i).2 ps) := by
  obtain ⟨k1, k2, k3⟩ := k
  have LH : Locs (hpL g T full (.slice (some ⟨gi, 0, none⟩) n c) (.map (some mb)) seq xs m ps) := hpL_locs hl
  have hi : i < n := by rw [← hn]; exact (hP.only _ _ hm).1
  have HN := Lib.hid hn
  have HM := Lib.hid hm
  clear hn hm
  have h1 := h.new LH 41 #[.int .i64 k1, .int .i64 k2, .int .i64 k3]
  have h2 := h1.new (.cons (blkA_loc _ _ _) LH) 51 #[.int .i64 0, .int .i64 0, .int .i64 0, .int .i64 0, .int .u64 0]
  go_enter Tryd.func9, Tryd.ntmps9
  go_upto_region 1 with fail
  rw [World.size_alloc'] at h2
  refine gen_world' (fun X => Has w X (blkA (W.heap.size + 1) 51 #[.int .i64 0, .int .i64 0, .int .i64 0, .int .i64 0, .int .u64 0] :: blkA W.heap.size 41 #[.int .i64 k1, .int .i64 k2, .int .i64 k3] :: hpL g T full (.slice (some ⟨gi, 0, none⟩) n c) (.map (some mb)) seq xs m ps)) h2 ?_
  clear h h1 h2
  generalize W.heap.size + 1 = gr at *
  generalize W.heap.size = gk at *
  intro w2 h2
  have LB : Locs (blkA gr 51 #[.int .i64 0, .int .i64 0, .int .i64 0, .int .i64 0, .int .u64 0] :: blkA gk 41 #[.int .i64 k1, .int .i64 k2, .int .i64 k3] :: hpL g T full (.slice (some ⟨gi, 0, none⟩) n c) (.map (some mb)) seq xs m ps) := .cons (blkA_loc _ _ _) (.cons (blkA_loc _ _ _) LH)
  have h3 := h2.ext LB (Ext.refl w2).drew
  have hmp : ∃ F, mpA (.map (some mb)) m w2.drew F := h3.drop.drop.drop.drop.head
  have e1 : ∀ z : Of (fun X => Blk X g T #[.slice (some ⟨gi, 0, none⟩) n c, .map (some mb), .int .u64 seq] ∧ Blk X gk 41 #[.int .i64 k1, .int .i64 k2, .int .i64 k3] ∧ ∃ F, mpA (.map (some mb)) m X F), z.val.cell? ⟨g, 1, none⟩ = some (.map (some mb)) := fun z => Blk.cell z.property.1 1
  have e2 : ∀ z : Of (fun X => Blk X g T #[.slice (some ⟨gi, 0, none⟩) n c, .map (some mb), .int .u64 seq] ∧ Blk X gk 41 #[.int .i64 k1, .int .i64 k2, .int .i64 k3] ∧ ∃ F, mpA (.map (some mb)) m X F), (Instr.lookup 24 (.map (some mb)) (.agg #[.int .i64 k1, .int .i64 k2, .int .i64 k3]) true).run Tryd.prog z.val = .ok (.tuple #[.int .i64 (i : Int), .bool true]) z.val := fun z => by
    obtain ⟨F, hF⟩ := z.property.2.2
    have := mp_look2 hF hk
    rw [HM.out] at this
    exact this
  have hFd := (⟨h3.drop.drop.blk0, h3.drop.blk0, hmp⟩ : Blk w2.drew g T _ ∧ Blk w2.drew gk 41 _ ∧ ∃ F, mpA _ _ w2.drew F)
  have hne_ : Nonempty (Of ((fun X => Blk X g T #[.slice (some ⟨gi, 0, none⟩) n c, .map (some mb), .int .u64 seq] ∧ Blk X gk 41 #[.int .i64 k1, .int .i64 k2, .int .i64 k3] ∧ ∃ F, mpA (.map (some mb)) m X F))) := ⟨⟨_, hFd⟩⟩
  refine region_steps [0,1,2,3,4,5,6,7,8,9,10] [true,true,true,true,true,true,true,true,true,true,true] ((fun X => Blk X g T #[.slice (some ⟨gi, 0, none⟩) n c, .map (some mb), .int .u64 seq] ∧ Blk X gk 41 #[.int .i64 k1, .int .i64 k2, .int .i64 k3] ∧ ∃ F, mpA (.map (some mb)) m X F)) (by kernel_rfl) (by kernel_rfl) hFd ?_
  simp only [List.filterMap_cons, List.filterMap_nil, List.getElem?_cons_zero, List.getElem?_cons_succ]
  clear h2
  generalize World.drew w2 = w3 at *
  refine steps_quiet 4 (by kernel_rfl) ?_
  simp only [List.take_succ_cons, List.take_zero, List.drop_succ_cons, List.drop_zero]
  repeat (go_big_quiet_step (fail))
  refine wpQuiet_nil ?_
  refine steps_load_mid rfl _ _ rfl gk 0 rfl [.int .i64 k1, .int .i64 k2, .int .i64 k3] _ (fun X hX => blk_range (cs := [.int .i64 k1, .int .i64 k2, .int .i64 k3]) hX.2.1) Tryd.underlying41 rfl keySize ?_
  (try simp only [Act.put, List.setIfInBounds_toArray, List.set_cons_succ, List.set_cons_zero])
  refine steps_quiet 6 (by kernel_rfl) ?_
  simp only [List.take_succ_cons, List.take_zero, List.drop_succ_cons, List.drop_zero]
  repeat (go_big_quiet_step (fail))
  refine wpQuiet_nil ?_
  refine steps_nil ?_
  have h4 := h3.pick (l := [_, _, _, _, _]) (ps := ps) [2, 3, 4, 0, 1] (by rfl)
  clear h3 hmp e1 e2 hFd LB
  go_wp2_with fail
  refine (take_any h4 (.cons (blkA_loc _ _ _) (.cons (blkA_loc _ _ _) hl)) HN.out hok hP i hi hn20).mono ?_
  clear h4
  rintro e w4 ⟨rfl, h5⟩
  have h6 := h5.pick (l := [_, _, _, _, _]) (ps := ps) [3, 4, 0, 1, 2] (by rfl)
  clear h5
  have hbr := h6.blk0
  have h7 := h6.row (cs := itA (gt xs i)) (.cons (blkA_loc _ _ _) (.cons (blkA_loc _ _ _) (.cons (itsA_loc _ _ _) (.cons (mpA_loc _ _) hl))))
  go_wp2_with (refine wpList_store_row rfl _ _ _ rfl gr (itA (gt xs i)) rfl rfl _ _ hbr itemSize rfl (itA_all (gt xs i)) ?_)
  refine bodyPost_ret (v := .tuple #[.agg (itA (gt xs i)), .bool true]) (results_cell2 Tryd.results9 _ _ gr 51 _ _ _ rfl h7.blk0 Tryd.underlying51 rfl itemSize) rfl ⟨rfl, ?_⟩
  exact h7.drop.drop
end Go.Proofs.YtnbdcdeidhhgoaaDoor
