/- The thing at a place is taken out. -/
import Derived.Test.YtnbdcdeidhhgoaaDoorHPlain2
import Derived.Laws.Slices
namespace Go.Proofs.YtnbdcdeidhhgoaaDoor
set_option maxRecDepth 4000
set_option linter.unusedVariables false
set_option linter.unusedSimpArgs false
open Go Go.RowKit Go.Sort
theorem slice_cut (X : World) (p : Option Addr) (n c k : Nat) (h : k ≤ c) : (Instr.sliceAt 23 (.slice p n c) none (some (.int .i64 (k : Int))) (some (.int .i64 (k : Int)))).run Tryd.prog X = .ok (.slice p k k) X := by
  have ht : Tryd.prog.underlying 23 = some (.slice (Tryd.prog.elem 23)) := by kernel_rfl
  have hs : (sizeOf (Tryd.prog.elem 23)).run Tryd.prog X = .ok 5 X := by kernel_rfl
  rw [run_sliceAt_slice (w := X) _ _ _ _ _ ht]
  rw [run_slice_hm (w := X) _ p n c ht .i64 .i64 k k (by omega) (by omega) (by omega), hs]
  have h0 : p.map (·.add (0 * 5)) = p := by cases p <;> simp [Addr.add]
  simp [sliced, h0, Result.andThen]
theorem item_range {W : World} {F : Nat → Prop} {full : Bool} {g n c : Nat} {xs : List It} (h : itsA full (.slice (some ⟨g, 0, none⟩) n c) xs W F) (i : Nat) (hi : i < xs.length) {x : It} (hx : gt xs i = x) : W.rangeAt g (i * 5) x.cells := by
  have := its_range h i hi
  rw [← gt_lt xs hi, hx] at this
  exact this
theorem results_cell1 {P : Program} {fn : Func} {p : Tmp} {ty : TypeId} (h : fn.results = #[.cell p ty]) (tmps : Array Value) (w : World) (g : Nat) (t : TypeId) (cs : Array Value) (fr : Nat × Nat) (d : TypeDesc)
    (hp : tmps.getD p undef = .pointer (some ⟨g, 0, none⟩)) (hg : w.heap[g]? = some (.cells cs t fr))
    (hu : P.underlying ty = some d) (hd : (match d with | .struct _ | .array _ _ => true | _ => false) = true) (hi : (P.info? ty).map (·.size) = some cs.size) :
    (results fn tmps).run P w = .ok (.agg cs) w := by
  have hp' : tmps[p]?.getD undef = .pointer (some ⟨g, 0, none⟩) := by simpa using hp
  simp [results, h, hp', asAddr, run_loadVar_row w g t ty cs fr d hg hu hd hi]
theorem item_all (t : It) : (#[Value.int .i64 t.run, .int .i64 t.kind, .int .i64 t.id, .int .i64 t.due, .int .u64 t.seq] : Array Value).all (·.oneCell') = true := by simp [Value.oneCell']
set_option maxHeartbeats 4000000 in
theorem take_any {w W : World} {g : Nat} {T : TypeId} {full : Bool} {gi n c mb seq : Nat} {xs : List It} {m : HK → Option Nat} {ps : List Asr}
    (h : Has w W (hpL g T full (.slice (some ⟨gi, 0, none⟩) n c) (.map (some mb)) seq xs m ps)) (hl : Locs ps) (hn : xs.length = n) (hok : ∀ t ∈ xs, t.Ok) (hP : Pos xs m) (i : Nat) (hi : i < n) (hn20 : n ≤ 1000000) :
    Calls Tryd.prog 25 #[.pointer (some ⟨g, 0, none⟩), .int .i64 i] W fun e W' =>
      e = .returned (.agg #[.int .i64 (gt xs i).run, .int .i64 (gt xs i).kind, .int .i64 (gt xs i).id, .int .i64 (gt xs i).due, .int .u64 (gt xs i).seq]) ∧
      Has w W' (hpL g T false (.slice (some ⟨gi, 0, none⟩) (n - 1) (n - 1)) (.map (some mb)) seq (takeS xs m i).1 (takeS xs m i).2 ps) := by
  have LH : ∀ {full : Bool} {v : Value} {ys : List It} {m : HK → Option Nat} {qs : List Asr}, Locs qs → Locs (hpL g T full v (.map (some mb)) seq ys m qs) := fun hq => hpL_locs hq
  obtain ⟨F, hF⟩ := h.drop.head
  have hnc : n ≤ c := by
    obtain ⟨g', c', hv, _, h2⟩ := its_some hF (by omega)
    injection hv with _ _ e3
    omega
  have hxo : (gt xs i).Ok := hok _ (gt_mem xs (by omega))
  have hlo : (gt xs (n - 1)).Ok := hok _ (gt_mem xs (by omega))
  have hin : (i : Int) < n := by omega
  obtain ⟨x, hx⟩ : ∃ x, gt xs i = x := ⟨_, rfl⟩
  obtain ⟨l, hl_⟩ : ∃ l, gt xs (n - 1) = l := ⟨_, rfl⟩
  obtain ⟨n1, hn1⟩ : ∃ n1, n - 1 = n1 := ⟨_, rfl⟩
  have hn1i : (n : Int) - 1 = (n1 : Int) := by omega
  have h1n : (n1 : Int) < n := by omega
  have HOK := Lib.hid hok
  have HN := Lib.hid hn
  have HP := Lib.hid hP
  have HX := Lib.hid hx
  have HL := Lib.hid hl_
  have HN1 := Lib.hid hn1
  rw [hx] at hxo ⊢
  rw [hl_] at hlo
  rw [hn1]
  clear hok hP hx hl_ hF hn hn1
  go_enter Tryd.func25, Tryd.ntmps25
  go_upto_region 1 with fail
  have h1 := h.new (LH hl) 51 #[.int .i64 0, .int .i64 0, .int .i64 0, .int .i64 0, .int .u64 0]
  refine gen_world' (fun X => Has w X (blkA W.heap.size 51 #[.int .i64 0, .int .i64 0, .int .i64 0, .int .i64 0, .int .u64 0] :: hpL g T full (.slice (some ⟨gi, 0, none⟩) n c) (.map (some mb)) seq xs m ps)) h1 ?_
  clear h h1
  generalize W.heap.size = gr at *
  intro w1 h1
  obtain ⟨F, hF⟩ := h1.drop.drop.head
  have hr := item_range hF i (by have := HN.out; omega) HX.out
  have y0 := hr 0 _ rfl
  have y1 := hr 1 _ rfl
  have y2 := hr 2 _ rfl
  have y3 := hr 3 _ rfl
  have y4 := hr 4 _ rfl
  simp only [Nat.add_zero] at y0
  have k0 := (h1.drop.blk0).cell 0
  have k1 := (h1.drop.blk0).cell 1
  simp only [List.getElem?_toArray, List.getElem?_cons_zero, List.getElem?_cons_succ] at k0 k1
  have h2 := h1.new (.cons (blkA_loc _ _ _) (LH hl)) 51 #[.int .i64 x.run, .int .i64 x.kind, .int .i64 x.id, .int .i64 x.due, .int .u64 x.seq]
  clear hF hr
  go_upto_region 2 with fail
  refine gen_world' (fun X => Has w X (blkA w1.heap.size 51 #[.int .i64 x.run, .int .i64 x.kind, .int .i64 x.id, .int .i64 x.due, .int .u64 x.seq] :: blkA gr 51 #[.int .i64 0, .int .i64 0, .int .i64 0, .int .i64 0, .int .u64 0] :: hpL g T full (.slice (some ⟨gi, 0, none⟩) n c) (.map (some mb)) seq xs m ps)) h2 ?_
  clear h1 h2 y0 y1 y2 y3 y4 k0 k1
  generalize w1.heap.size = gx at *
  intro w2 h2
  have e1 : ∀ z : Of (fun X => Blk X g T #[.slice (some ⟨gi, 0, none⟩) n c, .map (some mb), .int .u64 seq] ∧ Blk X gx 51 #[.int .i64 x.run, .int .i64 x.kind, .int .i64 x.id, .int .i64 x.due, .int .u64 x.seq]), z.val.cell? ⟨g, 1, none⟩ = some (.map (some mb)) := fun z => Blk.cell z.property.1 1
  have LB : ∀ {full : Bool} {v : Value} {ys : List It} {m : HK → Option Nat} {qs : List Asr}, Locs qs → Locs (blkA gx 51 #[.int .i64 x.run, .int .i64 x.kind, .int .i64 x.id, .int .i64 x.due, .int .u64 x.seq] :: blkA gr 51 #[.int .i64 0, .int .i64 0, .int .i64 0, .int .i64 0, .int .u64 0] :: hpL g T full v (.map (some mb)) seq ys m qs) := fun hq => .cons (blkA_loc _ _ _) (.cons (blkA_loc _ _ _) (LH hq))
  have h3 := h2.ext (LB hl) (Ext.refl w2).drew
  have hFd := (⟨h3.drop.drop.blk0, h3.blk0⟩ : Blk w2.drew g T _ ∧ Blk w2.drew gx 51 _)
  have hne_ : Nonempty (Of ((fun X => Blk X g T #[.slice (some ⟨gi, 0, none⟩) n c, .map (some mb), .int .u64 seq] ∧ Blk X gx 51 #[.int .i64 x.run, .int .i64 x.kind, .int .i64 x.id, .int .i64 x.due, .int .u64 x.seq]))) := ⟨⟨_, hFd⟩⟩
  refine region_steps [0,1,2,3,4,5,6] [true,true,true,true,true,true,false] ((fun X => Blk X g T #[.slice (some ⟨gi, 0, none⟩) n c, .map (some mb), .int .u64 seq] ∧ Blk X gx 51 #[.int .i64 x.run, .int .i64 x.kind, .int .i64 x.id, .int .i64 x.due, .int .u64 x.seq])) (by kernel_rfl) (by kernel_rfl) hFd ?_
  simp only [List.filterMap_cons, List.filterMap_nil, List.getElem?_cons_zero, List.getElem?_cons_succ]
  clear h2
  generalize World.drew w2 = w3 at *
  refine steps_quiet 5 (by kernel_rfl) ?_
  simp only [List.take_succ_cons, List.take_zero, List.drop_succ_cons, List.drop_zero]
  repeat (go_big_quiet_step (fail))
  refine wpQuiet_nil ?_
  refine steps_load_mid rfl _ _ rfl gx 0 rfl [.int .i64 ((It.key x)).1, .int .i64 ((It.key x)).2.1, .int .i64 ((It.key x)).2.2] _ (fun X hX => range_take (cs := [.int .i64 x.run, .int .i64 x.kind, .int .i64 x.id]) (ds := [.int .i64 x.due, .int .u64 x.seq]) (blk_range (cs := x.cells) hX.2)) Tryd.underlying41 rfl keySize ?_
  (try simp only [Act.put, List.setIfInBounds_toArray, List.set_cons_succ, List.set_cons_zero])
  have h4 := h3.pick (l := [_, _, _, _, _]) (ps := ps) [4, 0, 1, 2, 3] (by rfl)
  obtain ⟨w4, hrun, h5⟩ := mp_del h4 (.cons (blkA_loc _ _ _) (.cons (blkA_loc _ _ _) (.cons (blkA_loc _ _ _) (.cons (itsA_loc _ _ _) hl)))) hxo.key 0
  have hrunK : (Builtin.delete_ #[24, 41] 0 #[.map (some mb), .agg #[.int .i64 x.key.1, .int .i64 x.key.2.1, .int .i64 x.key.2.2]]).run Tryd.prog w3 = .ok (.tuple #[]) w4 := hrun
  clear h3 h4 hrun
  refine steps_want rfl (fun K hK => ?_)
  go_simp
  have h6 := h5.pick (l := [_, _, _, _, _]) (ps := ps) [1, 2, 3, 4, 0] (by rfl)
  clear h5 hrunK hFd e1
  refine hK _ _ (fun X => Blk X g T #[.slice (some ⟨gi, 0, none⟩) n c, .map (some mb), .int .u64 seq] ∧ Blk X gx 51 #[.int .i64 x.run, .int .i64 x.kind, .int .i64 x.id, .int .i64 x.due, .int .u64 x.seq]) ⟨h6.drop.drop.blk0, h6.blk0⟩ (fun _ h => h) ?_
  clear hK K
  (try simp only [Act.put, List.setIfInBounds_toArray, List.set_cons_succ, List.set_cons_zero])
  refine steps_nil ?_
  have k0 := (h6.drop.drop.blk0).cell 0
  have k1 := (h6.drop.drop.blk0).cell 1
  simp only [List.getElem?_toArray, List.getElem?_cons_zero, List.getElem?_cons_succ] at k0 k1
  go_upto_region 4 with fail
  obtain ⟨F, hF⟩ := h6.drop.drop.drop.head
  have hr := item_range hF n1 (by have := HN.out; omega) (show gt xs n1 = l by rw [← HN1.out]; exact HL.out)
  have y0 := hr 0 _ rfl
  have y1 := hr 1 _ rfl
  have y2 := hr 2 _ rfl
  have y3 := hr 3 _ rfl
  have y4 := hr 4 _ rfl
  simp only [Nat.add_zero] at y0
  have h7 := h6.new (LB hl) 51 #[.int .i64 l.run, .int .i64 l.kind, .int .i64 l.id, .int .i64 l.due, .int .u64 l.seq]
  clear hF hr
  go_upto_region 5 with fail
  refine gen_world' (fun X => Has w X (blkA w4.heap.size 51 #[.int .i64 l.run, .int .i64 l.kind, .int .i64 l.id, .int .i64 l.due, .int .u64 l.seq] :: blkA gx 51 #[.int .i64 x.run, .int .i64 x.kind, .int .i64 x.id, .int .i64 x.due, .int .u64 x.seq] :: blkA gr 51 #[.int .i64 0, .int .i64 0, .int .i64 0, .int .i64 0, .int .u64 0] :: hpL g T full (.slice (some ⟨gi, 0, none⟩) n c) (.map (some mb)) seq xs (delM m x.key) ps)) h7 ?_
  clear h6 h7 y0 y1 y2 y3 y4 k0 k1
  generalize w4.heap.size = gl at *
  intro w5 h7
  have hsl := fun X => slice_cut X (some ⟨gi, 0, none⟩) n c n1 (by omega)
  have hblk := h7.drop.drop.drop.blk0
  have k0 := (hblk).cell 0
  have k1 := (hblk).cell 1
  simp only [List.getElem?_toArray, List.getElem?_cons_zero, List.getElem?_cons_succ] at k0 k1
  have f0 := hblk.frozen 0
  have h8 := h7.pick (l := [_, _, _, _, _, _]) (ps := ps) [3, 4, 0, 1, 2, 5] (by rfl)
  have LC : ∀ {full : Bool} {v : Value} {ys : List It} {m : HK → Option Nat}, Locs (itsA full v ys :: blkA gl 51 #[.int .i64 l.run, .int .i64 l.kind, .int .i64 l.id, .int .i64 l.due, .int .u64 l.seq] :: blkA gx 51 #[.int .i64 x.run, .int .i64 x.kind, .int .i64 x.id, .int .i64 x.due, .int .u64 x.seq] :: blkA gr 51 #[.int .i64 0, .int .i64 0, .int .i64 0, .int .i64 0, .int .u64 0] :: mpA (.map (some mb)) m :: ps) := .cons (itsA_loc _ _ _) (.cons (blkA_loc _ _ _) (.cons (blkA_loc _ _ _) (.cons (blkA_loc _ _ _) (.cons (mpA_loc _ _) hl))))
  have h9 := h8.set LC 0 (.slice (some ⟨gi, 0, none⟩) n1 n1)
  have h10 := (h9.swap).imp (fun F hF => its_cut hF n1 (by have := HN.out; omega))
  have h11 := h10.pick (l := [_, _, _, _, _, _]) (ps := ps) [1, 0, 5, 2, 3, 4] (by rfl)
  clear h7 h8 h9 h10 hblk
  go_upto_region 6 with fail
  refine gen_world' (fun X => Has w X (hpL g T false (.slice (some ⟨gi, 0, none⟩) n1 n1) (.map (some mb)) seq (xs.take n1) (delM m x.key) (blkA gl 51 #[.int .i64 l.run, .int .i64 l.kind, .int .i64 l.id, .int .i64 l.due, .int .u64 l.seq] :: blkA gx 51 #[.int .i64 x.run, .int .i64 x.kind, .int .i64 x.id, .int .i64 x.due, .int .u64 x.seq] :: blkA gr 51 #[.int .i64 0, .int .i64 0, .int .i64 0, .int .i64 0, .int .u64 0] :: ps))) h11 ?_
  clear h11 k0 k1 f0 hsl LC
  intro w6 h11
  have LZ : Locs (blkA gl 51 #[.int .i64 l.run, .int .i64 l.kind, .int .i64 l.id, .int .i64 l.due, .int .u64 l.seq] :: blkA gx 51 #[.int .i64 x.run, .int .i64 x.kind, .int .i64 x.id, .int .i64 x.due, .int .u64 x.seq] :: blkA gr 51 #[.int .i64 0, .int .i64 0, .int .i64 0, .int .i64 0, .int .u64 0] :: ps) := .cons (blkA_loc _ _ _) (.cons (blkA_loc _ _ _) (.cons (blkA_loc _ _ _) hl))
  have hlt1 : (xs.take n1).length = n1 := by rw [List.length_take, HN.out]; omega
  by_cases hin1 : i < n1
  · have hR : takeS xs m i = downS (takeU xs m i).1 (takeU xs m i).2 (gt (takeU xs m i).1 (takeJ xs m i)) (takeJ xs m i) := by
      unfold takeS
      rw [if_pos (by rw [HN.out, HN1.out]; exact hin1)]
    obtain ⟨u1, u2, u3, u4⟩ := takeU_done HP.out (i := i) (by rw [HN.out, HN1.out]; exact hin1)
    have hUL : (takeU xs m i).1.length = n1 := by rw [u1.length_eq, List.length_set, HN.out, HN1.out]; exact hlt1
    have hUO : ∀ t ∈ (takeU xs m i).1, t.Ok := by
      intro t ht
      have h1 := u1.mem_iff.1 ht
      rcases List.mem_or_eq_of_mem_set h1 with h | rfl
      · exact HOK.out t (List.mem_of_mem_take h)
      · rw [HN.out, HL.out]; exact hlo
    have hUe : takeU xs m i = upS ((xs.take n1).set i l) (updM (delM m x.key) l.key i) (((xs.take n1).set i l).getD i It.none_) i := by
      unfold takeU
      rw [HN.out, HL.out, HN1.out, HX.out]
      congr 1
      show l = gt ((xs.take n1).set i l) i
      rw [gt_set _ _ _ _ (by omega), if_pos rfl]
    have hlk : ((takeU xs m i).2 l.key).getD 0 = takeJ xs m i := by
      unfold takeJ
      rw [HN.out, HL.out]
    have hso : ∀ t ∈ (xs.take n1).set i l, t.Ok := by
      intro t ht
      rcases List.mem_or_eq_of_mem_set ht with h | rfl
      · exact HOK.out t (List.mem_of_mem_take h)
      · exact hlo
    have HR := Lib.hid hR
    have hi1i : (i : Int) < n1 := by omega
    have hJn : takeJ xs m i < n1 := by rw [← hUL]; exact u3
    clear hR u1 u2 u3 u4
    have HUE := Lib.hid hUe
    have HUL := Lib.hid hUL
    have HLK := Lib.hid hlk
    clear hUe hUL hlk
    generalize takeU xs m i = U at *
    generalize takeJ xs m i = J at *
    have hbl := h11.drop.drop.drop.blk0
    have z0 : World.cell? w6 ⟨gl, 0, none⟩ = some (.int .i64 l.run) := hbl.cell 0
    have z1 : World.cell? w6 ⟨gl, 1, none⟩ = some (.int .i64 l.kind) := hbl.cell 1
    have z2 : World.cell? w6 ⟨gl, 2, none⟩ = some (.int .i64 l.id) := hbl.cell 2
    have z3 : World.cell? w6 ⟨gl, 3, none⟩ = some (.int .i64 l.due) := hbl.cell 3
    have z4 : World.cell? w6 ⟨gl, 4, none⟩ = some (.int .u64 l.seq) := hbl.cell 4
    clear hbl
    go_wp2_with fail
    refine (set_any h11 LZ hlt1.symm i (by omega) l hlo).mono ?_
    clear h11 z0 z1 z2 z3 z4
    rintro e w7 ⟨rfl, h12⟩
    go_wp2_with fail
    refine (up_any h12 LZ (by rw [List.length_set]; exact hlt1) hso i (by omega)).mono ?_
    clear h12
    rintro e w8 ⟨rfl, h13⟩
    rw [← HUE.out] at h13
    go_upto_region 9 with fail
    have LHZ := LH (full := false) (v := .slice (some ⟨gi, 0, none⟩) n1 n1) (ys := U.1) (m := U.2) LZ
    have h14 := h13.ext LHZ (Ext.refl w8).drew
    have e1 : ∀ z : Of (fun X => Blk X g T #[.slice (some ⟨gi, 0, none⟩) n1 n1, .map (some mb), .int .u64 seq] ∧ Blk X gl 51 #[.int .i64 l.run, .int .i64 l.kind, .int .i64 l.id, .int .i64 l.due, .int .u64 l.seq]), z.val.cell? ⟨g, 1, none⟩ = some (.map (some mb)) := fun z => Blk.cell z.property.1 1
    have hFd := (⟨h14.blk0, h14.drop.drop.drop.blk0⟩ : Blk w8.drew g T _ ∧ Blk w8.drew gl 51 _)
    have hne_ : Nonempty (Of ((fun X => Blk X g T #[.slice (some ⟨gi, 0, none⟩) n1 n1, .map (some mb), .int .u64 seq] ∧ Blk X gl 51 #[.int .i64 l.run, .int .i64 l.kind, .int .i64 l.id, .int .i64 l.due, .int .u64 l.seq]))) := ⟨⟨_, hFd⟩⟩
    refine region_steps [0,1,2,3,4,5,6,7,8] [true,true,true,true,true,true,true,false,false] ((fun X => Blk X g T #[.slice (some ⟨gi, 0, none⟩) n1 n1, .map (some mb), .int .u64 seq] ∧ Blk X gl 51 #[.int .i64 l.run, .int .i64 l.kind, .int .i64 l.id, .int .i64 l.due, .int .u64 l.seq])) (by kernel_rfl) (by kernel_rfl) hFd ?_
    simp only [List.filterMap_cons, List.filterMap_nil, List.getElem?_cons_zero, List.getElem?_cons_succ]
    clear h13
    generalize World.drew w8 = w9 at *
    refine steps_quiet 6 (by kernel_rfl) ?_
    simp only [List.take_succ_cons, List.take_zero, List.drop_succ_cons, List.drop_zero]
    repeat (go_big_quiet_step (fail))
    refine wpQuiet_nil ?_
    refine steps_load_mid rfl _ _ rfl gl 0 rfl [.int .i64 ((It.key l)).1, .int .i64 ((It.key l)).2.1, .int .i64 ((It.key l)).2.2] _ (fun X hX => range_take (cs := [.int .i64 l.run, .int .i64 l.kind, .int .i64 l.id]) (ds := [.int .i64 l.due, .int .u64 l.seq]) (blk_range (cs := l.cells) hX.2)) Tryd.underlying41 rfl keySize ?_
    (try simp only [Act.put, List.setIfInBounds_toArray, List.set_cons_succ, List.set_cons_zero])
    have e2 : (Instr.lookup 24 (.map (some mb)) (.agg #[.int .i64 l.key.1, .int .i64 l.key.2.1, .int .i64 l.key.2.2]) false).run Tryd.prog w9 = .ok (.int .i64 (J : Int)) w9 := by
      obtain ⟨F, hF⟩ := h14.drop.drop.head
      have := mp_look1 hF hlo.key
      rw [HLK.out] at this
      exact this
    refine steps_want rfl (fun K hK => ?_)
    go_simp
    refine hK _ _ (fun X => Blk X g T #[.slice (some ⟨gi, 0, none⟩) n1 n1, .map (some mb), .int .u64 seq] ∧ Blk X gl 51 #[.int .i64 l.run, .int .i64 l.kind, .int .i64 l.id, .int .i64 l.due, .int .u64 l.seq]) hFd (fun _ h => h) ?_
    clear hK K e2
    (try simp only [Act.put, List.setIfInBounds_toArray, List.set_cons_succ, List.set_cons_zero])
    refine steps_want rfl (fun K hK => ?_)
    go_simp
    refine (down_any h14 LZ HUL.out hUO J hJn (by omega)).mono ?_
    clear h14 e1 hFd
    rintro e w10 ⟨rfl, h15⟩
    refine hK _ _ (fun X => Blk X g T #[.slice (some ⟨gi, 0, none⟩) n1 n1, .map (some mb), .int .u64 seq] ∧ Blk X gl 51 #[.int .i64 l.run, .int .i64 l.kind, .int .i64 l.id, .int .i64 l.due, .int .u64 l.seq]) ⟨h15.blk0, h15.drop.drop.drop.blk0⟩ (fun _ h => h) ?_
    clear hK K
    (try simp only [Act.put, List.setIfInBounds_toArray, List.set_cons_succ, List.set_cons_zero])
    refine steps_nil ?_
    have hbx := (h15).drop.drop.drop.drop.blk0
    have hbr := (h15).drop.drop.drop.drop.drop.blk0
    have z0 : World.cell? w10 ⟨gx, 0, none⟩ = some (.int .i64 x.run) := hbx.cell 0
    have z1 : World.cell? w10 ⟨gx, 1, none⟩ = some (.int .i64 x.kind) := hbx.cell 1
    have z2 : World.cell? w10 ⟨gx, 2, none⟩ = some (.int .i64 x.id) := hbx.cell 2
    have z3 : World.cell? w10 ⟨gx, 3, none⟩ = some (.int .i64 x.due) := hbx.cell 3
    have z4 : World.cell? w10 ⟨gx, 4, none⟩ = some (.int .u64 x.seq) := hbx.cell 4
    have hq1 := (h15).pick (l := [_, _, _, _, _, _]) (ps := ps) [5, 0, 1, 2, 3, 4] (by rfl)
    have hq2 := hq1.row (cs := #[.int .i64 x.run, .int .i64 x.kind, .int .i64 x.id, .int .i64 x.due, .int .u64 x.seq]) (.cons (blkA_loc _ _ _) (.cons (itsA_loc _ _ _) (.cons (mpA_loc _ _) (.cons (blkA_loc _ _ _) (.cons (blkA_loc _ _ _) hl)))))
    clear hq1 hbx
    go_wp2_with (refine wpList_store_row rfl _ _ _ rfl gr #[.int .i64 x.run, .int .i64 x.kind, .int .i64 x.id, .int .i64 x.due, .int .u64 x.seq] rfl rfl _ _ hbr itemSize rfl (item_all x) ?_)
    refine bodyPost_ret (v := .agg #[.int .i64 x.run, .int .i64 x.kind, .int .i64 x.id, .int .i64 x.due, .int .u64 x.seq]) (results_cell1 Tryd.results25 _ _ gr 51 _ _ _ rfl hq2.blk0 Tryd.underlying51 rfl itemSize) rfl ⟨rfl, ?_⟩
    have hq3 := hq2.drop.pick (l := [_, _, _, _, _]) (ps := ps) [3, 4, 0, 1, 2] (by rfl)
    rw [HR.out]
    exact hq3.drop.drop
  · have hR : takeS xs m i = (xs.take n1, delM m x.key) := by
      unfold takeS
      rw [if_neg (by rw [HN.out, HN1.out]; exact hin1), HN.out, HN1.out, HX.out]
    have HR := Lib.hid hR
    have hi1i : ¬ (i : Int) < n1 := by omega
    clear hR
    have hbx := (h11).drop.drop.drop.drop.blk0
    have hbr := (h11).drop.drop.drop.drop.drop.blk0
    have z0 : World.cell? w6 ⟨gx, 0, none⟩ = some (.int .i64 x.run) := hbx.cell 0
    have z1 : World.cell? w6 ⟨gx, 1, none⟩ = some (.int .i64 x.kind) := hbx.cell 1
    have z2 : World.cell? w6 ⟨gx, 2, none⟩ = some (.int .i64 x.id) := hbx.cell 2
    have z3 : World.cell? w6 ⟨gx, 3, none⟩ = some (.int .i64 x.due) := hbx.cell 3
    have z4 : World.cell? w6 ⟨gx, 4, none⟩ = some (.int .u64 x.seq) := hbx.cell 4
    have hq1 := (h11).pick (l := [_, _, _, _, _, _]) (ps := ps) [5, 0, 1, 2, 3, 4] (by rfl)
    have hq2 := hq1.row (cs := #[.int .i64 x.run, .int .i64 x.kind, .int .i64 x.id, .int .i64 x.due, .int .u64 x.seq]) (.cons (blkA_loc _ _ _) (.cons (itsA_loc _ _ _) (.cons (mpA_loc _ _) (.cons (blkA_loc _ _ _) (.cons (blkA_loc _ _ _) hl)))))
    clear hq1 hbx
    go_wp2_with (refine wpList_store_row rfl _ _ _ rfl gr #[.int .i64 x.run, .int .i64 x.kind, .int .i64 x.id, .int .i64 x.due, .int .u64 x.seq] rfl rfl _ _ hbr itemSize rfl (item_all x) ?_)
    refine bodyPost_ret (v := .agg #[.int .i64 x.run, .int .i64 x.kind, .int .i64 x.id, .int .i64 x.due, .int .u64 x.seq]) (results_cell1 Tryd.results25 _ _ gr 51 _ _ _ rfl hq2.blk0 Tryd.underlying51 rfl itemSize) rfl ⟨rfl, ?_⟩
    have hq3 := hq2.drop.pick (l := [_, _, _, _, _]) (ps := ps) [3, 4, 0, 1, 2] (by rfl)
    rw [HR.out]
    exact hq3.drop.drop
end Go.Proofs.YtnbdcdeidhhgoaaDoor
