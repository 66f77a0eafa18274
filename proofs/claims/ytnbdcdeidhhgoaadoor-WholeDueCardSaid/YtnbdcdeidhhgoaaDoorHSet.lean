/- A heap in memory; a thing stands at a place. -/
import Derived.Test.YtnbdcdeidhhgoaaDoorHCmp
import Derived.Test.YtnbdcdeidhhgoaaDoorStepsZ
import Derived.Test.YtnbdcdeidhhgoaaDoorOpenR
import Derived.Test.YtnbdcdeidhhgoaaDoorMix
import Derived.Test.YtnbdcdeidhhgoaaDoorRows
import Derived.Lib.Hide
import Derived.Lib.LazyBuf
import Derived.LoopTactic
import Derived.Laws.Unary
namespace Go.Proofs.YtnbdcdeidhhgoaaDoor
set_option maxRecDepth 4000
set_option linter.unusedVariables false
set_option linter.unusedSimpArgs false
open Go Go.RowKit
def hpL (g : Nat) (T : TypeId) (full : Bool) (v mv : Value) (seq : Nat) (xs : List It) (m : HK → Option Nat) (ps : List Asr) : List Asr :=
  blkA g T #[v, mv, .int .u64 seq] :: itsA full v xs :: mpA mv m :: ps
theorem hpL_locs {g : Nat} {T : TypeId} {full : Bool} {v mv : Value} {seq : Nat} {xs : List It} {m : HK → Option Nat} {ps : List Asr} (h : Locs ps) : Locs (hpL g T full v mv seq xs m ps) := .cons (blkA_loc _ _ _) (.cons (itsA_loc _ _ _) (.cons (mpA_loc _ _) h))
theorem itemSize : (Tryd.prog.info? 51).map (·.size) = some 5 := by kernel_rfl
theorem keySize : (Tryd.prog.info? 41).map (·.size) = some 3 := by kernel_rfl
theorem load_item {W : World} {b o : Nat} {t : It} (h : W.rangeAt b o t.cells) : (Instr.loadAt 51 (.pointer (some ⟨b, o, none⟩))).run Tryd.prog W = .ok (.agg #[.int .i64 t.run, .int .i64 t.kind, .int .i64 t.id, .int .i64 t.due, .int .u64 t.seq]) W :=
  run_loadAt_mid W b o 51 t.cells _ h Tryd.underlying51 rfl itemSize
theorem load_key {W : World} {b o : Nat} {x : HK} (h : W.rangeAt b o [.int .i64 x.1, .int .i64 x.2.1, .int .i64 x.2.2]) : (Instr.loadAt 41 (.pointer (some ⟨b, o, none⟩))).run Tryd.prog W = .ok (.agg #[.int .i64 x.1, .int .i64 x.2.1, .int .i64 x.2.2]) W :=
  run_loadAt_mid W b o 41 [.int .i64 x.1, .int .i64 x.2.1, .int .i64 x.2.2] _ h Tryd.underlying41 rfl keySize
theorem blk_range {W : World} {g : Nat} {T : TypeId} {cs : List Value} (h : Blk W g T cs.toArray) : W.rangeAt g 0 cs := by
  intro j v hv
  rw [Nat.zero_add, Blk.cell h]
  simpa using hv
theorem range_take {W : World} {g o : Nat} {cs ds : List Value} (h : W.rangeAt g o (cs ++ ds)) : W.rangeAt g o cs := by
  intro j v hv
  exact h j v (by rw [List.getElem?_append_left (List.getElem?_eq_some_iff.1 hv).1]; exact hv)
theorem steps_load_mid {P : Program} {ops : Array Oper} {M : (World → Prop) → Act → World → Prop} {Q : Exit → Act → World → Prop} {F : World → Prop} {o : Oper} {ts : List Bool} {rest : List Oper} {a : Act} {w : World} (hw : Region.wanted o (yielded ops a.tmps) = true) (ty : TypeId) (x : Operand) (ho : o.op = .load ty x)
    (b off : Nat) (hx : a.eval x = .pointer (some ⟨b, off, none⟩)) (cs : List Value) (d : TypeDesc) (hS : ∀ w, F w → w.rangeAt b off cs) (hu : P.underlying ty = some d) (hd : d.isRow = true) (hi : (P.info? ty).map (·.size) = some cs.length)
    (h : walkL P ops M Q ts rest F (a.put o.dst (.agg cs.toArray)) w) : walkL P ops M Q (true :: ts) (o :: rest) F a w := by
  refine ⟨.agg cs.toArray, .inl ⟨hw, fun w' hw' => .inl ?_⟩, h⟩
  unfold execOp
  simp only [ho, hx, Instr.loadAt, Instr.sureAddr, Sem.run_bind, Sem.run_pure, Result.andThen_ok, run_loadVar_mid w' b off ty cs d (hS w' (cls_get hw')) hu hd hi]
set_option maxHeartbeats 2000000 in
theorem set_any {w W : World} {g : Nat} {T : TypeId} {full : Bool} {gi n c mb seq : Nat} {xs : List It} {m : HK → Option Nat} {ps : List Asr}
    (h : Has w W (hpL g T full (.slice (some ⟨gi, 0, none⟩) n c) (.map (some mb)) seq xs m ps)) (hl : Locs ps) (hn : n = xs.length) (i : Nat) (hi : i < xs.length) (t : It) (ht : t.Ok) :
    Calls Tryd.prog 31 #[.pointer (some ⟨g, 0, none⟩), .int .i64 i, .agg #[.int .i64 t.run, .int .i64 t.kind, .int .i64 t.id, .int .i64 t.due, .int .u64 t.seq]] W fun e W' =>
      e = .returned (.tuple #[]) ∧ Has w W' (hpL g T full (.slice (some ⟨gi, 0, none⟩) n c) (.map (some mb)) seq (xs.set i t) (updM m t.key i) ps) := by
  have LH : Locs (hpL g T full (.slice (some ⟨gi, 0, none⟩) n c) (.map (some mb)) seq xs m ps) := hpL_locs hl
  have h2 := h.new LH 51 #[.int .i64 t.run, .int .i64 t.kind, .int .i64 t.id, .int .i64 t.due, .int .u64 t.seq]
  have hin : (i : Int) < n := by omega
  have hin2 : (n : Int) ≤ 9223372036854775807 := by
    obtain ⟨F, hF⟩ := h.drop.head
    obtain ⟨p, c', hv, hm⟩ := its_slice hF
    unfold maxLen at hm; omega
  have HN := Lib.hid hn
  clear hn
  go_enter Tryd.func31, Tryd.ntmps31
  go_upto_region 1 with fail
  refine gen_world' (fun X => Has w X (blkA W.heap.size 51 #[.int .i64 t.run, .int .i64 t.kind, .int .i64 t.id, .int .i64 t.due, .int .u64 t.seq] :: hpL g T full (.slice (some ⟨gi, 0, none⟩) n c) (.map (some mb)) seq xs m ps)) h2 ?_
  clear h h2
  generalize W.heap.size = gb at *
  intro w2 h2
  have e0 : ∀ x : Of (fun X => Blk X g T #[.slice (some ⟨gi, 0, none⟩) n c, .map (some mb), .int .u64 seq] ∧ Blk X gb 51 #[.int .i64 t.run, .int .i64 t.kind, .int .i64 t.id, .int .i64 t.due, .int .u64 t.seq]), x.val.cell? ⟨g, 0, none⟩ = some (.slice (some ⟨gi, 0, none⟩) n c) := fun x => Blk.cell x.property.1 0
  have e1 : ∀ x : Of (fun X => Blk X g T #[.slice (some ⟨gi, 0, none⟩) n c, .map (some mb), .int .u64 seq] ∧ Blk X gb 51 #[.int .i64 t.run, .int .i64 t.kind, .int .i64 t.id, .int .i64 t.due, .int .u64 t.seq]), x.val.cell? ⟨g, 1, none⟩ = some (.map (some mb)) := fun x => Blk.cell x.property.1 1
  have hB : Locs (blkA gb 51 #[.int .i64 t.run, .int .i64 t.kind, .int .i64 t.id, .int .i64 t.due, .int .u64 t.seq] :: hpL g T full (.slice (some ⟨gi, 0, none⟩) n c) (.map (some mb)) seq xs m ps) := .cons (blkA_loc _ _ _) LH
  have hFd := (⟨h2.drop.blk0, h2.blk0⟩ : Blk w2.drew g T _ ∧ Blk w2.drew gb 51 _)
  have hne_ : Nonempty (Of ((fun X => Blk X g T #[.slice (some ⟨gi, 0, none⟩) n c, .map (some mb), .int .u64 seq] ∧ Blk X gb 51 #[.int .i64 t.run, .int .i64 t.kind, .int .i64 t.id, .int .i64 t.due, .int .u64 t.seq]))) := ⟨⟨_, hFd⟩⟩
  refine region_planZ 7 (.seg [0,1,2,3,4,5,6] [true,true,true,true,true,true,true] .done) ((fun X => Blk X g T #[.slice (some ⟨gi, 0, none⟩) n c, .map (some mb), .int .u64 seq] ∧ Blk X gb 51 #[.int .i64 t.run, .int .i64 t.kind, .int .i64 t.id, .int .i64 t.due, .int .u64 t.seq])) (by kernel_rfl) (by kernel_rfl) hFd ?_
  refine walkZ_seg ?_
  simp only [List.filterMap_cons, List.filterMap_nil, List.getElem?_cons_zero, List.getElem?_cons_succ]
  have h3 := h2.ext hB (Ext.refl w2).drew
  clear h2 hFd
  generalize World.drew w2 = w3 at *
  refine steps_quiet 5 (by kernel_rfl) ?_
  simp only [List.take_succ_cons, List.take_zero, List.drop_succ_cons, List.drop_zero]
  repeat (go_big_quiet_step (fail))
  refine wpQuiet_nil ?_
  refine steps_load_mid rfl _ _ rfl gb 0 rfl (It.cells t) _ (fun X hX => blk_range (cs := t.cells) hX.2) Tryd.underlying51 rfl itemSize ?_
  (try simp only [Act.put, List.setIfInBounds_toArray, List.set_cons_succ, List.set_cons_zero, It.cells])
  refine steps_quiet 1 (by kernel_rfl) ?_
  simp only [List.take_succ_cons, List.take_zero, List.drop_succ_cons, List.drop_zero]
  repeat (go_big_quiet_step (fail))
  refine wpQuiet_nil ?_
  have h4 := h3.pick (l := [_, _, _, _]) (ps := ps) [2, 0, 1, 3] (by rfl)
  obtain ⟨hth, h5⟩ := its_set h4 (.cons (blkA_loc _ _ _) (.cons (blkA_loc _ _ _) (.cons (mpA_loc _ _) hl))) i hi t
  clear h3 h4
  refine steps_end ?_
  refine walkZ_done rfl rfl (fun K hK => ?_)
  refine wp_store_mid 51 _ _ rfl gi (i * 5) #[.int .i64 t.run, .int .i64 t.kind, .int .i64 t.id, .int .i64 t.due, .int .u64 t.seq] rfl rfl hth itemSize (by simp [Value.oneCell']) ?_
  refine hK _ _ ?_
  clear hK K hth
  try simp only [Act.put, List.setIfInBounds_toArray, List.set_cons_succ, List.set_cons_zero]
  go_upto_region 2 with fail
  refine gen_world' (fun X => Has w X (itsA full (.slice (some ⟨gi, 0, none⟩) n c) (xs.set i t) :: blkA gb 51 #[.int .i64 t.run, .int .i64 t.kind, .int .i64 t.id, .int .i64 t.due, .int .u64 t.seq] :: blkA g T #[.slice (some ⟨gi, 0, none⟩) n c, .map (some mb), .int .u64 seq] :: mpA (.map (some mb)) m :: ps)) h5 ?_
  clear h5
  intro w4 h5
  have e0 : ∀ x : Of (fun X => Blk X g T #[.slice (some ⟨gi, 0, none⟩) n c, .map (some mb), .int .u64 seq] ∧ Blk X gb 51 #[.int .i64 t.run, .int .i64 t.kind, .int .i64 t.id, .int .i64 t.due, .int .u64 t.seq]), x.val.cell? ⟨g, 0, none⟩ = some (.slice (some ⟨gi, 0, none⟩) n c) := fun x => Blk.cell x.property.1 0
  have e1 : ∀ x : Of (fun X => Blk X g T #[.slice (some ⟨gi, 0, none⟩) n c, .map (some mb), .int .u64 seq] ∧ Blk X gb 51 #[.int .i64 t.run, .int .i64 t.kind, .int .i64 t.id, .int .i64 t.due, .int .u64 t.seq]), x.val.cell? ⟨g, 1, none⟩ = some (.map (some mb)) := fun x => Blk.cell x.property.1 1
  have hB5 : Locs (itsA full (.slice (some ⟨gi, 0, none⟩) n c) (xs.set i t) :: blkA gb 51 #[.int .i64 t.run, .int .i64 t.kind, .int .i64 t.id, .int .i64 t.due, .int .u64 t.seq] :: blkA g T #[.slice (some ⟨gi, 0, none⟩) n c, .map (some mb), .int .u64 seq] :: mpA (.map (some mb)) m :: ps) := .cons (itsA_loc _ _ _) (.cons (blkA_loc _ _ _) (.cons (blkA_loc _ _ _) (.cons (mpA_loc _ _) hl)))
  have hFd := (⟨h5.drop.drop.blk0, h5.drop.blk0⟩ : Blk w4.drew g T _ ∧ Blk w4.drew gb 51 _)
  have hne_ : Nonempty (Of ((fun X => Blk X g T #[.slice (some ⟨gi, 0, none⟩) n c, .map (some mb), .int .u64 seq] ∧ Blk X gb 51 #[.int .i64 t.run, .int .i64 t.kind, .int .i64 t.id, .int .i64 t.due, .int .u64 t.seq]))) := ⟨⟨_, hFd⟩⟩
  refine region_planZ 7 (.seg [0,1,2,3,4,5,6] [true,true,true,true,true,true,true] .done) ((fun X => Blk X g T #[.slice (some ⟨gi, 0, none⟩) n c, .map (some mb), .int .u64 seq] ∧ Blk X gb 51 #[.int .i64 t.run, .int .i64 t.kind, .int .i64 t.id, .int .i64 t.due, .int .u64 t.seq])) (by kernel_rfl) (by kernel_rfl) hFd ?_
  refine walkZ_seg ?_
  simp only [List.filterMap_cons, List.filterMap_nil, List.getElem?_cons_zero, List.getElem?_cons_succ]
  have h6 := h5.ext hB5 (Ext.refl w4).drew
  clear h5 hFd
  generalize World.drew w4 = w5 at *
  refine steps_quiet 5 (by kernel_rfl) ?_
  simp only [List.take_succ_cons, List.take_zero, List.drop_succ_cons, List.drop_zero]
  repeat (go_big_quiet_step (fail))
  refine wpQuiet_nil ?_
  refine steps_load_mid rfl _ _ rfl gb 0 rfl [.int .i64 ((It.key t)).1, .int .i64 ((It.key t)).2.1, .int .i64 ((It.key t)).2.2] _ (fun X hX => range_take (cs := [.int .i64 t.run, .int .i64 t.kind, .int .i64 t.id]) (ds := [.int .i64 t.due, .int .u64 t.seq]) (blk_range (cs := t.cells) hX.2)) Tryd.underlying41 rfl keySize ?_
  (try simp only [Act.put, List.setIfInBounds_toArray, List.set_cons_succ, List.set_cons_zero, It.key])
  refine steps_quiet 1 (by kernel_rfl) ?_
  simp only [List.take_succ_cons, List.take_zero, List.drop_succ_cons, List.drop_zero]
  repeat (go_big_quiet_step (fail))
  refine wpQuiet_nil ?_
  have h7 := h6.pick (l := [_, _, _, _]) (ps := ps) [3, 2, 0, 1] (by rfl)
  obtain ⟨w6, hrun, h8⟩ := mp_put h7 (.cons (blkA_loc _ _ _) (.cons (itsA_loc _ _ _) (.cons (blkA_loc _ _ _) hl))) ht.key i
  have hrunK : (Instr.mapUpdate 24 (.map (some mb)) (.agg #[.int .i64 t.run, .int .i64 t.kind, .int .i64 t.id]) (.int .i64 (i : Int))).run Tryd.prog w5 = .ok () w6 := hrun
  clear h6 h7 hrun
  refine steps_end ?_
  refine walkZ_done rfl rfl (fun K hK => ?_)
  go_simp
  refine hK _ _ ?_
  clear hK K
  try simp only [Act.put, List.setIfInBounds_toArray, List.set_cons_succ, List.set_cons_zero]
  clear hrunK
  go_wp2_with fail
  go_end0
  refine ⟨rfl, ?_⟩
  have h9 := h8.pick (l := [_, _, _, _]) (ps := ps) [1, 2, 0, 3] (by rfl)
  exact ((h9.perm (List.perm_append_comm (l₁ := [_, _, _]) (l₂ := _ :: ps))).drop.perm (List.perm_append_comm (l₁ := ps) (l₂ := [_, _, _])))
end Go.Proofs.YtnbdcdeidhhgoaaDoor
