/- The timers' queue: an event of a run's history. -/
import Derived.Test.YtnbdcdeidhhgoaaDoorHPut
namespace Go.Proofs.YtnbdcdeidhhgoaaDoor
set_option maxRecDepth 4000
set_option linter.unusedVariables false
set_option linter.unusedSimpArgs false
open Go Go.RowKit Go.Sort
theorem saturate_any (w : World) (now t : Int) (h1 : 0 ≤ now) (h2 : 0 ≤ t) (h3 : now ≤ 4294967296) (h4 : t ≤ 4294967296) : Calls Tryd.prog 12 #[.int .i64 now, .int .i64 t] w fun e w' => e = .returned (.int .i64 (now + t)) ∧ w = w' := by
  have g1 : ¬ now < 0 := by omega
  have g2 : ¬ t < 0 := by omega
  have g3 : ¬ (4611686018427387903 : Int) ≤ now := by omega
  have g4 : ¬ (4611686018427387903 : Int) - now < t := by omega
  go_enter Tryd.func12, Tryd.ntmps12
  go_wp2_with fail
  go_ret
  exact ⟨rfl, rfl⟩
theorem closes_any (w : World) (id tm kd a b : Int) (h : kd < 16) : Calls Tryd.prog 13 #[.agg #[.int .i64 id, .int .i64 tm, .int .i64 kd, .int .i64 a, .int .i64 b, .string ⟨#[]⟩, .string ⟨#[]⟩, .int .i64 0, .int .i64 0, .string ⟨#[]⟩, .slice none 0 0]] w fun e w' => e = .returned (.bool false) ∧ Ext w w' := by
  have g1 : ¬ (16 : Int) ≤ kd := by omega
  go_enter Tryd.func13, Tryd.ntmps13
  go_wp2_with fail
  go_ret
  exact ⟨rfl, ext_alloc _ _⟩
theorem key_build (X : World) (r k i : Int) : (Instr.build 41 #[(0, .int .i64 r), (1, .int .i64 k), (2, .int .i64 i)]).run Tryd.prog X = .ok (.agg #[.int .i64 r, .int .i64 k, .int .i64 i]) X := by kernel_rfl
theorem key_build2 (X : World) (r k : Int) : (Instr.build 41 #[(0, .int .i64 r), (1, .int .i64 k)]).run Tryd.prog X = .ok (.agg #[.int .i64 r, .int .i64 k, .int .i64 0]) X := by kernel_rfl
theorem key_build3 (X : World) (r i : Int) : (Instr.build 41 #[(0, .int .i64 r), (2, .int .i64 i)]).run Tryd.prog X = .ok (.agg #[.int .i64 r, .int .i64 0, .int .i64 i]) X := by kernel_rfl
def ApOut (w W' : World) (g : Nat) (T : TypeId) (seq : Nat) (xs : List It) (m : HK → Option Nat) (x : It) (ps : List Asr) (e : Ending) : Prop := PutOut w W' g T seq xs m x ps e
set_option maxHeartbeats 4000000 in
theorem apply_start {w W : World} {g : Nat} {T : TypeId} {full : Bool} {v mv : Value} {seq : Nat} {xs : List It} {m : HK → Option Nat} {ps : List Asr}
    (h : Has w W (hpL g T full v mv seq xs m ps)) (hl : Locs ps) (hfull : full = true) (hok : ∀ t ∈ xs, t.Ok) (run a b : Int) (hk : KeyOk (run, 1, a)) (hm : m (run, 1, a) = none) (hd1 : -9223372036854775808 ≤ b) (hd2 : b ≤ 9223372036854775807) (hs : seq + 1 < 18446744073709551616) (hx : xs.length < 1000) :
    Calls Tryd.prog 4 #[.pointer (some ⟨g, 0, none⟩), .int .i64 run, .agg #[.int .i64 0, .int .i64 0, .int .i64 11, .int .i64 a, .int .i64 b, .string ⟨#[]⟩, .string ⟨#[]⟩, .int .i64 0, .int .i64 0, .string ⟨#[]⟩, .slice none 0 0]] W fun e W' => PutOut w W' g T seq xs m (PutX (run, 1, a) b seq) ps e := by
  have LH : Locs (hpL g T full v mv seq xs m ps) := hpL_locs hl
  have HM := Lib.hid hm
  have HF := Lib.hid hfull
  clear hm hfull
  go_enter Tryd.func4, Tryd.ntmps4
  have h1 := h.new LH 36 #[.int .i64 0, .int .i64 0, .int .i64 11, .int .i64 a, .int .i64 b, .string ⟨#[]⟩, .string ⟨#[]⟩, .int .i64 0, .int .i64 0, .string ⟨#[]⟩, .slice none 0 0]
  go_upto_region 1 with fail
  refine gen_world' (fun X => Has w X (blkA W.heap.size 36 #[.int .i64 0, .int .i64 0, .int .i64 11, .int .i64 a, .int .i64 b, .string ⟨#[]⟩, .string ⟨#[]⟩, .int .i64 0, .int .i64 0, .string ⟨#[]⟩, .slice none 0 0] :: hpL g T full v mv seq xs m ps)) h1 ?_
  clear h h1
  generalize W.heap.size = ge at *
  intro w1 h1
  have hbe := h1.blk0
  have c3 := hbe.cell 3
  simp only [List.getElem?_toArray, List.getElem?_cons_zero, List.getElem?_cons_succ] at c3
  have hkb := fun X => key_build X run 1 a
  have h2 := h1.new (.cons (blkA_loc _ _ _) LH) 41 #[.int .i64 run, .int .i64 1, .int .i64 a]
  go_upto_region 2 with fail
  refine gen_world' (fun X => Has w X (blkA w1.heap.size 41 #[.int .i64 run, .int .i64 1, .int .i64 a] :: blkA ge 36 #[.int .i64 0, .int .i64 0, .int .i64 11, .int .i64 a, .int .i64 b, .string ⟨#[]⟩, .string ⟨#[]⟩, .int .i64 0, .int .i64 0, .string ⟨#[]⟩, .slice none 0 0] :: hpL g T full v mv seq xs m ps)) h2 ?_
  clear h1 h2 hbe c3 hkb
  generalize w1.heap.size = gk at *
  intro w2 h2
  have hbe := h2.drop.blk0
  have c1 := hbe.cell 1
  have c2 := hbe.cell 2
  have c3 := hbe.cell 3
  have c4 := hbe.cell 4
  simp only [List.getElem?_toArray, List.getElem?_cons_zero, List.getElem?_cons_succ] at c1 c2 c3 c4
  have LB : ∀ {full : Bool} {v mv : Value} {seq : Nat} {ys : List It} {m : HK → Option Nat}, Locs (blkA gk 41 #[.int .i64 run, .int .i64 1, .int .i64 a] :: blkA ge 36 #[.int .i64 0, .int .i64 0, .int .i64 11, .int .i64 a, .int .i64 b, .string ⟨#[]⟩, .string ⟨#[]⟩, .int .i64 0, .int .i64 0, .string ⟨#[]⟩, .slice none 0 0] :: hpL g T full v mv seq ys m ps) := .cons (blkA_loc _ _ _) (.cons (blkA_loc _ _ _) (hpL_locs hl))
  go_upto_region 7 with fail
  clear c1 c2 c3 c4
  have h3 := h2.ext LB (Ext.refl w2).drew
  have e4 : ∀ z : Of (fun X => Blk X gk 41 #[.int .i64 run, .int .i64 1, .int .i64 a] ∧ Blk X ge 36 #[.int .i64 0, .int .i64 0, .int .i64 11, .int .i64 a, .int .i64 b, .string ⟨#[]⟩, .string ⟨#[]⟩, .int .i64 0, .int .i64 0, .string ⟨#[]⟩, .slice none 0 0]), z.val.cell? ⟨ge, 4, none⟩ = some (.int .i64 b) := fun z => Blk.cell z.property.2 4
  have hFd := (⟨h3.blk0, h3.drop.blk0⟩ : Blk w2.drew gk 41 _ ∧ Blk w2.drew ge 36 _)
  have hne_ : Nonempty (Of ((fun X => Blk X gk 41 #[.int .i64 run, .int .i64 1, .int .i64 a] ∧ Blk X ge 36 #[.int .i64 0, .int .i64 0, .int .i64 11, .int .i64 a, .int .i64 b, .string ⟨#[]⟩, .string ⟨#[]⟩, .int .i64 0, .int .i64 0, .string ⟨#[]⟩, .slice none 0 0]))) := ⟨⟨_, hFd⟩⟩
  refine region_steps [0,1,2,3,4,5,6,7] [true,true,true,true,true,true,false,true] ((fun X => Blk X gk 41 #[.int .i64 run, .int .i64 1, .int .i64 a] ∧ Blk X ge 36 #[.int .i64 0, .int .i64 0, .int .i64 11, .int .i64 a, .int .i64 b, .string ⟨#[]⟩, .string ⟨#[]⟩, .int .i64 0, .int .i64 0, .string ⟨#[]⟩, .slice none 0 0])) (by kernel_rfl) (by kernel_rfl) hFd ?_
  simp only [List.filterMap_cons, List.filterMap_nil, List.getElem?_cons_zero, List.getElem?_cons_succ]
  clear h2 hbe
  generalize World.drew w2 = w3 at *
  refine steps_quiet 3 (by kernel_rfl) ?_
  simp only [List.take_succ_cons, List.take_zero, List.drop_succ_cons, List.drop_zero]
  repeat (go_big_quiet_step (fail))
  refine wpQuiet_nil ?_
  refine steps_load_mid rfl _ _ rfl gk 0 rfl [.int .i64 run, .int .i64 1, .int .i64 a] _ (fun X hX => blk_range (cs := [.int .i64 run, .int .i64 1, .int .i64 a]) hX.1) Tryd.underlying41 rfl keySize ?_
  (try simp only [Act.put, List.setIfInBounds_toArray, List.set_cons_succ, List.set_cons_zero])
  refine steps_quiet 2 (by kernel_rfl) ?_
  simp only [List.take_succ_cons, List.take_zero, List.drop_succ_cons, List.drop_zero]
  repeat (go_big_quiet_step (fail))
  refine wpQuiet_nil ?_
  refine steps_want rfl (fun K hK => ?_)
  go_simp
  have h4 := h3.pick (l := [_, _, _, _, _]) (ps := ps) [2, 3, 4, 0, 1] (by rfl)
  have hf := HF.out
  rw [hf] at h4
  refine (put_any h4 (.cons (blkA_loc _ _ _) (.cons (blkA_loc _ _ _) hl)) hok (run, 1, a) hk HM.out b hd1 hd2 hs hx).mono ?_
  clear h3 h4 hFd e4 hf
  rintro e w4 ⟨gi, c, mb, rfl, h5⟩
  have h6 := h5.pick (l := [_, _, _, _, _]) (ps := ps) [3, 4, 0, 1, 2] (by rfl)
  refine hK _ _ (fun X => Blk X gk 41 #[.int .i64 run, .int .i64 1, .int .i64 a] ∧ Blk X ge 36 #[.int .i64 0, .int .i64 0, .int .i64 11, .int .i64 a, .int .i64 b, .string ⟨#[]⟩, .string ⟨#[]⟩, .int .i64 0, .int .i64 0, .string ⟨#[]⟩, .slice none 0 0]) ⟨h6.blk0, h6.drop.blk0⟩ (fun _ h => h) ?_
  clear hK K
  (try simp only [Act.put, List.setIfInBounds_toArray, List.set_cons_succ, List.set_cons_zero])
  refine steps_quiet 1 (by kernel_rfl) ?_
  simp only [List.take_succ_cons, List.take_zero, List.drop_succ_cons, List.drop_zero]
  repeat (go_big_quiet_step (fail))
  refine wpQuiet_nil ?_
  refine steps_nil ?_
  go_wp2_with fail
  go_ret
  exact ⟨gi, c, mb, rfl, h6.drop.drop⟩
set_option maxHeartbeats 4000000 in
theorem apply_begin {w W : World} {g : Nat} {T : TypeId} {full : Bool} {v mv : Value} {seq : Nat} {xs : List It} {m : HK → Option Nat} {ps : List Asr}
    (h : Has w W (hpL g T full v mv seq xs m ps)) (hl : Locs ps) (hfull : full = true) (hok : ∀ t ∈ xs, t.Ok) (run a : Int) (ha1 : 0 < a) (ha2 : a ≤ 4294967296) (hk : KeyOk (run, 2, 0)) (hm : m (run, 2, 0) = none) (hs : seq + 1 < 18446744073709551616) (hx : xs.length < 1000) :
    Calls Tryd.prog 4 #[.pointer (some ⟨g, 0, none⟩), .int .i64 run, .agg #[.int .i64 1, .int .i64 0, .int .i64 1, .int .i64 a, .int .i64 0, .string ⟨#[]⟩, .string ⟨#[]⟩, .int .i64 0, .int .i64 0, .string ⟨#[]⟩, .slice none 0 0]] W fun e W' => PutOut w W' g T seq xs m (PutX (run, 2, 0) a seq) ps e := by
  have LH : Locs (hpL g T full v mv seq xs m ps) := hpL_locs hl
  have HM := Lib.hid hm
  have HF := Lib.hid hfull
  clear hm hfull
  go_enter Tryd.func4, Tryd.ntmps4
  have h1 := h.new LH 36 #[.int .i64 1, .int .i64 0, .int .i64 1, .int .i64 a, .int .i64 0, .string ⟨#[]⟩, .string ⟨#[]⟩, .int .i64 0, .int .i64 0, .string ⟨#[]⟩, .slice none 0 0]
  go_upto_region 1 with fail
  refine gen_world' (fun X => Has w X (blkA W.heap.size 36 #[.int .i64 1, .int .i64 0, .int .i64 1, .int .i64 a, .int .i64 0, .string ⟨#[]⟩, .string ⟨#[]⟩, .int .i64 0, .int .i64 0, .string ⟨#[]⟩, .slice none 0 0] :: hpL g T full v mv seq xs m ps)) h1 ?_
  clear h h1
  generalize W.heap.size = ge at *
  intro w1 h1
  have hbe := h1.blk0
  have c3 := hbe.cell 3
  simp only [List.getElem?_toArray, List.getElem?_cons_zero, List.getElem?_cons_succ] at c3
  have hkb := fun X => key_build X run 1 a
  have h2 := h1.new (.cons (blkA_loc _ _ _) LH) 41 #[.int .i64 run, .int .i64 1, .int .i64 a]
  go_upto_region 2 with fail
  refine gen_world' (fun X => Has w X (blkA w1.heap.size 41 #[.int .i64 run, .int .i64 1, .int .i64 a] :: blkA ge 36 #[.int .i64 1, .int .i64 0, .int .i64 1, .int .i64 a, .int .i64 0, .string ⟨#[]⟩, .string ⟨#[]⟩, .int .i64 0, .int .i64 0, .string ⟨#[]⟩, .slice none 0 0] :: hpL g T full v mv seq xs m ps)) h2 ?_
  clear h1 h2 hbe c3 hkb
  generalize w1.heap.size = gk at *
  intro w2 h2
  have hbe := h2.drop.blk0
  have c1 := hbe.cell 1
  have c2 := hbe.cell 2
  have c3 := hbe.cell 3
  have c4 := hbe.cell 4
  simp only [List.getElem?_toArray, List.getElem?_cons_zero, List.getElem?_cons_succ] at c1 c2 c3 c4
  have LB : ∀ {full : Bool} {v mv : Value} {seq : Nat} {ys : List It} {m : HK → Option Nat}, Locs (blkA gk 41 #[.int .i64 run, .int .i64 1, .int .i64 a] :: blkA ge 36 #[.int .i64 1, .int .i64 0, .int .i64 1, .int .i64 a, .int .i64 0, .string ⟨#[]⟩, .string ⟨#[]⟩, .int .i64 0, .int .i64 0, .string ⟨#[]⟩, .slice none 0 0] :: hpL g T full v mv seq ys m ps) := .cons (blkA_loc _ _ _) (.cons (blkA_loc _ _ _) (hpL_locs hl))
  go_upto_region 5 with fail
  clear c1 c2 c3 c4
  have h3 := h2.ext LB (Ext.refl w2).drew
  have e1 : ∀ z : Of (fun X => Blk X ge 36 #[.int .i64 1, .int .i64 0, .int .i64 1, .int .i64 a, .int .i64 0, .string ⟨#[]⟩, .string ⟨#[]⟩, .int .i64 0, .int .i64 0, .string ⟨#[]⟩, .slice none 0 0]), z.val.cell? ⟨ge, 1, none⟩ = some (.int .i64 0) := fun z => Blk.cell z.property 1
  have e3 : ∀ z : Of (fun X => Blk X ge 36 #[.int .i64 1, .int .i64 0, .int .i64 1, .int .i64 a, .int .i64 0, .string ⟨#[]⟩, .string ⟨#[]⟩, .int .i64 0, .int .i64 0, .string ⟨#[]⟩, .slice none 0 0]), z.val.cell? ⟨ge, 3, none⟩ = some (.int .i64 a) := fun z => Blk.cell z.property 3
  have hkb := fun X => key_build2 X run 2
  have hFd := (show Blk w2.drew ge 36 _ from h3.drop.blk0)
  have hne_ : Nonempty (Of ((fun X => Blk X ge 36 #[.int .i64 1, .int .i64 0, .int .i64 1, .int .i64 a, .int .i64 0, .string ⟨#[]⟩, .string ⟨#[]⟩, .int .i64 0, .int .i64 0, .string ⟨#[]⟩, .slice none 0 0]))) := ⟨⟨_, hFd⟩⟩
  refine region_steps [0,1,2,3,4,5,6,7,8,9,10,11] [true,true,true,true,true,true,true,true,true,false,false,true] ((fun X => Blk X ge 36 #[.int .i64 1, .int .i64 0, .int .i64 1, .int .i64 a, .int .i64 0, .string ⟨#[]⟩, .string ⟨#[]⟩, .int .i64 0, .int .i64 0, .string ⟨#[]⟩, .slice none 0 0])) (by kernel_rfl) (by kernel_rfl) hFd ?_
  simp only [List.filterMap_cons, List.filterMap_nil, List.getElem?_cons_zero, List.getElem?_cons_succ]
  clear h2 hbe
  generalize World.drew w2 = w3 at *
  refine steps_quiet 9 (by kernel_rfl) ?_
  simp only [List.take_succ_cons, List.take_zero, List.drop_succ_cons, List.drop_zero]
  repeat (go_big_quiet_step (fail))
  refine wpQuiet_nil ?_
  refine steps_want rfl (fun K hK => ?_)
  go_simp
  refine (saturate_any w3 0 a (by omega) (by omega) (by omega) ha2).mono ?_
  rintro e _ ⟨rfl, rfl⟩
  rw [Int.zero_add]
  refine hK _ _ (fun X => Blk X ge 36 #[.int .i64 1, .int .i64 0, .int .i64 1, .int .i64 a, .int .i64 0, .string ⟨#[]⟩, .string ⟨#[]⟩, .int .i64 0, .int .i64 0, .string ⟨#[]⟩, .slice none 0 0]) hFd (fun _ h => h) ?_
  clear hK K hkb
  (try simp only [Act.put, List.setIfInBounds_toArray, List.set_cons_succ, List.set_cons_zero])
  refine steps_want rfl (fun K hK => ?_)
  go_simp
  have h4 := h3.pick (l := [_, _, _, _, _]) (ps := ps) [2, 3, 4, 0, 1] (by rfl)
  have hf := HF.out
  rw [hf] at h4
  refine (put_any h4 (.cons (blkA_loc _ _ _) (.cons (blkA_loc _ _ _) hl)) hok (run, 2, 0) hk HM.out a (by omega) (by omega) hs hx).mono ?_
  clear h3 h4 hFd e1 e3 hf
  rintro e w4 ⟨gi, c, mb, rfl, h5⟩
  have h6 := h5.pick (l := [_, _, _, _, _]) (ps := ps) [3, 4, 0, 1, 2] (by rfl)
  refine hK _ _ (fun X => Blk X ge 36 #[.int .i64 1, .int .i64 0, .int .i64 1, .int .i64 a, .int .i64 0, .string ⟨#[]⟩, .string ⟨#[]⟩, .int .i64 0, .int .i64 0, .string ⟨#[]⟩, .slice none 0 0]) h6.drop.blk0 (fun _ h => h) ?_
  clear hK K
  (try simp only [Act.put, List.setIfInBounds_toArray, List.set_cons_succ, List.set_cons_zero])
  refine steps_quiet 1 (by kernel_rfl) ?_
  simp only [List.take_succ_cons, List.take_zero, List.drop_succ_cons, List.drop_zero]
  repeat (go_big_quiet_step (fail))
  refine wpQuiet_nil ?_
  refine steps_nil ?_
  go_wp2_with fail
  go_ret
  exact ⟨gi, c, mb, rfl, h6.drop.drop⟩
theorem Has.setCells {w W : World} {g : Nat} {T : TypeId} {cs : Array Value} {ps : List Asr} (h : Has w W (blkA g T cs :: ps)) (hl : Locs ps) (o : Nat) (vs : List Value) : Has w (W.setCells g o vs) (blkA g T (setL cs o vs) :: ps) :=
  h.next hl fun F hF => by
    obtain ⟨hb, rfl⟩ := hF
    exact ⟨_, ⟨Blk.setCells _ _ _ _ hb, rfl⟩, Tch.setCells (S := fun k => k = g) rfl _ _ _ (Tch.refl _ _), fun k hk => Or.inl hk⟩
theorem blk_there {W : World} {g n : Nat} {T : TypeId} {cs : Array Value} (h : Blk W g T cs) (hn : n ≤ cs.size) : W.there g 0 n := fun j hj =>
  ⟨by rw [Blk.cell h, Nat.zero_add, Array.getElem?_eq_getElem (by omega)]; rfl, Blk.frozen h _⟩
set_option maxHeartbeats 4000000 in
theorem apply_fired {w W : World} {g : Nat} {T : TypeId} {full : Bool} {gi n c mb seq : Nat} {xs : List It} {m : HK → Option Nat} {ps : List Asr}
    (h : Has w W (hpL g T full (.slice (some ⟨gi, 0, none⟩) n c) (.map (some mb)) seq xs m ps)) (hl : Locs ps) (hn : xs.length = n) (hok : ∀ t ∈ xs, t.Ok) (hP : Pos xs m) (run a tm : Int) (hk : KeyOk (run, 1, a)) (i : Nat) (hm : m (run, 1, a) = some i) (hn20 : n ≤ 1000000) :
    Calls Tryd.prog 4 #[.pointer (some ⟨g, 0, none⟩), .int .i64 run, .agg #[.int .i64 0, .int .i64 tm, .int .i64 12, .int .i64 a, .int .i64 0, .string ⟨#[]⟩, .string ⟨#[]⟩, .int .i64 0, .int .i64 0, .string ⟨#[]⟩, .slice none 0 0]] W fun e W' =>
      e = .returned (.int .i64 0) ∧ Has w W' (hpL g T false (.slice (some ⟨gi, 0, none⟩) (n - 1) (n - 1)) (.map (some mb)) seq (takeS xs m i).1 (takeS xs m i).2 ps) := by
  generalize hvv : Value.slice (some ⟨gi, 0, none⟩) n c = v at h
  generalize hmvv : Value.map (some mb) = mv at h
  have LH : Locs (hpL g T full v mv seq xs m ps) := hpL_locs hl
  have HM := Lib.hid hm
  have HV := Lib.hid hvv
  have HMV := Lib.hid hmvv
  have HN := Lib.hid hn
  clear hm hvv hmvv hn
  go_enter Tryd.func4, Tryd.ntmps4
  have h1 := h.new LH 36 #[.int .i64 0, .int .i64 tm, .int .i64 12, .int .i64 a, .int .i64 0, .string ⟨#[]⟩, .string ⟨#[]⟩, .int .i64 0, .int .i64 0, .string ⟨#[]⟩, .slice none 0 0]
  go_upto_region 1 with fail
  refine gen_world' (fun X => Has w X (blkA W.heap.size 36 #[.int .i64 0, .int .i64 tm, .int .i64 12, .int .i64 a, .int .i64 0, .string ⟨#[]⟩, .string ⟨#[]⟩, .int .i64 0, .int .i64 0, .string ⟨#[]⟩, .slice none 0 0] :: hpL g T full v mv seq xs m ps)) h1 ?_
  clear h h1
  generalize W.heap.size = ge at *
  intro w1 h1
  have hbe := h1.blk0
  have c3 := hbe.cell 3
  simp only [List.getElem?_toArray, List.getElem?_cons_zero, List.getElem?_cons_succ] at c3
  have hkb := fun X => key_build X run 1 a
  have h2 := h1.new (.cons (blkA_loc _ _ _) LH) 41 #[.int .i64 run, .int .i64 1, .int .i64 a]
  go_upto_region 2 with fail
  refine gen_world' (fun X => Has w X (blkA w1.heap.size 41 #[.int .i64 run, .int .i64 1, .int .i64 a] :: blkA ge 36 #[.int .i64 0, .int .i64 tm, .int .i64 12, .int .i64 a, .int .i64 0, .string ⟨#[]⟩, .string ⟨#[]⟩, .int .i64 0, .int .i64 0, .string ⟨#[]⟩, .slice none 0 0] :: hpL g T full v mv seq xs m ps)) h2 ?_
  clear h1 h2 hbe c3 hkb
  generalize w1.heap.size = gk at *
  intro w2 h2
  have hbe := h2.drop.blk0
  have c1 := hbe.cell 1
  have c2 := hbe.cell 2
  have c3 := hbe.cell 3
  have c4 := hbe.cell 4
  simp only [List.getElem?_toArray, List.getElem?_cons_zero, List.getElem?_cons_succ] at c1 c2 c3 c4
  have LB : ∀ {full : Bool} {v mv : Value} {seq : Nat} {ys : List It} {m : HK → Option Nat}, Locs (blkA gk 41 #[.int .i64 run, .int .i64 1, .int .i64 a] :: blkA ge 36 #[.int .i64 0, .int .i64 tm, .int .i64 12, .int .i64 a, .int .i64 0, .string ⟨#[]⟩, .string ⟨#[]⟩, .int .i64 0, .int .i64 0, .string ⟨#[]⟩, .slice none 0 0] :: hpL g T full v mv seq ys m ps) := .cons (blkA_loc _ _ _) (.cons (blkA_loc _ _ _) (hpL_locs hl))
  go_upto_region 10 with fail
  clear c1 c2 c3 c4
  have h3 := h2.ext LB (Ext.refl w2).drew
  have hFd := (⟨h3.blk0, h3.drop.blk0⟩ : Blk w2.drew gk 41 _ ∧ Blk w2.drew ge 36 _)
  have hne_ : Nonempty (Of ((fun X => Blk X gk 41 #[.int .i64 run, .int .i64 1, .int .i64 a] ∧ Blk X ge 36 #[.int .i64 0, .int .i64 tm, .int .i64 12, .int .i64 a, .int .i64 0, .string ⟨#[]⟩, .string ⟨#[]⟩, .int .i64 0, .int .i64 0, .string ⟨#[]⟩, .slice none 0 0]))) := ⟨⟨_, hFd⟩⟩
  refine region_plan (.seg [0,1,2,3] [true,true,true,true] (.fork 4 (.seg [5,6,7,8,9,10] [true,true,true,false,false,true] .done) 8 (.seg [4,5,6,7,9,10] [false,true,true,true,false,true] .done))) ((fun X => Blk X gk 41 #[.int .i64 run, .int .i64 1, .int .i64 a] ∧ Blk X ge 36 #[.int .i64 0, .int .i64 tm, .int .i64 12, .int .i64 a, .int .i64 0, .string ⟨#[]⟩, .string ⟨#[]⟩, .int .i64 0, .int .i64 0, .string ⟨#[]⟩, .slice none 0 0])) (by kernel_rfl) (by kernel_rfl) hFd ?_
  clear h2 hbe
  generalize World.drew w2 = w3 at *
  refine walkP_seg ?_
  simp only [List.filterMap_cons, List.filterMap_nil, List.getElem?_cons_zero, List.getElem?_cons_succ]
  refine steps_quiet 3 (by kernel_rfl) ?_
  simp only [List.take_succ_cons, List.take_zero, List.drop_succ_cons, List.drop_zero]
  repeat (go_big_quiet_step (fail))
  refine wpQuiet_nil ?_
  refine steps_load_mid rfl _ _ rfl gk 0 rfl [.int .i64 run, .int .i64 1, .int .i64 a] _ (fun X hX => blk_range (cs := [.int .i64 run, .int .i64 1, .int .i64 a]) hX.1) Tryd.underlying41 rfl keySize ?_
  (try simp only [Act.put, List.setIfInBounds_toArray, List.set_cons_succ, List.set_cons_zero])
  refine steps_end ?_
  refine walkP_fork ?_ ?_
  all_goals simp only [List.filterMap_cons, List.filterMap_nil, List.getElem?_cons_zero, List.getElem?_cons_succ]
  · refine steps_want rfl (fun K hK => ?_)
    go_simp
    have h4 := h3.pick (l := [_, _, _, _, _]) (ps := ps) [2, 3, 4, 0, 1] (by rfl)
    rw [← HV.out, ← HMV.out] at h4
    refine (cancel_yes h4 (.cons (blkA_loc _ _ _) (.cons (blkA_loc _ _ _) hl)) HN.out hok hP (run, 1, a) hk i HM.out hn20).mono ?_
    clear h3 h4 hFd
    rintro e w4 ⟨rfl, h5⟩
    have h6 := h5.pick (l := [_, _, _, _, _]) (ps := ps) [3, 4, 0, 1, 2] (by rfl)
    clear h5
    refine hK _ _ (fun X => Blk X gk 41 #[.int .i64 run, .int .i64 1, .int .i64 a] ∧ Blk X ge 36 #[.int .i64 0, .int .i64 tm, .int .i64 12, .int .i64 a, .int .i64 0, .string ⟨#[]⟩, .string ⟨#[]⟩, .int .i64 0, .int .i64 0, .string ⟨#[]⟩, .slice none 0 0]) ⟨h6.blk0, h6.drop.blk0⟩ (fun _ h => h) ?_
    clear hK K
    (try simp only [Act.put, List.setIfInBounds_toArray, List.set_cons_succ, List.set_cons_zero])
    refine steps_end ?_
    refine walkP_seg ?_
    simp only [List.filterMap_cons, List.filterMap_nil, List.getElem?_cons_zero, List.getElem?_cons_succ]
    refine steps_quiet 3 (by kernel_rfl) ?_
    simp only [List.take_succ_cons, List.take_zero, List.drop_succ_cons, List.drop_zero]
    repeat (go_big_quiet_step (fail))
    refine wpQuiet_nil ?_
    refine steps_want rfl (fun K hK => ?_)
    go_simp
    have h7 := h6.new LB 51 #[.int .i64 0, .int .i64 0, .int .i64 0, .int .i64 0, .int .u64 0]
    refine hK _ _ (fun X => Blk X gk 41 #[.int .i64 run, .int .i64 1, .int .i64 a] ∧ Blk X ge 36 #[.int .i64 0, .int .i64 tm, .int .i64 12, .int .i64 a, .int .i64 0, .string ⟨#[]⟩, .string ⟨#[]⟩, .int .i64 0, .int .i64 0, .string ⟨#[]⟩, .slice none 0 0]) ⟨h7.drop.blk0, h7.drop.drop.blk0⟩ (fun _ h => h) ?_
    clear hK K h6
    (try simp only [Act.put, List.setIfInBounds_toArray, List.set_cons_succ, List.set_cons_zero])
    refine steps_want rfl (fun K hK => ?_)
    have h8 := h7.setCells LB 0 (itA (gt xs i)).toList
    refine wp_store_mid 51 _ _ rfl w4.heap.size 0 (itA (gt xs i)) rfl rfl (blk_there h7.blk0 (Nat.le_refl _)) itemSize (itA_all (gt xs i)) ?_
    refine hK _ _ (fun X => Blk X gk 41 #[.int .i64 run, .int .i64 1, .int .i64 a] ∧ Blk X ge 36 #[.int .i64 0, .int .i64 tm, .int .i64 12, .int .i64 a, .int .i64 0, .string ⟨#[]⟩, .string ⟨#[]⟩, .int .i64 0, .int .i64 0, .string ⟨#[]⟩, .slice none 0 0]) ⟨h8.drop.blk0, h8.drop.drop.blk0⟩ (fun _ h => h) ?_
    clear hK K h7
    (try simp only [Act.put, List.setIfInBounds_toArray, List.set_cons_succ, List.set_cons_zero])
    generalize World.setCells _ _ _ _ = w5 at *
    refine steps_quiet 1 (by kernel_rfl) ?_
    simp only [List.take_succ_cons, List.take_zero, List.drop_succ_cons, List.drop_zero]
    repeat (go_big_quiet_step (fail))
    refine wpQuiet_nil ?_
    refine steps_end ?_
    refine walkP_done ?_
    have h9 : Has w w5 (blkA gk 41 #[.int .i64 run, .int .i64 1, .int .i64 a] :: blkA ge 36 #[.int .i64 0, .int .i64 tm, .int .i64 12, .int .i64 a, .int .i64 0, .string ⟨#[]⟩, .string ⟨#[]⟩, .int .i64 0, .int .i64 0, .string ⟨#[]⟩, .slice none 0 0] :: hpL g T false (.slice (some ⟨gi, 0, none⟩) (n - 1) (n - 1)) (.map (some mb)) seq (takeS xs m i).1 (takeS xs m i).2 ps) := h8.drop
    clear h8
    have hce := (h9).drop.blk0
    have c0 := hce.cell 0
    have c1 := hce.cell 1
    have c2 := hce.cell 2
    have c3 := hce.cell 3
    have c4 := hce.cell 4
    have c5 := hce.cell 5
    have c6 := hce.cell 6
    have c7 := hce.cell 7
    have c8 := hce.cell 8
    have c9 := hce.cell 9
    have c10 := hce.cell 10
    simp only [List.getElem?_toArray, List.getElem?_cons_zero, List.getElem?_cons_succ] at c0 c1 c2 c3 c4 c5 c6 c7 c8 c9 c10
    clear hce
    go_wp2_with fail
    refine (closes_any w5 0 tm 12 a 0 (by omega)).mono ?_
    clear c0 c1 c2 c3 c4 c5 c6 c7 c8 c9 c10
    rintro e w6 ⟨rfl, hE6⟩
    go_wp2_with fail
    go_ret
    refine ⟨rfl, ?_⟩
    rw [← HMV.out]
    exact ((h9).ext LB hE6).drop.drop
  · refine steps_want rfl (fun K hK => ?_)
    go_simp
    have h4 := h3.new LB 51 #[.int .i64 0, .int .i64 0, .int .i64 0, .int .i64 0, .int .u64 0]
    refine hK _ _ (fun X => Blk X gk 41 #[.int .i64 run, .int .i64 1, .int .i64 a] ∧ Blk X ge 36 #[.int .i64 0, .int .i64 tm, .int .i64 12, .int .i64 a, .int .i64 0, .string ⟨#[]⟩, .string ⟨#[]⟩, .int .i64 0, .int .i64 0, .string ⟨#[]⟩, .slice none 0 0]) ⟨h4.drop.blk0, h4.drop.drop.blk0⟩ (fun _ h => h) ?_
    clear hK K h3 hFd
    (try simp only [Act.put, List.setIfInBounds_toArray, List.set_cons_succ, List.set_cons_zero])
    refine steps_end ?_
    refine walkP_seg ?_
    simp only [List.filterMap_cons, List.filterMap_nil, List.getElem?_cons_zero, List.getElem?_cons_succ]
    refine steps_want rfl (fun K hK => ?_)
    go_simp
    have h5 := h4.pick (l := [_, _, _, _, _, _]) (ps := ps) [3, 4, 5, 1, 2, 0] (by rfl)
    rw [← HV.out, ← HMV.out] at h5
    refine (cancel_yes h5 (.cons (blkA_loc _ _ _) (.cons (blkA_loc _ _ _) (.cons (blkA_loc _ _ _) hl))) HN.out hok hP (run, 1, a) hk i HM.out hn20).mono ?_
    clear h4 h5
    rintro e w4 ⟨rfl, h6⟩
    have h7 := h6.pick (l := [_, _, _, _, _, _]) (ps := ps) [5, 3, 4, 0, 1, 2] (by rfl)
    clear h6
    refine hK _ _ (fun X => Blk X gk 41 #[.int .i64 run, .int .i64 1, .int .i64 a] ∧ Blk X ge 36 #[.int .i64 0, .int .i64 tm, .int .i64 12, .int .i64 a, .int .i64 0, .string ⟨#[]⟩, .string ⟨#[]⟩, .int .i64 0, .int .i64 0, .string ⟨#[]⟩, .slice none 0 0]) ⟨h7.drop.blk0, h7.drop.drop.blk0⟩ (fun _ h => h) ?_
    clear hK K
    (try simp only [Act.put, List.setIfInBounds_toArray, List.set_cons_succ, List.set_cons_zero])
    refine steps_quiet 3 (by kernel_rfl) ?_
    simp only [List.take_succ_cons, List.take_zero, List.drop_succ_cons, List.drop_zero]
    repeat (go_big_quiet_step (fail))
    refine wpQuiet_nil ?_
    refine steps_want rfl (fun K hK => ?_)
    have h8 := h7.setCells LB 0 (itA (gt xs i)).toList
    refine wp_store_mid 51 _ _ rfl w3.heap.size 0 (itA (gt xs i)) rfl rfl (blk_there h7.blk0 (Nat.le_refl _)) itemSize (itA_all (gt xs i)) ?_
    refine hK _ _ (fun X => Blk X gk 41 #[.int .i64 run, .int .i64 1, .int .i64 a] ∧ Blk X ge 36 #[.int .i64 0, .int .i64 tm, .int .i64 12, .int .i64 a, .int .i64 0, .string ⟨#[]⟩, .string ⟨#[]⟩, .int .i64 0, .int .i64 0, .string ⟨#[]⟩, .slice none 0 0]) ⟨h8.drop.blk0, h8.drop.drop.blk0⟩ (fun _ h => h) ?_
    clear hK K h7
    (try simp only [Act.put, List.setIfInBounds_toArray, List.set_cons_succ, List.set_cons_zero])
    generalize World.setCells _ _ _ _ = w5 at *
    refine steps_quiet 1 (by kernel_rfl) ?_
    simp only [List.take_succ_cons, List.take_zero, List.drop_succ_cons, List.drop_zero]
    repeat (go_big_quiet_step (fail))
    refine wpQuiet_nil ?_
    refine steps_end ?_
    refine walkP_done ?_
    have h9 : Has w w5 (blkA gk 41 #[.int .i64 run, .int .i64 1, .int .i64 a] :: blkA ge 36 #[.int .i64 0, .int .i64 tm, .int .i64 12, .int .i64 a, .int .i64 0, .string ⟨#[]⟩, .string ⟨#[]⟩, .int .i64 0, .int .i64 0, .string ⟨#[]⟩, .slice none 0 0] :: hpL g T false (.slice (some ⟨gi, 0, none⟩) (n - 1) (n - 1)) (.map (some mb)) seq (takeS xs m i).1 (takeS xs m i).2 ps) := h8.drop
    clear h8
    have hce := (h9).drop.blk0
    have c0 := hce.cell 0
    have c1 := hce.cell 1
    have c2 := hce.cell 2
    have c3 := hce.cell 3
    have c4 := hce.cell 4
    have c5 := hce.cell 5
    have c6 := hce.cell 6
    have c7 := hce.cell 7
    have c8 := hce.cell 8
    have c9 := hce.cell 9
    have c10 := hce.cell 10
    simp only [List.getElem?_toArray, List.getElem?_cons_zero, List.getElem?_cons_succ] at c0 c1 c2 c3 c4 c5 c6 c7 c8 c9 c10
    clear hce
    go_wp2_with fail
    refine (closes_any w5 0 tm 12 a 0 (by omega)).mono ?_
    clear c0 c1 c2 c3 c4 c5 c6 c7 c8 c9 c10
    rintro e w6 ⟨rfl, hE6⟩
    go_wp2_with fail
    go_ret
    refine ⟨rfl, ?_⟩
    rw [← HMV.out]
    exact ((h9).ext LB hE6).drop.drop
end Go.Proofs.YtnbdcdeidhhgoaaDoor
