/- The walk of a match's Poll. -/
import Derived.Test.YtadmfoglajhdcaaMAdd
import Derived.Laws.LoneSync
namespace Go.Proofs.Ytadmfoglajhdcaa
set_option maxRecDepth 4000
set_option linter.unusedVariables false
set_option linter.unusedSimpArgs false
open Go Go.RowKit Go.Maps Go.ChangeMaps Go.MapKept
theorem MRep.settok {W : World} {m : Nat} {s : MS} {Fq : Nat → Nat → Prop} {lv : Value} (h : MRep W m s Fq lv) (t : Int) : MStep W (W.setCell ⟨m, 0, none⟩ (.int .u64 t)) m (MFoot m Fq lv) { s with tok := t } := by
  have h' := h
  obtain ⟨⟨cs, T, b1, b2, b2', b3, b4⟩, hq, hd, hown, hol, hln, hqn⟩ := h
  have b5 := b1.set_ 0 (.int .u64 t)
  have h0 : 0 < cs.size := by have := (Array.getElem?_eq_some_iff.1 b4).1; omega
  have hne : ∀ j, j ≠ 0 → (cs.setIfInBounds 0 (.int .u64 t))[j]? = cs[j]? := fun j hj => by rw [Array.getElem?_setIfInBounds_ne (Ne.symm hj)]
  have hfar : ∀ b, b ≠ m → (W.setCell ⟨m, 0, none⟩ (.int .u64 t)).heap[b]? = W.heap[b]? := fun b hb => Below.heap_setCell _ _ _ _ hb
  refine ⟨MFoot m Fq lv, ⟨Fq, lv, ⟨⟨_, T, b5, b2, b2', by rw [Array.getElem?_setIfInBounds_self_of_lt h0], (hne 196 (by omega)).trans b4⟩, fun k hk => ?_, hd, ownsRow_same hown fun g hg => hfar g (hol g hg).1, hol, hln, hqn⟩, rfl⟩, (Tch.refl _ W).setCell (p := ⟨m, 0, none⟩) (fun _ => Or.inl rfl) _, ?_, fun b hb => Or.inl hb⟩
  · exact (hq k hk).row b1 b5 (fun i h1 h2 => hne i (by omega)) fun b hb => hfar b ((hq k hk).ne hb)
  · intro ds U hU
    have e : W.heap[m]? = _ := b1
    have e2 : W.heap[m]? = _ := hU
    rw [e] at e2
    injection e2 with e2
    injection e2 with e3 e4
    subst e3 e4
    exact ⟨_, b5, by simp, fun j hj => hne j (by omega)⟩
theorem next_any (W : World) (m : Nat) (s : MS) (F : Nat → Prop) (h : mP m s W F) (ht : 0 ≤ s.tok) (ht2 : s.tok < 18446744073709551615) :
    Calls Try.prog 26 #[.pointer (some ⟨m, 0, none⟩)] W fun e W' => e = .returned (.int .u64 (s.tok + 1)) ∧ MStep W W' m F { s with tok := s.tok + 1 } := by
  have hm := mP_m h
  obtain ⟨Fq, lv, hR, rfl⟩ := h
  have hc := hR.tok
  have hf := hR.fz 0
  have hadd := run_call_add (P := Try.prog) Try.func37 (by kernel_rfl) (by kernel_rfl) (by kernel_rfl) .u64 (by kernel_rfl) (y := 1) (s := s.tok + 1) hc hf (by simp [go_sem, IntKind.wrap, IntKind.signed, IntKind.bits, IntKind.min, IntKind.max]; omega)
  go_enter Try.func26, Try.ntmps26
  go_wp2
  go_ret
  exact ⟨rfl, hR.settok _⟩


/-- what Poll takes -/
def MS.pick (s : MS) (z kind : Int) : Option (Nat × It) := match (s.q z.toNat).find? (fun x => x.kind == kind) with
  | some x => some (z.toNat, x)
  | none => ((s.q 0).find? (fun x => x.kind == kind)).map fun x => (0, x)
def zeroL : Ls := ⟨0, 0, 0, 0, 0, 0⟩
def pollE (s : MS) (z kind : Int) : Int := if z < 1 ∨ 64 < z then 1 else if 256 ≤ s.ls.length then 3 else if (s.pick z kind).isSome = true then 0 else 4
def pollL (s : MS) (z kind now : Int) : Ls := if z < 1 ∨ 64 < z then zeroL else if 256 ≤ s.ls.length then zeroL else match s.pick z kind with
  | some (_, x) => ⟨s.tok + 1, x.run, x.kind, x.id, z, now + 20⟩
  | none => zeroL
def pollS (s : MS) (z kind now : Int) : MS := if z < 1 ∨ 64 < z then s else if 256 ≤ s.ls.length then s else match s.pick z kind with
  | some (k, x) => { s.setq k (others (s.q k) x.run x.kind x.id) with tok := s.tok + 1, ls := s.ls ++ [⟨s.tok + 1, x.run, x.kind, x.id, z, now + 20⟩] }
  | none => s
def Polled (W : World) (m : Nat) (s : MS) (F : Nat → Prop) (z kind now : Int) (e : Ending) (W' : World) : Prop :=
  e = .returned (.tuple #[lsV (pollL s z kind now), .int .i64 (pollE s z kind)]) ∧ MStep W W' m F (pollS s z kind now)
theorem results_cell2 {P : Program} {fn : Func} {p q : Tmp} {ty : TypeId} (h : fn.results = #[.cell p ty, .tmp q]) (tmps : Array Value) (w : World) (g : Nat) (t : TypeId) (cs : Array Value) (fr : Nat × Nat) (d : TypeDesc)
    (hp : tmps.getD p undef = .pointer (some ⟨g, 0, none⟩)) (hg : w.heap[g]? = some (.cells cs t fr))
    (hu : P.underlying ty = some d) (hd : (match d with | .struct _ | .array _ _ => true | _ => false) = true) (hi : (P.info? ty).map (·.size) = some cs.size) :
    (results fn tmps).run P w = .ok (.tuple #[.agg cs, tmps.getD q undef]) w := by
  have hp' : tmps[p]?.getD undef = .pointer (some ⟨g, 0, none⟩) := by simpa using hp
  simp [results, h, hp', asAddr, run_loadVar_row w g t ty cs fr d hg hu hd hi]
def lsA (l : Ls) : Array Value := #[.int .u64 l.tok, .int .i64 l.run, .int .i64 l.kind, .int .i64 l.id, .int .i64 l.worker, .int .i64 l.until_]
theorem leaseInfo : (Try.prog.info? 56).map (·.size) = some 6 := by kernel_rfl
theorem leaseInfo' (l : Ls) : (Try.prog.info? 56).map (·.size) = some (lsA l).size := leaseInfo
theorem lsA_all (l : Ls) : (lsA l).all (·.oneCell') = true := by simp [lsA, Value.oneCell']
theorem setRow_ext' {W w : World} {g : Nat} {cs : Array Value} (h : Ext W w) (hg : W.heap.size ≤ g) : Ext W (w.setRow g cs) :=
  (setRow_ext (fun _ => False) (Tch.of_ext h) hg).ext (fun _ h => h.elim)
set_option maxRecDepth 100000 in
theorem poll_range (W : World) (m : Nat) (s : MS) (F : Nat → Prop) (z kind now : Int) (h : mP m s W F) (hz : z < 1 ∨ 64 < z) :
    Calls Try.prog 8 #[.pointer (some ⟨m, 0, none⟩), .int .i64 z, .int .i64 kind, .int .i64 now] W fun e W' => Polled W m s F z kind now e W' := by
  have hE0 := ext_alloc W (.cells (lsA zeroL) 56)
  have hbr := Blk.new W 56 (lsA zeroL)
  go_enter Try.func8, Try.ntmps8
  go_wp2_with fail
  refine gen_calls (fun X => Ext W X ∧ Blk X W.heap.size 56 (lsA zeroL)) ⟨hE0, hbr⟩ ?_
  clear hE0 hbr
  rintro w ⟨hE0, hbr⟩
  obtain ⟨br, hbrn⟩ : ∃ b, b = W.heap.size := ⟨_, rfl⟩
  rw [← hbrn] at hbr ⊢
  have HBR := Lib.hid hbrn
  clear hbrn
  refine (own_no w m z hz).mono ?_
  rintro e w1 ⟨rfl, rfl⟩
  go_wp2_with (refine wpList_store_row rfl _ _ _ rfl br (lsA zeroL) rfl rfl _ _ hbr (leaseInfo' zeroL) rfl (lsA_all _) ?_)
  have hbr' := setRow_blk (cs := lsA zeroL) hbr
  go_wp2_with fail
  refine bodyPost_ret (v := .tuple #[lsV zeroL, .int .i64 1]) (results_cell2 Try.results8 _ _ br 56 (lsA zeroL) _ _ rfl hbr' Try.underlying56 rfl (leaseInfo' _)) rfl ⟨by rw [pollL, pollE, if_pos hz, if_pos hz], ?_⟩
  rw [pollS, if_pos hz]
  exact MStep.of_ext h (setRow_ext' hE0 (Nat.le_of_eq HBR.out.symm))
set_option maxRecDepth 100000 in
theorem poll_full (W : World) (m : Nat) (s : MS) (F : Nat → Prop) (z kind now : Int) (h : mP m s W F) (hz1 : 1 ≤ z) (hz2 : z ≤ 64) (hl : 256 ≤ s.ls.length) :
    Calls Try.prog 8 #[.pointer (some ⟨m, 0, none⟩), .int .i64 z, .int .i64 kind, .int .i64 now] W fun e W' => Polled W m s F z kind now e W' := by
  have hm := mP_m h
  have h' := h
  obtain ⟨Fq, lv, hR, rfl⟩ := h
  have hc := hR.lcell
  obtain ⟨pv, cv, rfl⟩ := ownsRow_slice hR.own
  have hz : ¬ (z < 1 ∨ 64 < z) := by omega
  have HZ := Lib.hid hz
  clear hz
  have hE0 := ext_alloc W (.cells (lsA zeroL) 56)
  have hbr := Blk.new W 56 (lsA zeroL)
  go_enter Try.func8, Try.ntmps8
  go_wp2_with fail
  refine gen_calls (fun X => Ext W X ∧ Blk X W.heap.size 56 (lsA zeroL)) ⟨hE0, hbr⟩ ?_
  clear hE0 hbr
  rintro w ⟨hE0, hbr⟩
  obtain ⟨br, hbrn⟩ : ∃ b, b = W.heap.size := ⟨_, rfl⟩
  rw [← hbrn] at hbr ⊢
  have HBR := Lib.hid hbrn
  clear hbrn
  have hc1 := (hE0.cell m 196 hm).trans hc
  refine (own_any w m z hz1 hz2).mono ?_
  rintro e w1 ⟨rfl, rfl⟩
  go_wp2_with (refine wpList_store_row rfl _ _ _ rfl br (lsA zeroL) rfl rfl _ _ hbr (leaseInfo' zeroL) rfl (lsA_all _) ?_)
  have hbr' := setRow_blk (cs := lsA zeroL) hbr
  go_wp2_with fail
  refine bodyPost_ret (v := .tuple #[lsV zeroL, .int .i64 3]) (results_cell2 Try.results8 _ _ br 56 (lsA zeroL) _ _ rfl hbr' Try.underlying56 rfl (leaseInfo' _)) rfl ⟨by rw [pollL, pollE, if_neg HZ.out, if_neg HZ.out, if_pos hl, if_pos hl], ?_⟩
  rw [pollS, if_neg HZ.out, if_pos hl]
  exact MStep.of_ext h' (setRow_ext' hE0 (Nat.le_of_eq HBR.out.symm))


theorem flatIt_append (a b : List It) : flatIt (a ++ b) = flatIt a ++ flatIt b := by simp [flatIt]
structure TCells (w : World) (g o : Nat) (x : It) : Prop where
  c0 : w.cell? ⟨g, o, none⟩ = some (.int .i64 x.run)
  c1 : w.cell? ⟨g, o + 1, none⟩ = some (.int .i64 x.kind)
  c2 : w.cell? ⟨g, o + 2, none⟩ = some (.int .i64 x.id)
theorem task_at {w : World} {base L : Nat} {p : Option Addr} {c : Nat} {pre post : List It} {x : It} (hL : L = (pre ++ x :: post).length) (h : w.ownsRow base 43 3 (.slice p L c) L (flatIt (pre ++ x :: post))) :
    ∃ g, p = some ⟨g, 0, none⟩ ∧ base ≤ g ∧ g < w.heap.size ∧ TCells w g (pre.length * 3) x := by
  rcases h.2 with ⟨_, h0⟩ | ⟨g, cap, cur, hv, _⟩
  · simp at hL; omega
  · have hlt := h.lt g (by rw [hv]; rfl)
    have hc := h.cells (g := g) (by rw [hv]; rfl)
    injection hv with h1 h2 h3
    have fl := flatIt_length pre
    have hf : flatIt (pre ++ x :: post) = flatIt pre ++ ([Value.int .i64 x.run, .int .i64 x.kind, .int .i64 x.id] ++ flatIt post) := by simp [flatIt]
    rw [hf] at hc
    have a : ∀ j u, [Value.int .i64 x.run, .int .i64 x.kind, .int .i64 x.id][j]? = some u → w.cell? ⟨g, pre.length * 3 + j, none⟩ = some u := by
      intro j u hj
      have := hc (pre.length * 3 + j) u (by
        rw [List.getElem?_append_right (by omega), fl, show pre.length * 3 + j - pre.length * 3 = j by omega, List.getElem?_append_left (by have := (List.getElem?_eq_some_iff.1 hj).1; exact this)]
        exact hj)
      rw [Go.WideShapes.add_plain] at this
      simpa using this
    exact ⟨g, h1, hlt.1, hlt.2, a 0 _ rfl, a 1 _ rfl, a 2 _ rfl⟩
def tkA (x : It) : Array Value := #[.int .i64 x.run, .int .i64 x.kind, .int .i64 x.id]
theorem tkA_all (x : It) : (tkA x).all (·.oneCell') = true := by simp [tkA, Value.oneCell']
theorem tkInfo (x : It) : (Try.prog.info? 43).map (·.size) = some (tkA x).size := by
  show _ = some 3
  kernel_rfl
def zeroT : It := ⟨0, 0, 0, 0⟩
theorem qptrInfo : (Try.prog.info? 65).map (·.size) = some 1 := by kernel_rfl
theorem index_two {W : World} (a b : Option Addr) : (Instr.index 77 (.agg #[.pointer a, .pointer b]) (.int .i64 0)).run Try.prog W = .ok (.pointer a) W ∧ (Instr.index 77 (.agg #[.pointer a, .pointer b]) (.int .i64 1)).run Try.prog W = .ok (.pointer b) W := by
  have hu := qptrInfo
  cases hq : Try.prog.info? 65 with
  | none => rw [hq] at hu; cases hu
  | some t =>
    have ht : t.size = 1 := by rw [hq] at hu; simpa using hu
    simp only [Instr.index, asIntOf, Sem.run_bind, Sem.run_pure, Result.andThen_ok, run_underlying Try.underlying77]
    constructor <;> simp [sizeOf, typeInfo, hq, ht, part, Sem.run_bind, Result.andThen]
/-- on the way through a call: the match at s1, a block br of the call's own -/
structure Mid (W : World) (m : Nat) (F : Nat → Prop) (s1 : MS) (w : World) (F1 : Nat → Prop) : Prop where
  p : mP m s1 w F1
  t : Tch F W w
  k : MKept m W w
  f : ∀ b, F1 b → F b ∨ W.heap.size ≤ b
theorem Mid.start {W w : World} {m : Nat} {F : Nat → Prop} {s : MS} (h : mP m s W F) (hE : Ext W w) : Mid W m F s w F := ⟨(mP_loc m s).ext h hE, Tch.of_ext hE, MKept.ext hE, fun _ h => Or.inl h⟩
theorem Mid.ext {W w w' : World} {m : Nat} {F F1 : Nat → Prop} {s1 : MS} (h : Mid W m F s1 w F1) (hE : Ext w w') : Mid W m F s1 w' F1 :=
  ⟨(mP_loc m s1).ext h.p hE, h.t.trans (Tch.of_ext (S := F) hE) (fun _ h _ => h), h.k.trans (MKept.ext hE), h.f⟩
theorem Mid.step {W w w' : World} {m : Nat} {F F1 : Nat → Prop} {s1 s2 : MS} (h : Mid W m F s1 w F1) (hs : MStep w w' m F1 s2) : ∃ F2, Mid W m F s2 w' F2 ∧ Tch F1 w w' ∧ (∀ b, ¬ F1 b → b < w.heap.size → ¬ F2 b) := by
  obtain ⟨F2, h1, h2, h3, h4⟩ := hs
  refine ⟨F2, ⟨h1, h.t.trans h2 (fun i hi hl => (h.f i hi).elim id (fun h => absurd hl (by omega))), h.k.trans h3, fun b hb => ?_⟩, h2, fun b hn hl hb => (h4 b hb).elim hn (fun h => by omega)⟩
  rcases h4 b hb with h5 | h5
  · exact h.f b h5
  · exact Or.inr (Nat.le_trans h.t.size h5)
theorem Mid.setRow {W w : World} {m g : Nat} {F F1 : Nat → Prop} {s1 : MS} (h : Mid W m F s1 w F1) (hg : ¬ F1 g) (hl : W.heap.size ≤ g) (cs : Array Value) : Mid W m F s1 (w.setRow g cs) F1 := by
  have hm := mP_m h.p
  refine ⟨(mP_loc m s1).keep h.p fun k hk => setRow_other w g k cs (fun e => hg (e ▸ hk)), setRow_ext F h.t hl, h.k.trans fun ds T hd => ⟨ds, ?_, rfl, fun _ _ => rfl⟩, h.f⟩
  refine (setRow_other w g m cs (fun e => hg ?_)).trans hd
  obtain ⟨Fq, lv, _, hF⟩ := h.p
  rw [hF, ← e]
  exact Or.inl rfl
theorem lsInfo : (Try.prog.info? 56).map (fun i => (i.zero, i.size, i.bytes)) = some (some (.agg (lsA zeroL)), 6, 48) := by kernel_rfl
theorem info_parts6 {T : TypeId} {z : Value} {n b : Nat} (h : (Try.prog.info? T).map (fun i => (i.zero, i.size, i.bytes)) = some (some z, n, b)) : ∃ i, Try.prog.info? T = some i ∧ i.zero = some z ∧ i.size = n ∧ i.bytes = b := by
  cases hq : Try.prog.info? T with
  | none => rw [hq] at h; cases h
  | some i =>
    rw [hq] at h
    simp only [Option.map_some, Option.some.injEq, Prod.mk.injEq] at h
    exact ⟨i, rfl, h.1, h.2.1, h.2.2⟩
theorem lsC_one (l : Ls) : ∀ u ∈ lsC l, u.oneCell' = true := by
  intro u hu
  simp [lsC] at hu
  rcases hu with rfl | rfl | rfl | rfl | rfl | rfl <;> rfl
def PEnd (W : World) (m : Nat) (F : Nat → Prop) (s5 : MS) (bl br : Nat) (l : Ls) (X : World) : Prop := ∃ F5, Mid W m F s5 X F5 ∧ Blk X bl 56 (lsA l) ∧ Blk X br 56 (lsA zeroL) ∧ ¬ F5 bl ∧ ¬ F5 br
theorem ownsRow_slice' {w : World} {base : Nat} {e : TypeId} {size : Nat} {v : Value} {n : Nat} {xs : List Value} (h : w.ownsRow base e size v n xs) : ∃ p c, v = .slice p n c := ownsRow_slice h
theorem Mid.step' {W w w' : World} {m : Nat} {F F1 F2 : Nat → Prop} {s1 s2 : MS} (h : Mid W m F s1 w F1) (hs : mP m s2 w' F2 ∧ Tch F1 w w' ∧ MKept m w w' ∧ ∀ k, F2 k → F1 k ∨ w.heap.size ≤ k) : Mid W m F s2 w' F2 := by
  obtain ⟨h1, h2, h3, h4⟩ := hs
  refine ⟨h1, h.t.trans h2 (fun i hi hl => (h.f i hi).elim id (fun h => absurd hl (by omega))), h.k.trans h3, fun b hb => ?_⟩
  rcases h4 b hb with h5 | h5
  · exact h.f b h5
  · exact Or.inr (Nat.le_trans h.t.size h5)
theorem Mid.mstep {W w : World} {m : Nat} {F F1 : Nat → Prop} {s1 : MS} (h : Mid W m F s1 w F1) : MStep W w m F s1 := ⟨F1, h.p, h.t, h.k, h.f⟩
def PIRel (w : World) (xs : List It) (kind : Int) (v : Value) (wr : World) : Prop :=
  ∃ pre post, xs = pre ++ post ∧ v = .int .i64 pre.length ∧ (∀ x ∈ pre, (x.kind == kind) = false) ∧ Ext w wr
def PORel (w : World) (s : MS) (z kind : Int) (v : Value) (wr : World) : Prop :=
  ∃ j : Nat, j ≤ 2 ∧ v = .int .i64 j ∧ (1 ≤ j → (s.q z.toNat).find? (fun x => x.kind == kind) = none) ∧ (2 ≤ j → (s.q 0).find? (fun x => x.kind == kind) = none) ∧ Ext w wr
set_option maxRecDepth 100000 in
set_option maxHeartbeats 10000000 in
theorem poll_go (W : World) (m : Nat) (s : MS) (F : Nat → Prop) (z kind now : Int) (h : mP m s W F) (hz1 : 1 ≤ z) (hz2 : z ≤ 64) (hl : s.ls.length < 256) (ht : 0 ≤ s.tok) (ht2 : s.tok < 18446744073709551615) (hn1 : -9223372036854775808 ≤ now) (hn2 : now ≤ 9223372036854775787) :
    Calls Try.prog 8 #[.pointer (some ⟨m, 0, none⟩), .int .i64 z, .int .i64 kind, .int .i64 now] W fun e W' => Polled W m s F z kind now e W' := by
  have hm := mP_m h
  have hcl : ∃ pv cv, W.cell? ⟨m, 196, none⟩ = some (.slice pv s.ls.length cv) := by
    obtain ⟨Fq, lv, hR, rfl⟩ := h
    obtain ⟨pv, cv, rfl⟩ := ownsRow_slice hR.own
    exact ⟨pv, cv, hR.lcell⟩
  obtain ⟨pv, cv, hc⟩ := hcl
  have hz : ¬ (z < 1 ∨ 64 < z) := by omega
  have HZ := Lib.hid hz
  clear hz
  have hE0 := ext_alloc W (.cells (lsA zeroL) 56)
  have hbr := Blk.new W 56 (lsA zeroL)
  go_enter Try.func8, Try.ntmps8
  go_wp2_with fail
  refine gen_calls (fun X => Ext W X ∧ Blk X W.heap.size 56 (lsA zeroL)) ⟨hE0, hbr⟩ ?_
  clear hE0 hbr
  rintro w ⟨hE0, hbr⟩
  obtain ⟨br, hbrn⟩ : ∃ b, b = W.heap.size := ⟨_, rfl⟩
  rw [← hbrn] at hbr ⊢
  have HBR := Lib.hid hbrn
  clear hbrn
  have hc1 := (hE0.cell m 196 hm).trans hc
  have hnl : ¬ 256 ≤ (s.ls.length : Int) := by omega
  have hi0 := fun W => (index_two (W := W) (some ⟨m, 1 + z.toNat * 3, none⟩) (some ⟨m, 1, none⟩)).1
  have hi1 := fun W => (index_two (W := W) (some ⟨m, 1 + z.toNat * 3, none⟩) (some ⟨m, 1, none⟩)).2
  refine (own_any w m z hz1 hz2).mono ?_
  rintro e w1 ⟨rfl, rfl⟩
  go_wp2_with fail
  clear hc1
  go_loopw [36] (fun v wr => PORel w s z kind v wr) (fun v _ => (3 - intOf v).toNat)
  case atStart => exact ⟨0, by omega, rfl, by omega, by omega, Ext.refl _⟩
  case round =>
    obtain ⟨j, hj, rfl, hj1, hj2, hEr⟩ := hrel
    rcases (show j = 0 ∨ j = 1 ∨ j = 2 by omega) with hj | hj | hj
    · subst hj
      clear hj1 hj2
      obtain ⟨G, hG⟩ := mP_q ((mP_loc m s).ext h (hE0.trans hEr)) (k := z.toNat) (by omega) (o := 1 + z.toNat * 3) (by omega)
      have hqn := mP_qn h (k := z.toNat) (by omega)
      go_wp2_with fail
      refine (qp_list hG (by omega)).mono ?_
      rintro e w1 ⟨v, rfl, hown, hE1⟩
      obtain ⟨L, hL⟩ : ∃ L, Hid (L = (s.q (z.toNat)).length) := ⟨_, Lib.hid rfl⟩
      rw [← hL.out] at hown
      obtain ⟨pv, cv, rfl⟩ := ownsRow_slice hown
      have hLb : (L : Int) ≤ 128 := by have := hL.out; omega
      have hE01 := (hE0.trans hEr).trans hE1
      clear hG
      go_wp2_with fail
      go_loopw [42] (fun v wr => PIRel w1 (s.q (z.toNat)) kind v wr) (fun v _ => ((L : Int) + 1 - intOf v).toNat)
      case atStart => exact ⟨[], s.q (z.toNat), rfl, rfl, by simp, Ext.refl _⟩
      case round =>
        obtain ⟨pre, post, hx, rfl, hno, hE2⟩ := hrel
        have hlen := hL.out
        cases post with
        | nil =>
          have hx' : s.q (z.toNat) = pre := by simpa using hx
          have hl2 : ¬ ((pre.length : Int) < L) := by rw [hlen, hx']; omega
          have HF : Hid ((s.q (z.toNat)).find? (fun x => x.kind == kind) = none) := Lib.hid (by rw [hx', List.find?_eq_none]; intro x hxm; simp [hno x hxm])
          clear hno hx hlen hx'
          go_wp2_with fail
          exact ⟨⟨1, by omega, by go_num, fun _ => HF.out, by omega, (hEr.trans hE1).trans hE2⟩, by simp [intOf]⟩
        | cons x post =>
          have hl : (pre.length : Int) < L := by rw [hlen, hx]; simp; omega
          have hown' := ownsRow_ext hown hE2
          rw [hx] at hown' hlen
          obtain ⟨g, rfl, -, hg, x0, x1, x2⟩ := task_at hlen hown'
          have HN := Lib.hid hno
          have HL := Lib.hid hlen
          have HX := Lib.hid hx
          clear hno hlen hown' hx
          have hbt0 := Blk.new wr 43 (tkA zeroT)
          obtain ⟨xr, xk, xi, xs_⟩ := x
          go_upto_region 12 with (refine wpList_store_row rfl _ _ _ rfl wr.heap.size (tkA ⟨xr, xk, xi, xs_⟩) rfl rfl _ _ hbt0 (tkInfo _) rfl (tkA_all _) ?_)
          refine gen_world' (fun X => Ext wr X ∧ Blk X wr.heap.size 43 (tkA ⟨xr, xk, xi, xs_⟩)) ⟨setRow_ext' (ext_alloc wr _) (Nat.le_refl _), setRow_blk hbt0⟩ ?_
          clear hbt0 x0 x1 x2
          rintro w2 ⟨hE3, hbt⟩
          obtain ⟨bt, hbtn⟩ : ∃ b, b = wr.heap.size := ⟨_, rfl⟩
          rw [← hbtn] at hbt ⊢
          have HBT := Lib.hid hbtn
          clear hbtn
          have c0 : w2.cell? ⟨bt, 0, none⟩ = some (.int .i64 xr) := hbt.cell 0
          have c1 : w2.cell? ⟨bt, 1, none⟩ = some (.int .i64 xk) := hbt.cell 1
          have c2 : w2.cell? ⟨bt, 2, none⟩ = some (.int .i64 xi) := hbt.cell 2
          try simp only [Act.put]
          obtain ⟨bk, hbk⟩ : ∃ b, (xk == kind) = b := ⟨_, rfl⟩
          cases bk with
          | false =>
            have HBK := Lib.hid hbk
            go_wp2_with fail
            refine ⟨⟨pre ++ [⟨xr, xk, xi, xs_⟩], post, by rw [HX.out]; simp, by simp, ?_, hE2.trans hE3⟩, by have := HL.out; simp [intOf] at *; omega⟩
            intro y hy
            rcases List.mem_append.1 hy with h | h
            · exact HN.out y h
            · simp at h; subst h; exact HBK.out
          | true =>
            have HM := Mid.start h ((hE01.trans hE2).trans hE3)
            have hxm : (⟨xr, xk, xi, xs_⟩ : It) ∈ s.q (z.toNat) := by rw [HX.out]; simp
            have hok := mP_ok h (k := z.toNat) (by omega) _ hxm
            have hfi : (s.q (z.toNat)).find? (fun x => x.kind == kind) = some ⟨xr, xk, xi, xs_⟩ := by
              rw [HX.out, List.find?_append, List.find?_eq_none.2 (fun y hy => by simp [HN.out y hy])]
              simp [hbk]
            have HPK : Hid (s.pick z kind = some (z.toNat, ⟨xr, xk, xi, xs_⟩)) := Lib.hid (by unfold MS.pick; rw [hfi])
            clear hfi
            have hrem : (s.q (z.toNat)).any (isK · xr xk xi) = true := by rw [List.any_eq_true]; exact ⟨_, hxm, isK_iff.2 ⟨rfl, rfl, rfl⟩⟩
            have HR := Lib.hid hrem
            clear hrem
            go_wp2_with fail
            refine (mP_act HM.p (k := z.toNat) (o := 1 + z.toNat * 3) (by omega) (by omega) (Nat.le_trans (List.length_filter_le _ _) hqn) fun G hG => qp_remove hG xr xk xi hok.key).mono ?_
            rintro e w3 ⟨rfl, hS3⟩
            rw [HR.out]
            obtain ⟨F3, HM3, ht3, hn3⟩ := HM.step hS3
            have hnt : ¬ F bt := fun hb => by
              have h1 := (mP_loc m s).lt h hb
              have h2 := HBT.out
              have h3 := ((hE01.trans hE2)).le
              omega
            have hbt3 := ht3.blk hbt hnt
            have hnt3 := hn3 bt hnt hbt.lt
            have hnr : ¬ F br := fun hb => by
              have h1 := (mP_loc m s).lt h hb
              have h2 := HBR.out
              omega
            have hbr2 := hbr.of_eq (((hEr.trans hE1).trans (hE2.trans hE3)).block br hbr.lt)
            have hbr3 := ht3.blk hbr2 hnr
            have hnr3 := hn3 br hnr hbr2.lt
            clear hS3 ht3 hn3 HM c0 c1 c2 hbt hnt hnr hbr2
            go_wp2_with fail
            have d0 : ∀ x : Of (fun X => Blk X bt 43 (tkA ⟨xr, xk, xi, xs_⟩)), x.val.cell? ⟨bt, 0, none⟩ = some (.int .i64 xr) := fun x => x.property.cell 0
            have d1 : ∀ x : Of (fun X => Blk X bt 43 (tkA ⟨xr, xk, xi, xs_⟩)), x.val.cell? ⟨bt, 1, none⟩ = some (.int .i64 xk) := fun x => x.property.cell 1
            have d2 : ∀ x : Of (fun X => Blk X bt 43 (tkA ⟨xr, xk, xi, xs_⟩)), x.val.cell? ⟨bt, 2, none⟩ = some (.int .i64 xi) := fun x => x.property.cell 2
            have hFd := (show Blk w3.drew bt 43 (tkA ⟨xr, xk, xi, xs_⟩) from hbt3.of_eq rfl)
            have hne_ : Nonempty (Of ((fun X => Blk X bt 43 (tkA ⟨xr, xk, xi, xs_⟩)))) := ⟨⟨_, hFd⟩⟩
            refine region_plan (.seg [0,1,2,4,5,6,7] [true,true,true,true,true,true,true] (.fork 3 (.seg [8,9,10] [true,false,false] .done) 9 (.seg [3,8,10] [false,true,false] .done))) ((fun X => Blk X bt 43 (tkA ⟨xr, xk, xi, xs_⟩))) (by kernel_rfl) (by kernel_rfl) hFd ?_
            refine walkP_seg ?_
            simp only [List.filterMap_cons, List.filterMap_nil, List.getElem?_cons_zero, List.getElem?_cons_succ]
            refine steps_quiet 7 (by kernel_rfl) ?_
            simp only [List.take_succ_cons, List.take_zero, List.drop_succ_cons, List.drop_zero]
            repeat (go_big_quiet_step (fail))
            refine wpQuiet_nil ?_
            clear d0 d1 d2 hFd
            have HM3' := HM3.ext (Ext.refl w3).drew
            have hbt4 : Blk w3.drew bt 43 (tkA ⟨xr, xk, xi, xs_⟩) := hbt3.of_eq rfl
            have hbr4 : Blk w3.drew br 56 (lsA zeroL) := hbr3.of_eq rfl
            clear hbt3 hbr3 HM3
            generalize World.drew w3 = w4 at *
            refine steps_end ?_
            refine walkP_fork ?_ ?_
            all_goals simp only [List.filterMap_cons, List.filterMap_nil, List.getElem?_cons_zero, List.getElem?_cons_succ]
            · refine steps_want rfl (fun K hK => ?_)
              go_simp
              refine (next_any w4 m _ F3 HM3'.p ht ht2).mono ?_
              rintro e w5 ⟨rfl, hS5⟩
              obtain ⟨F5, HM5, ht5, hn5⟩ := HM3'.step hS5
              have hbt5 := ht5.blk hbt4 hnt3
              have hbr5 := ht5.blk hbr4 hnr3
              have hnr5 := hn5 br hnr3 hbr4.lt
              clear hS5 ht5 hn5 HM3' hbt4 hbr4
              refine hK _ _ _ hbt5 (fun _ h => h) ?_
              clear hK K
              refine steps_end ?_
              refine walkP_seg ?_
              simp only [List.filterMap_cons, List.filterMap_nil, List.getElem?_cons_zero, List.getElem?_cons_succ]
              refine steps_quiet 1 (by kernel_rfl) ?_
              simp only [List.take_succ_cons, List.take_zero, List.drop_succ_cons, List.drop_zero]
              repeat (go_big_quiet_step (fail))
              refine wpQuiet_nil ?_
              refine steps_want rfl (fun K hK => ?_)
              go_simp
              refine hK _ _ _ (show Blk (w5.alloc _) bt 43 (tkA ⟨xr, xk, xi, xs_⟩) from hbt5.of_eq ((ext_alloc w5 _).block bt hbt5.lt)) (fun _ h => h) ?_
              clear hK K
              have hbl0 := Blk.new w5 56 (lsA zeroL)
              have hb5 : bt ≠ w5.heap.size := by have := hbt5.lt; omega
              refine steps_want rfl (fun K hK => ?_)
              refine wp_store_row _ _ _ rfl w5.heap.size (lsA ⟨s.tok + 1, xr, xk, xi, z, now + 20⟩) rfl rfl _ _ hbl0 (leaseInfo' _) rfl (lsA_all _) ?_
              refine hK _ _ _ (show Blk ((w5.alloc _).setRow w5.heap.size _) bt 43 (tkA ⟨xr, xk, xi, xs_⟩) from setRow_far (hbt5.of_eq ((ext_alloc w5 _).block bt hbt5.lt)) hb5) (fun _ h => h) ?_
              clear hK K
              refine steps_end ?_
              refine walkP_done ?_
              try simp only [Act.put]
              have hE6 : Ext w5 ((w5.alloc (.cells (lsA zeroL) 56)).setRow w5.heap.size (lsA ⟨s.tok + 1, xr, xk, xi, z, now + 20⟩)) := setRow_ext' (ext_alloc w5 _) (Nat.le_refl _)
              have hbl6 := setRow_blk (cs := lsA ⟨s.tok + 1, xr, xk, xi, z, now + 20⟩) hbl0
              have HM6 := HM5.ext hE6
              have hbr6 := hbr5.of_eq (hE6.block br hbr5.lt)
              have hnl5 : ¬ F5 w5.heap.size := fun hb => by have := (mP_loc m _).lt HM5.p hb; omega
              have HPE : PEnd W m F { s.setq (z.toNat) (others (s.q (z.toNat)) xr xk xi) with tok := s.tok + 1 } w5.heap.size br ⟨s.tok + 1, xr, xk, xi, z, now + 20⟩ _ := ⟨F5, HM6, hbl6, hbr6, hnl5, hnr5⟩
              clear hbt5 hbr5 hbl0 HM5 hE6 hbl6 HM6 hbr6 hnl5 hnr5 hb5
              go_upto_region 14 with fail
              refine gen_world' _ HPE ?_
              clear HPE
              generalize w5.heap.size = bl at *
              rintro w6 ⟨F5, HM6, hbl6, hbr6, hnl5, hnr5⟩
              generalize w5 = wx at *
              replace HM6 := HM6.ext (Ext.refl w6).drew
              replace hbl6 : Blk w6.drew bl _ _ := hbl6.of_eq rfl
              replace hbr6 : Blk w6.drew br _ _ := hbr6.of_eq rfl
              have hne_ : Nonempty (Of (fun _ : World => True)) := trueOf_ne (W := w6)
              refine region_plan (.seg [0,1,2,3] [true,true,true,true] (.fork 4 (.seg [5,6,7,8,9,10] [false,false,false,true,true,false] .done) 5 (.fork 4 (.seg [6,7,8,9,10] [false,false,true,true,false] .done) 6 (.seg [4,7,8,9,10] [false,false,true,true,false] .done)))) (fun _ : World => True) (by kernel_rfl) (by kernel_rfl) trivial ?_
              generalize World.drew w6 = w6 at *
              obtain ⟨Fq, lv, hR, hF5⟩ := HM6.p
              obtain ⟨i0, hi0, hi1, hi2, hi3⟩ := info_parts6 lsInfo
              have hlc := hR.lcell
              refine walkP_seg ?_
              simp only [List.filterMap_cons, List.filterMap_nil, List.getElem?_cons_zero, List.getElem?_cons_succ]
              refine steps_quiet 4 (by kernel_rfl) ?_
              simp only [List.take_succ_cons, List.take_zero, List.drop_succ_cons, List.drop_zero]
              repeat (go_big_quiet_step (fail))
              refine wpQuiet_nil ?_
              refine steps_end ?_
              refine walkP_fork ?_ ?_
              all_goals simp only [List.filterMap_cons, List.filterMap_nil, List.getElem?_cons_zero, List.getElem?_cons_succ]
              · refine steps_want rfl (fun K hK => ?_)
                go_simp
                refine hK _ _ (fun _ => True) trivial (fun _ _ => trivial) ?_
                clear hK K
                refine steps_end ?_
                refine walkP_seg ?_
                simp only [List.filterMap_cons, List.filterMap_nil, List.getElem?_cons_zero, List.getElem?_cons_succ]
                refine steps_want rfl (fun K hK => ?_)
                refine wp_load_row _ _ rfl bl rfl _ #[.int .u64 (s.tok + 1), .int .i64 xr, .int .i64 xk, .int .i64 xi, .int .i64 z, .int .i64 (now + 20)] _ _ hbl6 Try.underlying56 rfl leaseInfo ?_
                refine hK _ _ (fun _ => True) trivial (fun _ _ => trivial) ?_
                clear hK K
                try simp only [Act.put, List.setIfInBounds_toArray, List.set_cons_succ, List.set_cons_zero]
                refine steps_want rfl (fun K hK => ?_)
                go_simp
                refine hK _ _ (fun _ => True) trivial (fun _ _ => trivial) ?_
                clear hK K
                have hE7 : Ext w6 (w6.alloc (.cells (lsA (⟨s.tok + 1, xr, xk, xi, z, now + 20⟩ : Ls)) 56)) := ext_alloc w6 _
                have HM7 := HM6.ext hE7
                have hbl7 := hbl6.of_eq (hE7.block bl hbl6.lt)
                have hbr7 := hbr6.of_eq (hE7.block br hbr6.lt)
                have hnews := news_new w6 (lsC (⟨s.tok + 1, xr, xk, xi, z, now + 20⟩ : Ls)) 56
                have hlb : (s.ls.length : Int) ≤ 256 := by omega
                refine steps_want rfl (fun K hK => ?_)
                refine wp_append_new _ _ 39 rfl 56 i0 (.agg (lsA zeroL)) 6 48 Try.underlying39 hi0 hi1 hi2 hi3 rfl (by decide) lv s.ls.length (flatL s.ls) rfl (ownsRow_ext hR.own hE7) _ 1 1 (lsC (⟨s.tok + 1, xr, xk, xi, z, now + 20⟩ : Ls)) rfl rfl (fun h => by cases h) hnews (lsC_one _) (by unfold maxLen; omega) (by omega) ?_
                intro v9 w9 hown9 hg9 hf9
                obtain ⟨p9, c9, rfl⟩ := ownsRow_slice hown9
                have hR7 := hR.ext hE7
                have hrow7 : ∀ b, lv.ownBlock = some b → b ≠ m := fun b hb => (hR.ol b hb).1
                obtain ⟨mc, mT, hmb, _, _, _, hm196⟩ := hR7.blk
                have hmb9 := (grownBy.tch hg9).blk hmb (fun hk => hrow7 m hk rfl)
                have hmc : w9.cell? ⟨m, 196, none⟩ = some lv := by rw [hmb9.cell, hm196]
                have hmf : w9.frozen? ⟨m, 196, none⟩ = false := hmb9.frozen 196
                refine hK _ _ (fun _ => True) trivial (fun _ _ => trivial) ?_
                clear hK K
                try simp only [Act.put, List.setIfInBounds_toArray, List.set_cons_succ, List.set_cons_zero]
                have hown9' : w9.ownsRow 0 56 6 (.slice p9 (s.ls.length + 1) c9) (s.ls ++ [(⟨s.tok + 1, xr, xk, xi, z, now + 20⟩ : Ls)]).length (flatL (s.ls ++ [(⟨s.tok + 1, xr, xk, xi, z, now + 20⟩ : Ls)])) := by
                  rw [flatL_append, List.length_append]
                  have e : flatL [(⟨s.tok + 1, xr, xk, xi, z, now + 20⟩ : Ls)] = lsC (⟨s.tok + 1, xr, xk, xi, z, now + 20⟩ : Ls) := by simp [flatL]
                  rw [e]
                  exact hown9
                obtain ⟨F10, HM10, ht10, hn10⟩ := HM7.step (s2 := { s.setq (z.toNat) (others (s.q (z.toNat)) xr xk xi) with tok := s.tok + 1, ls := s.ls ++ [(⟨s.tok + 1, xr, xk, xi, z, now + 20⟩ : Ls)] }) (by have h8 := hR7.setl (ls' := s.ls ++ [(⟨s.tok + 1, xr, xk, xi, z, now + 20⟩ : Ls)]) (by simp; omega) (grownBy.tch hg9) hown9' hf9.1; rw [← hF5] at h8; exact h8)
                have hbl10 := ht10.blk hbl7 hnl5
                have hbr10 := ht10.blk hbr7 hnr5
                have hnr10 := hn10 br hnr5 hbr7.lt
                clear hown9' hown9 hg9 hf9 hmb hmb9 ht10 hn10 hR hR7 hrow7 hm196 HM7 hbl7 hbr7 hnews HM6 hbl6 hbr6 hE7
                refine steps_quiet 2 (by kernel_rfl) ?_
                simp only [List.take_succ_cons, List.take_zero, List.drop_succ_cons, List.drop_zero]
                repeat (go_big_quiet_step (fail))
                refine wpQuiet_nil ?_
                refine steps_want rfl (fun K hK => ?_)
                go_simp
                refine hK _ _ (fun _ => True) trivial (fun _ _ => trivial) ?_
                clear hK K
                clear hmc hmf
                refine steps_end ?_
                refine walkP_done ?_
                try simp only [Act.put]
                generalize World.setCell w9 _ _ = w10 at *
                go_wp2_with (first | (refine wpList_load_row rfl _ _ rfl bl rfl _ #[.int .u64 (s.tok + 1), .int .i64 xr, .int .i64 xk, .int .i64 xi, .int .i64 z, .int .i64 (now + 20)] _ _ hbl10 Try.underlying56 rfl leaseInfo ?_) | (refine wpList_store_row rfl _ _ _ rfl br (lsA (⟨s.tok + 1, xr, xk, xi, z, now + 20⟩ : Ls)) rfl rfl _ _ hbr10 (leaseInfo' (⟨s.tok + 1, xr, xk, xi, z, now + 20⟩ : Ls)) rfl (lsA_all _) ?_))
                have hbr11 := setRow_blk (cs := lsA (⟨s.tok + 1, xr, xk, xi, z, now + 20⟩ : Ls)) hbr10
                refine bodyPost_ret (v := .tuple #[lsV (⟨s.tok + 1, xr, xk, xi, z, now + 20⟩ : Ls), .int .i64 0]) (results_cell2 Try.results8 _ _ br 56 (lsA (⟨s.tok + 1, xr, xk, xi, z, now + 20⟩ : Ls)) _ _ rfl hbr11 Try.underlying56 rfl (leaseInfo' _)) rfl ⟨by rw [pollL, pollE, if_neg HZ.out, if_neg HZ.out, if_neg (by omega), if_neg (by omega), HPK.out]; rfl, ?_⟩
                rw [pollS, if_neg HZ.out, if_neg (by omega), HPK.out]
                exact (HM10.setRow hnr10 (Nat.le_of_eq HBR.out.symm) _).mstep
              · refine steps_want rfl (fun K hK => ?_)
                refine wp_load_row _ _ rfl bl rfl _ #[.int .u64 (s.tok + 1), .int .i64 xr, .int .i64 xk, .int .i64 xi, .int .i64 z, .int .i64 (now + 20)] _ _ hbl6 Try.underlying56 rfl leaseInfo ?_
                refine hK _ _ (fun _ => True) trivial (fun _ _ => trivial) ?_
                clear hK K
                try simp only [Act.put, List.setIfInBounds_toArray, List.set_cons_succ, List.set_cons_zero]
                refine steps_end ?_
                refine walkP_fork ?_ ?_
                all_goals simp only [List.filterMap_cons, List.filterMap_nil, List.getElem?_cons_zero, List.getElem?_cons_succ]
                · refine steps_want rfl (fun K hK => ?_)
                  go_simp
                  refine hK _ _ (fun _ => True) trivial (fun _ _ => trivial) ?_
                  clear hK K
                  refine steps_end ?_
                  refine walkP_seg ?_
                  simp only [List.filterMap_cons, List.filterMap_nil, List.getElem?_cons_zero, List.getElem?_cons_succ]
                  refine steps_want rfl (fun K hK => ?_)
                  go_simp
                  refine hK _ _ (fun _ => True) trivial (fun _ _ => trivial) ?_
                  clear hK K
                  have hE7 : Ext w6 (w6.alloc (.cells (lsA (⟨s.tok + 1, xr, xk, xi, z, now + 20⟩ : Ls)) 56)) := ext_alloc w6 _
                  have HM7 := HM6.ext hE7
                  have hbl7 := hbl6.of_eq (hE7.block bl hbl6.lt)
                  have hbr7 := hbr6.of_eq (hE7.block br hbr6.lt)
                  have hnews := news_new w6 (lsC (⟨s.tok + 1, xr, xk, xi, z, now + 20⟩ : Ls)) 56
                  have hlb : (s.ls.length : Int) ≤ 256 := by omega
                  refine steps_want rfl (fun K hK => ?_)
                  refine wp_append_new _ _ 39 rfl 56 i0 (.agg (lsA zeroL)) 6 48 Try.underlying39 hi0 hi1 hi2 hi3 rfl (by decide) lv s.ls.length (flatL s.ls) rfl (ownsRow_ext hR.own hE7) _ 1 1 (lsC (⟨s.tok + 1, xr, xk, xi, z, now + 20⟩ : Ls)) rfl rfl (fun h => by cases h) hnews (lsC_one _) (by unfold maxLen; omega) (by omega) ?_
                  intro v9 w9 hown9 hg9 hf9
                  obtain ⟨p9, c9, rfl⟩ := ownsRow_slice hown9
                  have hR7 := hR.ext hE7
                  have hrow7 : ∀ b, lv.ownBlock = some b → b ≠ m := fun b hb => (hR.ol b hb).1
                  obtain ⟨mc, mT, hmb, _, _, _, hm196⟩ := hR7.blk
                  have hmb9 := (grownBy.tch hg9).blk hmb (fun hk => hrow7 m hk rfl)
                  have hmc : w9.cell? ⟨m, 196, none⟩ = some lv := by rw [hmb9.cell, hm196]
                  have hmf : w9.frozen? ⟨m, 196, none⟩ = false := hmb9.frozen 196
                  refine hK _ _ (fun _ => True) trivial (fun _ _ => trivial) ?_
                  clear hK K
                  try simp only [Act.put, List.setIfInBounds_toArray, List.set_cons_succ, List.set_cons_zero]
                  have hown9' : w9.ownsRow 0 56 6 (.slice p9 (s.ls.length + 1) c9) (s.ls ++ [(⟨s.tok + 1, xr, xk, xi, z, now + 20⟩ : Ls)]).length (flatL (s.ls ++ [(⟨s.tok + 1, xr, xk, xi, z, now + 20⟩ : Ls)])) := by
                    rw [flatL_append, List.length_append]
                    have e : flatL [(⟨s.tok + 1, xr, xk, xi, z, now + 20⟩ : Ls)] = lsC (⟨s.tok + 1, xr, xk, xi, z, now + 20⟩ : Ls) := by simp [flatL]
                    rw [e]
                    exact hown9
                  obtain ⟨F10, HM10, ht10, hn10⟩ := HM7.step (s2 := { s.setq (z.toNat) (others (s.q (z.toNat)) xr xk xi) with tok := s.tok + 1, ls := s.ls ++ [(⟨s.tok + 1, xr, xk, xi, z, now + 20⟩ : Ls)] }) (by have h8 := hR7.setl (ls' := s.ls ++ [(⟨s.tok + 1, xr, xk, xi, z, now + 20⟩ : Ls)]) (by simp; omega) (grownBy.tch hg9) hown9' hf9.1; rw [← hF5] at h8; exact h8)
                  have hbl10 := ht10.blk hbl7 hnl5
                  have hbr10 := ht10.blk hbr7 hnr5
                  have hnr10 := hn10 br hnr5 hbr7.lt
                  clear hown9' hown9 hg9 hf9 hmb hmb9 ht10 hn10 hR hR7 hrow7 hm196 HM7 hbl7 hbr7 hnews HM6 hbl6 hbr6 hE7
                  refine steps_quiet 2 (by kernel_rfl) ?_
                  simp only [List.take_succ_cons, List.take_zero, List.drop_succ_cons, List.drop_zero]
                  repeat (go_big_quiet_step (fail))
                  refine wpQuiet_nil ?_
                  refine steps_want rfl (fun K hK => ?_)
                  go_simp
                  refine hK _ _ (fun _ => True) trivial (fun _ _ => trivial) ?_
                  clear hK K
                  clear hmc hmf
                  refine steps_end ?_
                  refine walkP_done ?_
                  try simp only [Act.put]
                  generalize World.setCell w9 _ _ = w10 at *
                  go_wp2_with (first | (refine wpList_load_row rfl _ _ rfl bl rfl _ #[.int .u64 (s.tok + 1), .int .i64 xr, .int .i64 xk, .int .i64 xi, .int .i64 z, .int .i64 (now + 20)] _ _ hbl10 Try.underlying56 rfl leaseInfo ?_) | (refine wpList_store_row rfl _ _ _ rfl br (lsA (⟨s.tok + 1, xr, xk, xi, z, now + 20⟩ : Ls)) rfl rfl _ _ hbr10 (leaseInfo' (⟨s.tok + 1, xr, xk, xi, z, now + 20⟩ : Ls)) rfl (lsA_all _) ?_))
                  have hbr11 := setRow_blk (cs := lsA (⟨s.tok + 1, xr, xk, xi, z, now + 20⟩ : Ls)) hbr10
                  refine bodyPost_ret (v := .tuple #[lsV (⟨s.tok + 1, xr, xk, xi, z, now + 20⟩ : Ls), .int .i64 0]) (results_cell2 Try.results8 _ _ br 56 (lsA (⟨s.tok + 1, xr, xk, xi, z, now + 20⟩ : Ls)) _ _ rfl hbr11 Try.underlying56 rfl (leaseInfo' _)) rfl ⟨by rw [pollL, pollE, if_neg HZ.out, if_neg HZ.out, if_neg (by omega), if_neg (by omega), HPK.out]; rfl, ?_⟩
                  rw [pollS, if_neg HZ.out, if_neg (by omega), HPK.out]
                  exact (HM10.setRow hnr10 (Nat.le_of_eq HBR.out.symm) _).mstep
                · refine steps_want rfl (fun K hK => ?_)
                  go_simp
                  refine hK _ _ (fun _ => True) trivial (fun _ _ => trivial) ?_
                  clear hK K
                  refine steps_end ?_
                  refine walkP_seg ?_
                  simp only [List.filterMap_cons, List.filterMap_nil, List.getElem?_cons_zero, List.getElem?_cons_succ]
                  have hlc7 : (w6.alloc (.cells #[.int .u64 (s.tok + 1), .int .i64 xr, .int .i64 xk, .int .i64 xi, .int .i64 z, .int .i64 (now + 20)] 56)).cell? ⟨m, 196, none⟩ = some lv := (hR.ext (ext_alloc w6 _)).lcell
                  refine steps_want rfl (fun K hK => ?_)
                  go_simp
                  refine hK _ _ (fun _ => True) trivial (fun _ _ => trivial) ?_
                  clear hK K
                  clear hlc7
                  have hE7 : Ext w6 (w6.alloc (.cells (lsA (⟨s.tok + 1, xr, xk, xi, z, now + 20⟩ : Ls)) 56)) := ext_alloc w6 _
                  have HM7 := HM6.ext hE7
                  have hbl7 := hbl6.of_eq (hE7.block bl hbl6.lt)
                  have hbr7 := hbr6.of_eq (hE7.block br hbr6.lt)
                  have hnews := news_new w6 (lsC (⟨s.tok + 1, xr, xk, xi, z, now + 20⟩ : Ls)) 56
                  have hlb : (s.ls.length : Int) ≤ 256 := by omega
                  refine steps_want rfl (fun K hK => ?_)
                  refine wp_append_new _ _ 39 rfl 56 i0 (.agg (lsA zeroL)) 6 48 Try.underlying39 hi0 hi1 hi2 hi3 rfl (by decide) lv s.ls.length (flatL s.ls) rfl (ownsRow_ext hR.own hE7) _ 1 1 (lsC (⟨s.tok + 1, xr, xk, xi, z, now + 20⟩ : Ls)) rfl rfl (fun h => by cases h) hnews (lsC_one _) (by unfold maxLen; omega) (by omega) ?_
                  intro v9 w9 hown9 hg9 hf9
                  obtain ⟨p9, c9, rfl⟩ := ownsRow_slice hown9
                  have hR7 := hR.ext hE7
                  have hrow7 : ∀ b, lv.ownBlock = some b → b ≠ m := fun b hb => (hR.ol b hb).1
                  obtain ⟨mc, mT, hmb, _, _, _, hm196⟩ := hR7.blk
                  have hmb9 := (grownBy.tch hg9).blk hmb (fun hk => hrow7 m hk rfl)
                  have hmc : w9.cell? ⟨m, 196, none⟩ = some lv := by rw [hmb9.cell, hm196]
                  have hmf : w9.frozen? ⟨m, 196, none⟩ = false := hmb9.frozen 196
                  refine hK _ _ (fun _ => True) trivial (fun _ _ => trivial) ?_
                  clear hK K
                  try simp only [Act.put, List.setIfInBounds_toArray, List.set_cons_succ, List.set_cons_zero]
                  have hown9' : w9.ownsRow 0 56 6 (.slice p9 (s.ls.length + 1) c9) (s.ls ++ [(⟨s.tok + 1, xr, xk, xi, z, now + 20⟩ : Ls)]).length (flatL (s.ls ++ [(⟨s.tok + 1, xr, xk, xi, z, now + 20⟩ : Ls)])) := by
                    rw [flatL_append, List.length_append]
                    have e : flatL [(⟨s.tok + 1, xr, xk, xi, z, now + 20⟩ : Ls)] = lsC (⟨s.tok + 1, xr, xk, xi, z, now + 20⟩ : Ls) := by simp [flatL]
                    rw [e]
                    exact hown9
                  obtain ⟨F10, HM10, ht10, hn10⟩ := HM7.step (s2 := { s.setq (z.toNat) (others (s.q (z.toNat)) xr xk xi) with tok := s.tok + 1, ls := s.ls ++ [(⟨s.tok + 1, xr, xk, xi, z, now + 20⟩ : Ls)] }) (by have h8 := hR7.setl (ls' := s.ls ++ [(⟨s.tok + 1, xr, xk, xi, z, now + 20⟩ : Ls)]) (by simp; omega) (grownBy.tch hg9) hown9' hf9.1; rw [← hF5] at h8; exact h8)
                  have hbl10 := ht10.blk hbl7 hnl5
                  have hbr10 := ht10.blk hbr7 hnr5
                  have hnr10 := hn10 br hnr5 hbr7.lt
                  clear hown9' hown9 hg9 hf9 hmb hmb9 ht10 hn10 hR hR7 hrow7 hm196 HM7 hbl7 hbr7 hnews HM6 hbl6 hbr6 hE7
                  refine steps_quiet 2 (by kernel_rfl) ?_
                  simp only [List.take_succ_cons, List.take_zero, List.drop_succ_cons, List.drop_zero]
                  repeat (go_big_quiet_step (fail))
                  refine wpQuiet_nil ?_
                  refine steps_want rfl (fun K hK => ?_)
                  go_simp
                  refine hK _ _ (fun _ => True) trivial (fun _ _ => trivial) ?_
                  clear hK K
                  clear hmc hmf
                  refine steps_end ?_
                  refine walkP_done ?_
                  try simp only [Act.put]
                  generalize World.setCell w9 _ _ = w10 at *
                  go_wp2_with (first | (refine wpList_load_row rfl _ _ rfl bl rfl _ #[.int .u64 (s.tok + 1), .int .i64 xr, .int .i64 xk, .int .i64 xi, .int .i64 z, .int .i64 (now + 20)] _ _ hbl10 Try.underlying56 rfl leaseInfo ?_) | (refine wpList_store_row rfl _ _ _ rfl br (lsA (⟨s.tok + 1, xr, xk, xi, z, now + 20⟩ : Ls)) rfl rfl _ _ hbr10 (leaseInfo' (⟨s.tok + 1, xr, xk, xi, z, now + 20⟩ : Ls)) rfl (lsA_all _) ?_))
                  have hbr11 := setRow_blk (cs := lsA (⟨s.tok + 1, xr, xk, xi, z, now + 20⟩ : Ls)) hbr10
                  refine bodyPost_ret (v := .tuple #[lsV (⟨s.tok + 1, xr, xk, xi, z, now + 20⟩ : Ls), .int .i64 0]) (results_cell2 Try.results8 _ _ br 56 (lsA (⟨s.tok + 1, xr, xk, xi, z, now + 20⟩ : Ls)) _ _ rfl hbr11 Try.underlying56 rfl (leaseInfo' _)) rfl ⟨by rw [pollL, pollE, if_neg HZ.out, if_neg HZ.out, if_neg (by omega), if_neg (by omega), HPK.out]; rfl, ?_⟩
                  rw [pollS, if_neg HZ.out, if_neg (by omega), HPK.out]
                  exact (HM10.setRow hnr10 (Nat.le_of_eq HBR.out.symm) _).mstep
            · refine steps_want rfl (fun K hK => ?_)
              go_simp
              have hE5 : Ext w4 (w4.alloc (.cells (lsA zeroL) 56)) := ext_alloc w4 _
              refine hK _ _ _ (show Blk (w4.alloc _) bt 43 (tkA ⟨xr, xk, xi, xs_⟩) from hbt4.of_eq (hE5.block bt hbt4.lt)) (fun _ h => h) ?_
              clear hK K
              refine steps_end ?_
              refine walkP_seg ?_
              simp only [List.filterMap_cons, List.filterMap_nil, List.getElem?_cons_zero, List.getElem?_cons_succ]
              have hbl0 := Blk.new w4 56 (lsA zeroL)
              have HM4 := HM3'.ext hE5
              have hbt5 := hbt4.of_eq (hE5.block bt hbt4.lt)
              have hbr5 := hbr4.of_eq (hE5.block br hbr4.lt)
              have hnl3 : ¬ F3 w4.heap.size := fun hb => by have := (mP_loc m _).lt HM3'.p hb; omega
              have hbne : bt ≠ w4.heap.size := by have := hbt4.lt; omega
              have hbne2 : br ≠ w4.heap.size := by have := hbr4.lt; omega
              have hWl : W.heap.size ≤ w4.heap.size := HM3'.t.size
              clear HM3' hbt4 hbr4
              refine steps_want rfl (fun K hK => ?_)
              go_simp
              refine (next_any _ m _ F3 HM4.p ht ht2).mono ?_
              rintro e w5 ⟨rfl, hS5⟩
              obtain ⟨F5, HM5, ht5, hn5⟩ := HM4.step hS5
              have hbt6 := ht5.blk hbt5 hnt3
              have hbr6 := ht5.blk hbr5 hnr3
              have hbl5 := ht5.blk hbl0 hnl3
              have hnr5 := hn5 br hnr3 hbr5.lt
              have hnl5 := hn5 _ hnl3 hbl0.lt
              clear hS5 ht5 hn5 HM4 hbt5 hbr5 hbl0 hE5
              refine hK _ _ _ hbt6 (fun _ h => h) ?_
              clear hK K
              refine steps_quiet 1 (by kernel_rfl) ?_
              simp only [List.take_succ_cons, List.take_zero, List.drop_succ_cons, List.drop_zero]
              repeat (go_big_quiet_step (fail))
              refine wpQuiet_nil ?_
              refine steps_want rfl (fun K hK => ?_)
              refine wp_store_row _ _ _ rfl w4.heap.size (lsA ⟨s.tok + 1, xr, xk, xi, z, now + 20⟩) rfl rfl _ _ hbl5 (leaseInfo' _) rfl (lsA_all _) ?_
              refine hK _ _ _ (show Blk (w5.setRow w4.heap.size _) bt 43 (tkA ⟨xr, xk, xi, xs_⟩) from setRow_far hbt6 hbne) (fun _ h => h) ?_
              clear hK K
              refine steps_end ?_
              refine walkP_done ?_
              try simp only [Act.put]
              have HPE : PEnd W m F { s.setq (z.toNat) (others (s.q (z.toNat)) xr xk xi) with tok := s.tok + 1 } w4.heap.size br ⟨s.tok + 1, xr, xk, xi, z, now + 20⟩ _ := ⟨F5, HM5.setRow hnl5 hWl (lsA ⟨s.tok + 1, xr, xk, xi, z, now + 20⟩), setRow_blk hbl5, setRow_far hbr6 hbne2, hnl5, hnr5⟩
              clear hbt6 hbr6 hbl5 HM5 hnl5 hnr5 hbne hbne2
              go_upto_region 14 with fail
              refine gen_world' _ HPE ?_
              clear HPE
              generalize w4.heap.size = bl at *
              rintro w6 ⟨F5, HM6, hbl6, hbr6, hnl5, hnr5⟩
              generalize w5 = wx at *
              replace HM6 := HM6.ext (Ext.refl w6).drew
              replace hbl6 : Blk w6.drew bl _ _ := hbl6.of_eq rfl
              replace hbr6 : Blk w6.drew br _ _ := hbr6.of_eq rfl
              have hne_ : Nonempty (Of (fun _ : World => True)) := trueOf_ne (W := w6)
              refine region_plan (.seg [0,1,2,3] [true,true,true,true] (.fork 4 (.seg [5,6,7,8,9,10] [false,false,false,true,true,false] .done) 5 (.fork 4 (.seg [6,7,8,9,10] [false,false,true,true,false] .done) 6 (.seg [4,7,8,9,10] [false,false,true,true,false] .done)))) (fun _ : World => True) (by kernel_rfl) (by kernel_rfl) trivial ?_
              generalize World.drew w6 = w6 at *
              obtain ⟨Fq, lv, hR, hF5⟩ := HM6.p
              obtain ⟨i0, hi0, hi1, hi2, hi3⟩ := info_parts6 lsInfo
              have hlc := hR.lcell
              refine walkP_seg ?_
              simp only [List.filterMap_cons, List.filterMap_nil, List.getElem?_cons_zero, List.getElem?_cons_succ]
              refine steps_quiet 4 (by kernel_rfl) ?_
              simp only [List.take_succ_cons, List.take_zero, List.drop_succ_cons, List.drop_zero]
              repeat (go_big_quiet_step (fail))
              refine wpQuiet_nil ?_
              refine steps_end ?_
              refine walkP_fork ?_ ?_
              all_goals simp only [List.filterMap_cons, List.filterMap_nil, List.getElem?_cons_zero, List.getElem?_cons_succ]
              · refine steps_want rfl (fun K hK => ?_)
                go_simp
                refine hK _ _ (fun _ => True) trivial (fun _ _ => trivial) ?_
                clear hK K
                refine steps_end ?_
                refine walkP_seg ?_
                simp only [List.filterMap_cons, List.filterMap_nil, List.getElem?_cons_zero, List.getElem?_cons_succ]
                refine steps_want rfl (fun K hK => ?_)
                refine wp_load_row _ _ rfl bl rfl _ #[.int .u64 (s.tok + 1), .int .i64 xr, .int .i64 xk, .int .i64 xi, .int .i64 z, .int .i64 (now + 20)] _ _ hbl6 Try.underlying56 rfl leaseInfo ?_
                refine hK _ _ (fun _ => True) trivial (fun _ _ => trivial) ?_
                clear hK K
                try simp only [Act.put, List.setIfInBounds_toArray, List.set_cons_succ, List.set_cons_zero]
                refine steps_want rfl (fun K hK => ?_)
                go_simp
                refine hK _ _ (fun _ => True) trivial (fun _ _ => trivial) ?_
                clear hK K
                have hE7 : Ext w6 (w6.alloc (.cells (lsA (⟨s.tok + 1, xr, xk, xi, z, now + 20⟩ : Ls)) 56)) := ext_alloc w6 _
                have HM7 := HM6.ext hE7
                have hbl7 := hbl6.of_eq (hE7.block bl hbl6.lt)
                have hbr7 := hbr6.of_eq (hE7.block br hbr6.lt)
                have hnews := news_new w6 (lsC (⟨s.tok + 1, xr, xk, xi, z, now + 20⟩ : Ls)) 56
                have hlb : (s.ls.length : Int) ≤ 256 := by omega
                refine steps_want rfl (fun K hK => ?_)
                refine wp_append_new _ _ 39 rfl 56 i0 (.agg (lsA zeroL)) 6 48 Try.underlying39 hi0 hi1 hi2 hi3 rfl (by decide) lv s.ls.length (flatL s.ls) rfl (ownsRow_ext hR.own hE7) _ 1 1 (lsC (⟨s.tok + 1, xr, xk, xi, z, now + 20⟩ : Ls)) rfl rfl (fun h => by cases h) hnews (lsC_one _) (by unfold maxLen; omega) (by omega) ?_
                intro v9 w9 hown9 hg9 hf9
                obtain ⟨p9, c9, rfl⟩ := ownsRow_slice hown9
                have hR7 := hR.ext hE7
                have hrow7 : ∀ b, lv.ownBlock = some b → b ≠ m := fun b hb => (hR.ol b hb).1
                obtain ⟨mc, mT, hmb, _, _, _, hm196⟩ := hR7.blk
                have hmb9 := (grownBy.tch hg9).blk hmb (fun hk => hrow7 m hk rfl)
                have hmc : w9.cell? ⟨m, 196, none⟩ = some lv := by rw [hmb9.cell, hm196]
                have hmf : w9.frozen? ⟨m, 196, none⟩ = false := hmb9.frozen 196
                refine hK _ _ (fun _ => True) trivial (fun _ _ => trivial) ?_
                clear hK K
                try simp only [Act.put, List.setIfInBounds_toArray, List.set_cons_succ, List.set_cons_zero]
                have hown9' : w9.ownsRow 0 56 6 (.slice p9 (s.ls.length + 1) c9) (s.ls ++ [(⟨s.tok + 1, xr, xk, xi, z, now + 20⟩ : Ls)]).length (flatL (s.ls ++ [(⟨s.tok + 1, xr, xk, xi, z, now + 20⟩ : Ls)])) := by
                  rw [flatL_append, List.length_append]
                  have e : flatL [(⟨s.tok + 1, xr, xk, xi, z, now + 20⟩ : Ls)] = lsC (⟨s.tok + 1, xr, xk, xi, z, now + 20⟩ : Ls) := by simp [flatL]
                  rw [e]
                  exact hown9
                obtain ⟨F10, HM10, ht10, hn10⟩ := HM7.step (s2 := { s.setq (z.toNat) (others (s.q (z.toNat)) xr xk xi) with tok := s.tok + 1, ls := s.ls ++ [(⟨s.tok + 1, xr, xk, xi, z, now + 20⟩ : Ls)] }) (by have h8 := hR7.setl (ls' := s.ls ++ [(⟨s.tok + 1, xr, xk, xi, z, now + 20⟩ : Ls)]) (by simp; omega) (grownBy.tch hg9) hown9' hf9.1; rw [← hF5] at h8; exact h8)
                have hbl10 := ht10.blk hbl7 hnl5
                have hbr10 := ht10.blk hbr7 hnr5
                have hnr10 := hn10 br hnr5 hbr7.lt
                clear hown9' hown9 hg9 hf9 hmb hmb9 ht10 hn10 hR hR7 hrow7 hm196 HM7 hbl7 hbr7 hnews HM6 hbl6 hbr6 hE7
                refine steps_quiet 2 (by kernel_rfl) ?_
                simp only [List.take_succ_cons, List.take_zero, List.drop_succ_cons, List.drop_zero]
                repeat (go_big_quiet_step (fail))
                refine wpQuiet_nil ?_
                refine steps_want rfl (fun K hK => ?_)
                go_simp
                refine hK _ _ (fun _ => True) trivial (fun _ _ => trivial) ?_
                clear hK K
                clear hmc hmf
                refine steps_end ?_
                refine walkP_done ?_
                try simp only [Act.put]
                generalize World.setCell w9 _ _ = w10 at *
                go_wp2_with (first | (refine wpList_load_row rfl _ _ rfl bl rfl _ #[.int .u64 (s.tok + 1), .int .i64 xr, .int .i64 xk, .int .i64 xi, .int .i64 z, .int .i64 (now + 20)] _ _ hbl10 Try.underlying56 rfl leaseInfo ?_) | (refine wpList_store_row rfl _ _ _ rfl br (lsA (⟨s.tok + 1, xr, xk, xi, z, now + 20⟩ : Ls)) rfl rfl _ _ hbr10 (leaseInfo' (⟨s.tok + 1, xr, xk, xi, z, now + 20⟩ : Ls)) rfl (lsA_all _) ?_))
                have hbr11 := setRow_blk (cs := lsA (⟨s.tok + 1, xr, xk, xi, z, now + 20⟩ : Ls)) hbr10
                refine bodyPost_ret (v := .tuple #[lsV (⟨s.tok + 1, xr, xk, xi, z, now + 20⟩ : Ls), .int .i64 0]) (results_cell2 Try.results8 _ _ br 56 (lsA (⟨s.tok + 1, xr, xk, xi, z, now + 20⟩ : Ls)) _ _ rfl hbr11 Try.underlying56 rfl (leaseInfo' _)) rfl ⟨by rw [pollL, pollE, if_neg HZ.out, if_neg HZ.out, if_neg (by omega), if_neg (by omega), HPK.out]; rfl, ?_⟩
                rw [pollS, if_neg HZ.out, if_neg (by omega), HPK.out]
                exact (HM10.setRow hnr10 (Nat.le_of_eq HBR.out.symm) _).mstep
              · refine steps_want rfl (fun K hK => ?_)
                refine wp_load_row _ _ rfl bl rfl _ #[.int .u64 (s.tok + 1), .int .i64 xr, .int .i64 xk, .int .i64 xi, .int .i64 z, .int .i64 (now + 20)] _ _ hbl6 Try.underlying56 rfl leaseInfo ?_
                refine hK _ _ (fun _ => True) trivial (fun _ _ => trivial) ?_
                clear hK K
                try simp only [Act.put, List.setIfInBounds_toArray, List.set_cons_succ, List.set_cons_zero]
                refine steps_end ?_
                refine walkP_fork ?_ ?_
                all_goals simp only [List.filterMap_cons, List.filterMap_nil, List.getElem?_cons_zero, List.getElem?_cons_succ]
                · refine steps_want rfl (fun K hK => ?_)
                  go_simp
                  refine hK _ _ (fun _ => True) trivial (fun _ _ => trivial) ?_
                  clear hK K
                  refine steps_end ?_
                  refine walkP_seg ?_
                  simp only [List.filterMap_cons, List.filterMap_nil, List.getElem?_cons_zero, List.getElem?_cons_succ]
                  refine steps_want rfl (fun K hK => ?_)
                  go_simp
                  refine hK _ _ (fun _ => True) trivial (fun _ _ => trivial) ?_
                  clear hK K
                  have hE7 : Ext w6 (w6.alloc (.cells (lsA (⟨s.tok + 1, xr, xk, xi, z, now + 20⟩ : Ls)) 56)) := ext_alloc w6 _
                  have HM7 := HM6.ext hE7
                  have hbl7 := hbl6.of_eq (hE7.block bl hbl6.lt)
                  have hbr7 := hbr6.of_eq (hE7.block br hbr6.lt)
                  have hnews := news_new w6 (lsC (⟨s.tok + 1, xr, xk, xi, z, now + 20⟩ : Ls)) 56
                  have hlb : (s.ls.length : Int) ≤ 256 := by omega
                  refine steps_want rfl (fun K hK => ?_)
                  refine wp_append_new _ _ 39 rfl 56 i0 (.agg (lsA zeroL)) 6 48 Try.underlying39 hi0 hi1 hi2 hi3 rfl (by decide) lv s.ls.length (flatL s.ls) rfl (ownsRow_ext hR.own hE7) _ 1 1 (lsC (⟨s.tok + 1, xr, xk, xi, z, now + 20⟩ : Ls)) rfl rfl (fun h => by cases h) hnews (lsC_one _) (by unfold maxLen; omega) (by omega) ?_
                  intro v9 w9 hown9 hg9 hf9
                  obtain ⟨p9, c9, rfl⟩ := ownsRow_slice hown9
                  have hR7 := hR.ext hE7
                  have hrow7 : ∀ b, lv.ownBlock = some b → b ≠ m := fun b hb => (hR.ol b hb).1
                  obtain ⟨mc, mT, hmb, _, _, _, hm196⟩ := hR7.blk
                  have hmb9 := (grownBy.tch hg9).blk hmb (fun hk => hrow7 m hk rfl)
                  have hmc : w9.cell? ⟨m, 196, none⟩ = some lv := by rw [hmb9.cell, hm196]
                  have hmf : w9.frozen? ⟨m, 196, none⟩ = false := hmb9.frozen 196
                  refine hK _ _ (fun _ => True) trivial (fun _ _ => trivial) ?_
                  clear hK K
                  try simp only [Act.put, List.setIfInBounds_toArray, List.set_cons_succ, List.set_cons_zero]
                  have hown9' : w9.ownsRow 0 56 6 (.slice p9 (s.ls.length + 1) c9) (s.ls ++ [(⟨s.tok + 1, xr, xk, xi, z, now + 20⟩ : Ls)]).length (flatL (s.ls ++ [(⟨s.tok + 1, xr, xk, xi, z, now + 20⟩ : Ls)])) := by
                    rw [flatL_append, List.length_append]
                    have e : flatL [(⟨s.tok + 1, xr, xk, xi, z, now + 20⟩ : Ls)] = lsC (⟨s.tok + 1, xr, xk, xi, z, now + 20⟩ : Ls) := by simp [flatL]
                    rw [e]
                    exact hown9
                  obtain ⟨F10, HM10, ht10, hn10⟩ := HM7.step (s2 := { s.setq (z.toNat) (others (s.q (z.toNat)) xr xk xi) with tok := s.tok + 1, ls := s.ls ++ [(⟨s.tok + 1, xr, xk, xi, z, now + 20⟩ : Ls)] }) (by have h8 := hR7.setl (ls' := s.ls ++ [(⟨s.tok + 1, xr, xk, xi, z, now + 20⟩ : Ls)]) (by simp; omega) (grownBy.tch hg9) hown9' hf9.1; rw [← hF5] at h8; exact h8)
                  have hbl10 := ht10.blk hbl7 hnl5
                  have hbr10 := ht10.blk hbr7 hnr5
                  have hnr10 := hn10 br hnr5 hbr7.lt
                  clear hown9' hown9 hg9 hf9 hmb hmb9 ht10 hn10 hR hR7 hrow7 hm196 HM7 hbl7 hbr7 hnews HM6 hbl6 hbr6 hE7
                  refine steps_quiet 2 (by kernel_rfl) ?_
                  simp only [List.take_succ_cons, List.take_zero, List.drop_succ_cons, List.drop_zero]
                  repeat (go_big_quiet_step (fail))
                  refine wpQuiet_nil ?_
                  refine steps_want rfl (fun K hK => ?_)
                  go_simp
                  refine hK _ _ (fun _ => True) trivial (fun _ _ => trivial) ?_
                  clear hK K
                  clear hmc hmf
                  refine steps_end ?_
                  refine walkP_done ?_
                  try simp only [Act.put]
                  generalize World.setCell w9 _ _ = w10 at *
                  go_wp2_with (first | (refine wpList_load_row rfl _ _ rfl bl rfl _ #[.int .u64 (s.tok + 1), .int .i64 xr, .int .i64 xk, .int .i64 xi, .int .i64 z, .int .i64 (now + 20)] _ _ hbl10 Try.underlying56 rfl leaseInfo ?_) | (refine wpList_store_row rfl _ _ _ rfl br (lsA (⟨s.tok + 1, xr, xk, xi, z, now + 20⟩ : Ls)) rfl rfl _ _ hbr10 (leaseInfo' (⟨s.tok + 1, xr, xk, xi, z, now + 20⟩ : Ls)) rfl (lsA_all _) ?_))
                  have hbr11 := setRow_blk (cs := lsA (⟨s.tok + 1, xr, xk, xi, z, now + 20⟩ : Ls)) hbr10
                  refine bodyPost_ret (v := .tuple #[lsV (⟨s.tok + 1, xr, xk, xi, z, now + 20⟩ : Ls), .int .i64 0]) (results_cell2 Try.results8 _ _ br 56 (lsA (⟨s.tok + 1, xr, xk, xi, z, now + 20⟩ : Ls)) _ _ rfl hbr11 Try.underlying56 rfl (leaseInfo' _)) rfl ⟨by rw [pollL, pollE, if_neg HZ.out, if_neg HZ.out, if_neg (by omega), if_neg (by omega), HPK.out]; rfl, ?_⟩
                  rw [pollS, if_neg HZ.out, if_neg (by omega), HPK.out]
                  exact (HM10.setRow hnr10 (Nat.le_of_eq HBR.out.symm) _).mstep
                · refine steps_want rfl (fun K hK => ?_)
                  go_simp
                  refine hK _ _ (fun _ => True) trivial (fun _ _ => trivial) ?_
                  clear hK K
                  refine steps_end ?_
                  refine walkP_seg ?_
                  simp only [List.filterMap_cons, List.filterMap_nil, List.getElem?_cons_zero, List.getElem?_cons_succ]
                  have hlc7 : (w6.alloc (.cells #[.int .u64 (s.tok + 1), .int .i64 xr, .int .i64 xk, .int .i64 xi, .int .i64 z, .int .i64 (now + 20)] 56)).cell? ⟨m, 196, none⟩ = some lv := (hR.ext (ext_alloc w6 _)).lcell
                  refine steps_want rfl (fun K hK => ?_)
                  go_simp
                  refine hK _ _ (fun _ => True) trivial (fun _ _ => trivial) ?_
                  clear hK K
                  clear hlc7
                  have hE7 : Ext w6 (w6.alloc (.cells (lsA (⟨s.tok + 1, xr, xk, xi, z, now + 20⟩ : Ls)) 56)) := ext_alloc w6 _
                  have HM7 := HM6.ext hE7
                  have hbl7 := hbl6.of_eq (hE7.block bl hbl6.lt)
                  have hbr7 := hbr6.of_eq (hE7.block br hbr6.lt)
                  have hnews := news_new w6 (lsC (⟨s.tok + 1, xr, xk, xi, z, now + 20⟩ : Ls)) 56
                  have hlb : (s.ls.length : Int) ≤ 256 := by omega
                  refine steps_want rfl (fun K hK => ?_)
                  refine wp_append_new _ _ 39 rfl 56 i0 (.agg (lsA zeroL)) 6 48 Try.underlying39 hi0 hi1 hi2 hi3 rfl (by decide) lv s.ls.length (flatL s.ls) rfl (ownsRow_ext hR.own hE7) _ 1 1 (lsC (⟨s.tok + 1, xr, xk, xi, z, now + 20⟩ : Ls)) rfl rfl (fun h => by cases h) hnews (lsC_one _) (by unfold maxLen; omega) (by omega) ?_
                  intro v9 w9 hown9 hg9 hf9
                  obtain ⟨p9, c9, rfl⟩ := ownsRow_slice hown9
                  have hR7 := hR.ext hE7
                  have hrow7 : ∀ b, lv.ownBlock = some b → b ≠ m := fun b hb => (hR.ol b hb).1
                  obtain ⟨mc, mT, hmb, _, _, _, hm196⟩ := hR7.blk
                  have hmb9 := (grownBy.tch hg9).blk hmb (fun hk => hrow7 m hk rfl)
                  have hmc : w9.cell? ⟨m, 196, none⟩ = some lv := by rw [hmb9.cell, hm196]
                  have hmf : w9.frozen? ⟨m, 196, none⟩ = false := hmb9.frozen 196
                  refine hK _ _ (fun _ => True) trivial (fun _ _ => trivial) ?_
                  clear hK K
                  try simp only [Act.put, List.setIfInBounds_toArray, List.set_cons_succ, List.set_cons_zero]
                  have hown9' : w9.ownsRow 0 56 6 (.slice p9 (s.ls.length + 1) c9) (s.ls ++ [(⟨s.tok + 1, xr, xk, xi, z, now + 20⟩ : Ls)]).length (flatL (s.ls ++ [(⟨s.tok + 1, xr, xk, xi, z, now + 20⟩ : Ls)])) := by
                    rw [flatL_append, List.length_append]
                    have e : flatL [(⟨s.tok + 1, xr, xk, xi, z, now + 20⟩ : Ls)] = lsC (⟨s.tok + 1, xr, xk, xi, z, now + 20⟩ : Ls) := by simp [flatL]
                    rw [e]
                    exact hown9
                  obtain ⟨F10, HM10, ht10, hn10⟩ := HM7.step (s2 := { s.setq (z.toNat) (others (s.q (z.toNat)) xr xk xi) with tok := s.tok + 1, ls := s.ls ++ [(⟨s.tok + 1, xr, xk, xi, z, now + 20⟩ : Ls)] }) (by have h8 := hR7.setl (ls' := s.ls ++ [(⟨s.tok + 1, xr, xk, xi, z, now + 20⟩ : Ls)]) (by simp; omega) (grownBy.tch hg9) hown9' hf9.1; rw [← hF5] at h8; exact h8)
                  have hbl10 := ht10.blk hbl7 hnl5
                  have hbr10 := ht10.blk hbr7 hnr5
                  have hnr10 := hn10 br hnr5 hbr7.lt
                  clear hown9' hown9 hg9 hf9 hmb hmb9 ht10 hn10 hR hR7 hrow7 hm196 HM7 hbl7 hbr7 hnews HM6 hbl6 hbr6 hE7
                  refine steps_quiet 2 (by kernel_rfl) ?_
                  simp only [List.take_succ_cons, List.take_zero, List.drop_succ_cons, List.drop_zero]
                  repeat (go_big_quiet_step (fail))
                  refine wpQuiet_nil ?_
                  refine steps_want rfl (fun K hK => ?_)
                  go_simp
                  refine hK _ _ (fun _ => True) trivial (fun _ _ => trivial) ?_
                  clear hK K
                  clear hmc hmf
                  refine steps_end ?_
                  refine walkP_done ?_
                  try simp only [Act.put]
                  generalize World.setCell w9 _ _ = w10 at *
                  go_wp2_with (first | (refine wpList_load_row rfl _ _ rfl bl rfl _ #[.int .u64 (s.tok + 1), .int .i64 xr, .int .i64 xk, .int .i64 xi, .int .i64 z, .int .i64 (now + 20)] _ _ hbl10 Try.underlying56 rfl leaseInfo ?_) | (refine wpList_store_row rfl _ _ _ rfl br (lsA (⟨s.tok + 1, xr, xk, xi, z, now + 20⟩ : Ls)) rfl rfl _ _ hbr10 (leaseInfo' (⟨s.tok + 1, xr, xk, xi, z, now + 20⟩ : Ls)) rfl (lsA_all _) ?_))
                  have hbr11 := setRow_blk (cs := lsA (⟨s.tok + 1, xr, xk, xi, z, now + 20⟩ : Ls)) hbr10
                  refine bodyPost_ret (v := .tuple #[lsV (⟨s.tok + 1, xr, xk, xi, z, now + 20⟩ : Ls), .int .i64 0]) (results_cell2 Try.results8 _ _ br 56 (lsA (⟨s.tok + 1, xr, xk, xi, z, now + 20⟩ : Ls)) _ _ rfl hbr11 Try.underlying56 rfl (leaseInfo' _)) rfl ⟨by rw [pollL, pollE, if_neg HZ.out, if_neg HZ.out, if_neg (by omega), if_neg (by omega), HPK.out]; rfl, ?_⟩
                  rw [pollS, if_neg HZ.out, if_neg (by omega), HPK.out]
                  exact (HM10.setRow hnr10 (Nat.le_of_eq HBR.out.symm) _).mstep
    · subst hj
      clear hj2
      have HJ := Lib.hid (hj1 (by omega))
      clear hj1
      obtain ⟨G, hG⟩ := mP_q ((mP_loc m s).ext h (hE0.trans hEr)) (k := 0) (by omega) (o := 1) (by omega)
      have hqn := mP_qn h (k := 0) (by omega)
      go_wp2_with fail
      refine (qp_list hG (by omega)).mono ?_
      rintro e w1 ⟨v, rfl, hown, hE1⟩
      obtain ⟨L, hL⟩ : ∃ L, Hid (L = (s.q (0)).length) := ⟨_, Lib.hid rfl⟩
      rw [← hL.out] at hown
      obtain ⟨pv, cv, rfl⟩ := ownsRow_slice hown
      have hLb : (L : Int) ≤ 128 := by have := hL.out; omega
      have hE01 := (hE0.trans hEr).trans hE1
      clear hG
      go_wp2_with fail
      go_loopw [42] (fun v wr => PIRel w1 (s.q (0)) kind v wr) (fun v _ => ((L : Int) + 1 - intOf v).toNat)
      case atStart => exact ⟨[], s.q (0), rfl, rfl, by simp, Ext.refl _⟩
      case round =>
        obtain ⟨pre, post, hx, rfl, hno, hE2⟩ := hrel
        have hlen := hL.out
        cases post with
        | nil =>
          have hx' : s.q (0) = pre := by simpa using hx
          have hl2 : ¬ ((pre.length : Int) < L) := by rw [hlen, hx']; omega
          have HF : Hid ((s.q (0)).find? (fun x => x.kind == kind) = none) := Lib.hid (by rw [hx', List.find?_eq_none]; intro x hxm; simp [hno x hxm])
          clear hno hx hlen hx'
          go_wp2_with fail
          exact ⟨⟨2, by omega, by go_num, fun _ => HJ.out, fun _ => HF.out, (hEr.trans hE1).trans hE2⟩, by simp [intOf]⟩
        | cons x post =>
          have hl : (pre.length : Int) < L := by rw [hlen, hx]; simp; omega
          have hown' := ownsRow_ext hown hE2
          rw [hx] at hown' hlen
          obtain ⟨g, rfl, -, hg, x0, x1, x2⟩ := task_at hlen hown'
          have HN := Lib.hid hno
          have HL := Lib.hid hlen
          have HX := Lib.hid hx
          clear hno hlen hown' hx
          have hbt0 := Blk.new wr 43 (tkA zeroT)
          obtain ⟨xr, xk, xi, xs_⟩ := x
          go_upto_region 12 with (refine wpList_store_row rfl _ _ _ rfl wr.heap.size (tkA ⟨xr, xk, xi, xs_⟩) rfl rfl _ _ hbt0 (tkInfo _) rfl (tkA_all _) ?_)
          refine gen_world' (fun X => Ext wr X ∧ Blk X wr.heap.size 43 (tkA ⟨xr, xk, xi, xs_⟩)) ⟨setRow_ext' (ext_alloc wr _) (Nat.le_refl _), setRow_blk hbt0⟩ ?_
          clear hbt0 x0 x1 x2
          rintro w2 ⟨hE3, hbt⟩
          obtain ⟨bt, hbtn⟩ : ∃ b, b = wr.heap.size := ⟨_, rfl⟩
          rw [← hbtn] at hbt ⊢
          have HBT := Lib.hid hbtn
          clear hbtn
          have c0 : w2.cell? ⟨bt, 0, none⟩ = some (.int .i64 xr) := hbt.cell 0
          have c1 : w2.cell? ⟨bt, 1, none⟩ = some (.int .i64 xk) := hbt.cell 1
          have c2 : w2.cell? ⟨bt, 2, none⟩ = some (.int .i64 xi) := hbt.cell 2
          try simp only [Act.put]
          obtain ⟨bk, hbk⟩ : ∃ b, (xk == kind) = b := ⟨_, rfl⟩
          cases bk with
          | false =>
            have HBK := Lib.hid hbk
            go_wp2_with fail
            refine ⟨⟨pre ++ [⟨xr, xk, xi, xs_⟩], post, by rw [HX.out]; simp, by simp, ?_, hE2.trans hE3⟩, by have := HL.out; simp [intOf] at *; omega⟩
            intro y hy
            rcases List.mem_append.1 hy with h | h
            · exact HN.out y h
            · simp at h; subst h; exact HBK.out
          | true =>
            have HM := Mid.start h ((hE01.trans hE2).trans hE3)
            have hxm : (⟨xr, xk, xi, xs_⟩ : It) ∈ s.q (0) := by rw [HX.out]; simp
            have hok := mP_ok h (k := 0) (by omega) _ hxm
            have hfi : (s.q (0)).find? (fun x => x.kind == kind) = some ⟨xr, xk, xi, xs_⟩ := by
              rw [HX.out, List.find?_append, List.find?_eq_none.2 (fun y hy => by simp [HN.out y hy])]
              simp [hbk]
            have HPK : Hid (s.pick z kind = some (0, ⟨xr, xk, xi, xs_⟩)) := Lib.hid (by unfold MS.pick; rw [HJ.out, hfi]; rfl)
            clear hfi
            have hrem : (s.q (0)).any (isK · xr xk xi) = true := by rw [List.any_eq_true]; exact ⟨_, hxm, isK_iff.2 ⟨rfl, rfl, rfl⟩⟩
            have HR := Lib.hid hrem
            clear hrem
            go_wp2_with fail
            refine (mP_act HM.p (k := 0) (o := 1) (by omega) (by omega) (Nat.le_trans (List.length_filter_le _ _) hqn) fun G hG => qp_remove hG xr xk xi hok.key).mono ?_
            rintro e w3 ⟨rfl, hS3⟩
            rw [HR.out]
            obtain ⟨F3, HM3, ht3, hn3⟩ := HM.step hS3
            have hnt : ¬ F bt := fun hb => by
              have h1 := (mP_loc m s).lt h hb
              have h2 := HBT.out
              have h3 := ((hE01.trans hE2)).le
              omega
            have hbt3 := ht3.blk hbt hnt
            have hnt3 := hn3 bt hnt hbt.lt
            have hnr : ¬ F br := fun hb => by
              have h1 := (mP_loc m s).lt h hb
              have h2 := HBR.out
              omega
            have hbr2 := hbr.of_eq (((hEr.trans hE1).trans (hE2.trans hE3)).block br hbr.lt)
            have hbr3 := ht3.blk hbr2 hnr
            have hnr3 := hn3 br hnr hbr2.lt
            clear hS3 ht3 hn3 HM c0 c1 c2 hbt hnt hnr hbr2
            go_wp2_with fail
            have d0 : ∀ x : Of (fun X => Blk X bt 43 (tkA ⟨xr, xk, xi, xs_⟩)), x.val.cell? ⟨bt, 0, none⟩ = some (.int .i64 xr) := fun x => x.property.cell 0
            have d1 : ∀ x : Of (fun X => Blk X bt 43 (tkA ⟨xr, xk, xi, xs_⟩)), x.val.cell? ⟨bt, 1, none⟩ = some (.int .i64 xk) := fun x => x.property.cell 1
            have d2 : ∀ x : Of (fun X => Blk X bt 43 (tkA ⟨xr, xk, xi, xs_⟩)), x.val.cell? ⟨bt, 2, none⟩ = some (.int .i64 xi) := fun x => x.property.cell 2
            have hFd := (show Blk w3.drew bt 43 (tkA ⟨xr, xk, xi, xs_⟩) from hbt3.of_eq rfl)
            have hne_ : Nonempty (Of ((fun X => Blk X bt 43 (tkA ⟨xr, xk, xi, xs_⟩)))) := ⟨⟨_, hFd⟩⟩
            refine region_plan (.seg [0,1,2,4,5,6,7] [true,true,true,true,true,true,true] (.fork 3 (.seg [8,9,10] [true,false,false] .done) 9 (.seg [3,8,10] [false,true,false] .done))) ((fun X => Blk X bt 43 (tkA ⟨xr, xk, xi, xs_⟩))) (by kernel_rfl) (by kernel_rfl) hFd ?_
            refine walkP_seg ?_
            simp only [List.filterMap_cons, List.filterMap_nil, List.getElem?_cons_zero, List.getElem?_cons_succ]
            refine steps_quiet 7 (by kernel_rfl) ?_
            simp only [List.take_succ_cons, List.take_zero, List.drop_succ_cons, List.drop_zero]
            repeat (go_big_quiet_step (fail))
            refine wpQuiet_nil ?_
            clear d0 d1 d2 hFd
            have HM3' := HM3.ext (Ext.refl w3).drew
            have hbt4 : Blk w3.drew bt 43 (tkA ⟨xr, xk, xi, xs_⟩) := hbt3.of_eq rfl
            have hbr4 : Blk w3.drew br 56 (lsA zeroL) := hbr3.of_eq rfl
            clear hbt3 hbr3 HM3
            generalize World.drew w3 = w4 at *
            refine steps_end ?_
            refine walkP_fork ?_ ?_
            all_goals simp only [List.filterMap_cons, List.filterMap_nil, List.getElem?_cons_zero, List.getElem?_cons_succ]
            · refine steps_want rfl (fun K hK => ?_)
              go_simp
              refine (next_any w4 m _ F3 HM3'.p ht ht2).mono ?_
              rintro e w5 ⟨rfl, hS5⟩
              obtain ⟨F5, HM5, ht5, hn5⟩ := HM3'.step hS5
              have hbt5 := ht5.blk hbt4 hnt3
              have hbr5 := ht5.blk hbr4 hnr3
              have hnr5 := hn5 br hnr3 hbr4.lt
              clear hS5 ht5 hn5 HM3' hbt4 hbr4
              refine hK _ _ _ hbt5 (fun _ h => h) ?_
              clear hK K
              refine steps_end ?_
              refine walkP_seg ?_
              simp only [List.filterMap_cons, List.filterMap_nil, List.getElem?_cons_zero, List.getElem?_cons_succ]
              refine steps_quiet 1 (by kernel_rfl) ?_
              simp only [List.take_succ_cons, List.take_zero, List.drop_succ_cons, List.drop_zero]
              repeat (go_big_quiet_step (fail))
              refine wpQuiet_nil ?_
              refine steps_want rfl (fun K hK => ?_)
              go_simp
              refine hK _ _ _ (show Blk (w5.alloc _) bt 43 (tkA ⟨xr, xk, xi, xs_⟩) from hbt5.of_eq ((ext_alloc w5 _).block bt hbt5.lt)) (fun _ h => h) ?_
              clear hK K
              have hbl0 := Blk.new w5 56 (lsA zeroL)
              have hb5 : bt ≠ w5.heap.size := by have := hbt5.lt; omega
              refine steps_want rfl (fun K hK => ?_)
              refine wp_store_row _ _ _ rfl w5.heap.size (lsA ⟨s.tok + 1, xr, xk, xi, z, now + 20⟩) rfl rfl _ _ hbl0 (leaseInfo' _) rfl (lsA_all _) ?_
              refine hK _ _ _ (show Blk ((w5.alloc _).setRow w5.heap.size _) bt 43 (tkA ⟨xr, xk, xi, xs_⟩) from setRow_far (hbt5.of_eq ((ext_alloc w5 _).block bt hbt5.lt)) hb5) (fun _ h => h) ?_
              clear hK K
              refine steps_end ?_
              refine walkP_done ?_
              try simp only [Act.put]
              have hE6 : Ext w5 ((w5.alloc (.cells (lsA zeroL) 56)).setRow w5.heap.size (lsA ⟨s.tok + 1, xr, xk, xi, z, now + 20⟩)) := setRow_ext' (ext_alloc w5 _) (Nat.le_refl _)
              have hbl6 := setRow_blk (cs := lsA ⟨s.tok + 1, xr, xk, xi, z, now + 20⟩) hbl0
              have HM6 := HM5.ext hE6
              have hbr6 := hbr5.of_eq (hE6.block br hbr5.lt)
              have hnl5 : ¬ F5 w5.heap.size := fun hb => by have := (mP_loc m _).lt HM5.p hb; omega
              have HPE : PEnd W m F { s.setq (0) (others (s.q (0)) xr xk xi) with tok := s.tok + 1 } w5.heap.size br ⟨s.tok + 1, xr, xk, xi, z, now + 20⟩ _ := ⟨F5, HM6, hbl6, hbr6, hnl5, hnr5⟩
              clear hbt5 hbr5 hbl0 HM5 hE6 hbl6 HM6 hbr6 hnl5 hnr5 hb5
              go_upto_region 14 with fail
              refine gen_world' _ HPE ?_
              clear HPE
              generalize w5.heap.size = bl at *
              rintro w6 ⟨F5, HM6, hbl6, hbr6, hnl5, hnr5⟩
              generalize w5 = wx at *
              replace HM6 := HM6.ext (Ext.refl w6).drew
              replace hbl6 : Blk w6.drew bl _ _ := hbl6.of_eq rfl
              replace hbr6 : Blk w6.drew br _ _ := hbr6.of_eq rfl
              have hne_ : Nonempty (Of (fun _ : World => True)) := trueOf_ne (W := w6)
              refine region_plan (.seg [0,1,2,3] [true,true,true,true] (.fork 4 (.seg [5,6,7,8,9,10] [false,false,false,true,true,false] .done) 5 (.fork 4 (.seg [6,7,8,9,10] [false,false,true,true,false] .done) 6 (.seg [4,7,8,9,10] [false,false,true,true,false] .done)))) (fun _ : World => True) (by kernel_rfl) (by kernel_rfl) trivial ?_
              generalize World.drew w6 = w6 at *
              obtain ⟨Fq, lv, hR, hF5⟩ := HM6.p
              obtain ⟨i0, hi0, hi1, hi2, hi3⟩ := info_parts6 lsInfo
              have hlc := hR.lcell
              refine walkP_seg ?_
              simp only [List.filterMap_cons, List.filterMap_nil, List.getElem?_cons_zero, List.getElem?_cons_succ]
              refine steps_quiet 4 (by kernel_rfl) ?_
              simp only [List.take_succ_cons, List.take_zero, List.drop_succ_cons, List.drop_zero]
              repeat (go_big_quiet_step (fail))
              refine wpQuiet_nil ?_
              refine steps_end ?_
              refine walkP_fork ?_ ?_
              all_goals simp only [List.filterMap_cons, List.filterMap_nil, List.getElem?_cons_zero, List.getElem?_cons_succ]
              · refine steps_want rfl (fun K hK => ?_)
                go_simp
                refine hK _ _ (fun _ => True) trivial (fun _ _ => trivial) ?_
                clear hK K
                refine steps_end ?_
                refine walkP_seg ?_
                simp only [List.filterMap_cons, List.filterMap_nil, List.getElem?_cons_zero, List.getElem?_cons_succ]
                refine steps_want rfl (fun K hK => ?_)
                refine wp_load_row _ _ rfl bl rfl _ #[.int .u64 (s.tok + 1), .int .i64 xr, .int .i64 xk, .int .i64 xi, .int .i64 z, .int .i64 (now + 20)] _ _ hbl6 Try.underlying56 rfl leaseInfo ?_
                refine hK _ _ (fun _ => True) trivial (fun _ _ => trivial) ?_
                clear hK K
                try simp only [Act.put, List.setIfInBounds_toArray, List.set_cons_succ, List.set_cons_zero]
                refine steps_want rfl (fun K hK => ?_)
                go_simp
                refine hK _ _ (fun _ => True) trivial (fun _ _ => trivial) ?_
                clear hK K
                have hE7 : Ext w6 (w6.alloc (.cells (lsA (⟨s.tok + 1, xr, xk, xi, z, now + 20⟩ : Ls)) 56)) := ext_alloc w6 _
                have HM7 := HM6.ext hE7
                have hbl7 := hbl6.of_eq (hE7.block bl hbl6.lt)
                have hbr7 := hbr6.of_eq (hE7.block br hbr6.lt)
                have hnews := news_new w6 (lsC (⟨s.tok + 1, xr, xk, xi, z, now + 20⟩ : Ls)) 56
                have hlb : (s.ls.length : Int) ≤ 256 := by omega
                refine steps_want rfl (fun K hK => ?_)
                refine wp_append_new _ _ 39 rfl 56 i0 (.agg (lsA zeroL)) 6 48 Try.underlying39 hi0 hi1 hi2 hi3 rfl (by decide) lv s.ls.length (flatL s.ls) rfl (ownsRow_ext hR.own hE7) _ 1 1 (lsC (⟨s.tok + 1, xr, xk, xi, z, now + 20⟩ : Ls)) rfl rfl (fun h => by cases h) hnews (lsC_one _) (by unfold maxLen; omega) (by omega) ?_
                intro v9 w9 hown9 hg9 hf9
                obtain ⟨p9, c9, rfl⟩ := ownsRow_slice hown9
                have hR7 := hR.ext hE7
                have hrow7 : ∀ b, lv.ownBlock = some b → b ≠ m := fun b hb => (hR.ol b hb).1
                obtain ⟨mc, mT, hmb, _, _, _, hm196⟩ := hR7.blk
                have hmb9 := (grownBy.tch hg9).blk hmb (fun hk => hrow7 m hk rfl)
                have hmc : w9.cell? ⟨m, 196, none⟩ = some lv := by rw [hmb9.cell, hm196]
                have hmf : w9.frozen? ⟨m, 196, none⟩ = false := hmb9.frozen 196
                refine hK _ _ (fun _ => True) trivial (fun _ _ => trivial) ?_
                clear hK K
                try simp only [Act.put, List.setIfInBounds_toArray, List.set_cons_succ, List.set_cons_zero]
                have hown9' : w9.ownsRow 0 56 6 (.slice p9 (s.ls.length + 1) c9) (s.ls ++ [(⟨s.tok + 1, xr, xk, xi, z, now + 20⟩ : Ls)]).length (flatL (s.ls ++ [(⟨s.tok + 1, xr, xk, xi, z, now + 20⟩ : Ls)])) := by
                  rw [flatL_append, List.length_append]
                  have e : flatL [(⟨s.tok + 1, xr, xk, xi, z, now + 20⟩ : Ls)] = lsC (⟨s.tok + 1, xr, xk, xi, z, now + 20⟩ : Ls) := by simp [flatL]
                  rw [e]
                  exact hown9
                obtain ⟨F10, HM10, ht10, hn10⟩ := HM7.step (s2 := { s.setq (0) (others (s.q (0)) xr xk xi) with tok := s.tok + 1, ls := s.ls ++ [(⟨s.tok + 1, xr, xk, xi, z, now + 20⟩ : Ls)] }) (by have h8 := hR7.setl (ls' := s.ls ++ [(⟨s.tok + 1, xr, xk, xi, z, now + 20⟩ : Ls)]) (by simp; omega) (grownBy.tch hg9) hown9' hf9.1; rw [← hF5] at h8; exact h8)
                have hbl10 := ht10.blk hbl7 hnl5
                have hbr10 := ht10.blk hbr7 hnr5
                have hnr10 := hn10 br hnr5 hbr7.lt
                clear hown9' hown9 hg9 hf9 hmb hmb9 ht10 hn10 hR hR7 hrow7 hm196 HM7 hbl7 hbr7 hnews HM6 hbl6 hbr6 hE7
                refine steps_quiet 2 (by kernel_rfl) ?_
                simp only [List.take_succ_cons, List.take_zero, List.drop_succ_cons, List.drop_zero]
                repeat (go_big_quiet_step (fail))
                refine wpQuiet_nil ?_
                refine steps_want rfl (fun K hK => ?_)
                go_simp
                refine hK _ _ (fun _ => True) trivial (fun _ _ => trivial) ?_
                clear hK K
                clear hmc hmf
                refine steps_end ?_
                refine walkP_done ?_
                try simp only [Act.put]
                generalize World.setCell w9 _ _ = w10 at *
                go_wp2_with (first | (refine wpList_load_row rfl _ _ rfl bl rfl _ #[.int .u64 (s.tok + 1), .int .i64 xr, .int .i64 xk, .int .i64 xi, .int .i64 z, .int .i64 (now + 20)] _ _ hbl10 Try.underlying56 rfl leaseInfo ?_) | (refine wpList_store_row rfl _ _ _ rfl br (lsA (⟨s.tok + 1, xr, xk, xi, z, now + 20⟩ : Ls)) rfl rfl _ _ hbr10 (leaseInfo' (⟨s.tok + 1, xr, xk, xi, z, now + 20⟩ : Ls)) rfl (lsA_all _) ?_))
                have hbr11 := setRow_blk (cs := lsA (⟨s.tok + 1, xr, xk, xi, z, now + 20⟩ : Ls)) hbr10
                refine bodyPost_ret (v := .tuple #[lsV (⟨s.tok + 1, xr, xk, xi, z, now + 20⟩ : Ls), .int .i64 0]) (results_cell2 Try.results8 _ _ br 56 (lsA (⟨s.tok + 1, xr, xk, xi, z, now + 20⟩ : Ls)) _ _ rfl hbr11 Try.underlying56 rfl (leaseInfo' _)) rfl ⟨by rw [pollL, pollE, if_neg HZ.out, if_neg HZ.out, if_neg (by omega), if_neg (by omega), HPK.out]; rfl, ?_⟩
                rw [pollS, if_neg HZ.out, if_neg (by omega), HPK.out]
                exact (HM10.setRow hnr10 (Nat.le_of_eq HBR.out.symm) _).mstep
              · refine steps_want rfl (fun K hK => ?_)
                refine wp_load_row _ _ rfl bl rfl _ #[.int .u64 (s.tok + 1), .int .i64 xr, .int .i64 xk, .int .i64 xi, .int .i64 z, .int .i64 (now + 20)] _ _ hbl6 Try.underlying56 rfl leaseInfo ?_
                refine hK _ _ (fun _ => True) trivial (fun _ _ => trivial) ?_
                clear hK K
                try simp only [Act.put, List.setIfInBounds_toArray, List.set_cons_succ, List.set_cons_zero]
                refine steps_end ?_
                refine walkP_fork ?_ ?_
                all_goals simp only [List.filterMap_cons, List.filterMap_nil, List.getElem?_cons_zero, List.getElem?_cons_succ]
                · refine steps_want rfl (fun K hK => ?_)
                  go_simp
                  refine hK _ _ (fun _ => True) trivial (fun _ _ => trivial) ?_
                  clear hK K
                  refine steps_end ?_
                  refine walkP_seg ?_
                  simp only [List.filterMap_cons, List.filterMap_nil, List.getElem?_cons_zero, List.getElem?_cons_succ]
                  refine steps_want rfl (fun K hK => ?_)
                  go_simp
                  refine hK _ _ (fun _ => True) trivial (fun _ _ => trivial) ?_
                  clear hK K
                  have hE7 : Ext w6 (w6.alloc (.cells (lsA (⟨s.tok + 1, xr, xk, xi, z, now + 20⟩ : Ls)) 56)) := ext_alloc w6 _
                  have HM7 := HM6.ext hE7
                  have hbl7 := hbl6.of_eq (hE7.block bl hbl6.lt)
                  have hbr7 := hbr6.of_eq (hE7.block br hbr6.lt)
                  have hnews := news_new w6 (lsC (⟨s.tok + 1, xr, xk, xi, z, now + 20⟩ : Ls)) 56
                  have hlb : (s.ls.length : Int) ≤ 256 := by omega
                  refine steps_want rfl (fun K hK => ?_)
                  refine wp_append_new _ _ 39 rfl 56 i0 (.agg (lsA zeroL)) 6 48 Try.underlying39 hi0 hi1 hi2 hi3 rfl (by decide) lv s.ls.length (flatL s.ls) rfl (ownsRow_ext hR.own hE7) _ 1 1 (lsC (⟨s.tok + 1, xr, xk, xi, z, now + 20⟩ : Ls)) rfl rfl (fun h => by cases h) hnews (lsC_one _) (by unfold maxLen; omega) (by omega) ?_
                  intro v9 w9 hown9 hg9 hf9
                  obtain ⟨p9, c9, rfl⟩ := ownsRow_slice hown9
                  have hR7 := hR.ext hE7
                  have hrow7 : ∀ b, lv.ownBlock = some b → b ≠ m := fun b hb => (hR.ol b hb).1
                  obtain ⟨mc, mT, hmb, _, _, _, hm196⟩ := hR7.blk
                  have hmb9 := (grownBy.tch hg9).blk hmb (fun hk => hrow7 m hk rfl)
                  have hmc : w9.cell? ⟨m, 196, none⟩ = some lv := by rw [hmb9.cell, hm196]
                  have hmf : w9.frozen? ⟨m, 196, none⟩ = false := hmb9.frozen 196
                  refine hK _ _ (fun _ => True) trivial (fun _ _ => trivial) ?_
                  clear hK K
                  try simp only [Act.put, List.setIfInBounds_toArray, List.set_cons_succ, List.set_cons_zero]
                  have hown9' : w9.ownsRow 0 56 6 (.slice p9 (s.ls.length + 1) c9) (s.ls ++ [(⟨s.tok + 1, xr, xk, xi, z, now + 20⟩ : Ls)]).length (flatL (s.ls ++ [(⟨s.tok + 1, xr, xk, xi, z, now + 20⟩ : Ls)])) := by
                    rw [flatL_append, List.length_append]
                    have e : flatL [(⟨s.tok + 1, xr, xk, xi, z, now + 20⟩ : Ls)] = lsC (⟨s.tok + 1, xr, xk, xi, z, now + 20⟩ : Ls) := by simp [flatL]
                    rw [e]
                    exact hown9
                  obtain ⟨F10, HM10, ht10, hn10⟩ := HM7.step (s2 := { s.setq (0) (others (s.q (0)) xr xk xi) with tok := s.tok + 1, ls := s.ls ++ [(⟨s.tok + 1, xr, xk, xi, z, now + 20⟩ : Ls)] }) (by have h8 := hR7.setl (ls' := s.ls ++ [(⟨s.tok + 1, xr, xk, xi, z, now + 20⟩ : Ls)]) (by simp; omega) (grownBy.tch hg9) hown9' hf9.1; rw [← hF5] at h8; exact h8)
                  have hbl10 := ht10.blk hbl7 hnl5
                  have hbr10 := ht10.blk hbr7 hnr5
                  have hnr10 := hn10 br hnr5 hbr7.lt
                  clear hown9' hown9 hg9 hf9 hmb hmb9 ht10 hn10 hR hR7 hrow7 hm196 HM7 hbl7 hbr7 hnews HM6 hbl6 hbr6 hE7
                  refine steps_quiet 2 (by kernel_rfl) ?_
                  simp only [List.take_succ_cons, List.take_zero, List.drop_succ_cons, List.drop_zero]
                  repeat (go_big_quiet_step (fail))
                  refine wpQuiet_nil ?_
                  refine steps_want rfl (fun K hK => ?_)
                  go_simp
                  refine hK _ _ (fun _ => True) trivial (fun _ _ => trivial) ?_
                  clear hK K
                  clear hmc hmf
                  refine steps_end ?_
                  refine walkP_done ?_
                  try simp only [Act.put]
                  generalize World.setCell w9 _ _ = w10 at *
                  go_wp2_with (first | (refine wpList_load_row rfl _ _ rfl bl rfl _ #[.int .u64 (s.tok + 1), .int .i64 xr, .int .i64 xk, .int .i64 xi, .int .i64 z, .int .i64 (now + 20)] _ _ hbl10 Try.underlying56 rfl leaseInfo ?_) | (refine wpList_store_row rfl _ _ _ rfl br (lsA (⟨s.tok + 1, xr, xk, xi, z, now + 20⟩ : Ls)) rfl rfl _ _ hbr10 (leaseInfo' (⟨s.tok + 1, xr, xk, xi, z, now + 20⟩ : Ls)) rfl (lsA_all _) ?_))
                  have hbr11 := setRow_blk (cs := lsA (⟨s.tok + 1, xr, xk, xi, z, now + 20⟩ : Ls)) hbr10
                  refine bodyPost_ret (v := .tuple #[lsV (⟨s.tok + 1, xr, xk, xi, z, now + 20⟩ : Ls), .int .i64 0]) (results_cell2 Try.results8 _ _ br 56 (lsA (⟨s.tok + 1, xr, xk, xi, z, now + 20⟩ : Ls)) _ _ rfl hbr11 Try.underlying56 rfl (leaseInfo' _)) rfl ⟨by rw [pollL, pollE, if_neg HZ.out, if_neg HZ.out, if_neg (by omega), if_neg (by omega), HPK.out]; rfl, ?_⟩
                  rw [pollS, if_neg HZ.out, if_neg (by omega), HPK.out]
                  exact (HM10.setRow hnr10 (Nat.le_of_eq HBR.out.symm) _).mstep
                · refine steps_want rfl (fun K hK => ?_)
                  go_simp
                  refine hK _ _ (fun _ => True) trivial (fun _ _ => trivial) ?_
                  clear hK K
                  refine steps_end ?_
                  refine walkP_seg ?_
                  simp only [List.filterMap_cons, List.filterMap_nil, List.getElem?_cons_zero, List.getElem?_cons_succ]
                  have hlc7 : (w6.alloc (.cells #[.int .u64 (s.tok + 1), .int .i64 xr, .int .i64 xk, .int .i64 xi, .int .i64 z, .int .i64 (now + 20)] 56)).cell? ⟨m, 196, none⟩ = some lv := (hR.ext (ext_alloc w6 _)).lcell
                  refine steps_want rfl (fun K hK => ?_)
                  go_simp
                  refine hK _ _ (fun _ => True) trivial (fun _ _ => trivial) ?_
                  clear hK K
                  clear hlc7
                  have hE7 : Ext w6 (w6.alloc (.cells (lsA (⟨s.tok + 1, xr, xk, xi, z, now + 20⟩ : Ls)) 56)) := ext_alloc w6 _
                  have HM7 := HM6.ext hE7
                  have hbl7 := hbl6.of_eq (hE7.block bl hbl6.lt)
                  have hbr7 := hbr6.of_eq (hE7.block br hbr6.lt)
                  have hnews := news_new w6 (lsC (⟨s.tok + 1, xr, xk, xi, z, now + 20⟩ : Ls)) 56
                  have hlb : (s.ls.length : Int) ≤ 256 := by omega
                  refine steps_want rfl (fun K hK => ?_)
                  refine wp_append_new _ _ 39 rfl 56 i0 (.agg (lsA zeroL)) 6 48 Try.underlying39 hi0 hi1 hi2 hi3 rfl (by decide) lv s.ls.length (flatL s.ls) rfl (ownsRow_ext hR.own hE7) _ 1 1 (lsC (⟨s.tok + 1, xr, xk, xi, z, now + 20⟩ : Ls)) rfl rfl (fun h => by cases h) hnews (lsC_one _) (by unfold maxLen; omega) (by omega) ?_
                  intro v9 w9 hown9 hg9 hf9
                  obtain ⟨p9, c9, rfl⟩ := ownsRow_slice hown9
                  have hR7 := hR.ext hE7
                  have hrow7 : ∀ b, lv.ownBlock = some b → b ≠ m := fun b hb => (hR.ol b hb).1
                  obtain ⟨mc, mT, hmb, _, _, _, hm196⟩ := hR7.blk
                  have hmb9 := (grownBy.tch hg9).blk hmb (fun hk => hrow7 m hk rfl)
                  have hmc : w9.cell? ⟨m, 196, none⟩ = some lv := by rw [hmb9.cell, hm196]
                  have hmf : w9.frozen? ⟨m, 196, none⟩ = false := hmb9.frozen 196
                  refine hK _ _ (fun _ => True) trivial (fun _ _ => trivial) ?_
                  clear hK K
                  try simp only [Act.put, List.setIfInBounds_toArray, List.set_cons_succ, List.set_cons_zero]
                  have hown9' : w9.ownsRow 0 56 6 (.slice p9 (s.ls.length + 1) c9) (s.ls ++ [(⟨s.tok + 1, xr, xk, xi, z, now + 20⟩ : Ls)]).length (flatL (s.ls ++ [(⟨s.tok + 1, xr, xk, xi, z, now + 20⟩ : Ls)])) := by
                    rw [flatL_append, List.length_append]
                    have e : flatL [(⟨s.tok + 1, xr, xk, xi, z, now + 20⟩ : Ls)] = lsC (⟨s.tok + 1, xr, xk, xi, z, now + 20⟩ : Ls) := by simp [flatL]
                    rw [e]
                    exact hown9
                  obtain ⟨F10, HM10, ht10, hn10⟩ := HM7.step (s2 := { s.setq (0) (others (s.q (0)) xr xk xi) with tok := s.tok + 1, ls := s.ls ++ [(⟨s.tok + 1, xr, xk, xi, z, now + 20⟩ : Ls)] }) (by have h8 := hR7.setl (ls' := s.ls ++ [(⟨s.tok + 1, xr, xk, xi, z, now + 20⟩ : Ls)]) (by simp; omega) (grownBy.tch hg9) hown9' hf9.1; rw [← hF5] at h8; exact h8)
                  have hbl10 := ht10.blk hbl7 hnl5
                  have hbr10 := ht10.blk hbr7 hnr5
                  have hnr10 := hn10 br hnr5 hbr7.lt
                  clear hown9' hown9 hg9 hf9 hmb hmb9 ht10 hn10 hR hR7 hrow7 hm196 HM7 hbl7 hbr7 hnews HM6 hbl6 hbr6 hE7
                  refine steps_quiet 2 (by kernel_rfl) ?_
                  simp only [List.take_succ_cons, List.take_zero, List.drop_succ_cons, List.drop_zero]
                  repeat (go_big_quiet_step (fail))
                  refine wpQuiet_nil ?_
                  refine steps_want rfl (fun K hK => ?_)
                  go_simp
                  refine hK _ _ (fun _ => True) trivial (fun _ _ => trivial) ?_
                  clear hK K
                  clear hmc hmf
                  refine steps_end ?_
                  refine walkP_done ?_
                  try simp only [Act.put]
                  generalize World.setCell w9 _ _ = w10 at *
                  go_wp2_with (first | (refine wpList_load_row rfl _ _ rfl bl rfl _ #[.int .u64 (s.tok + 1), .int .i64 xr, .int .i64 xk, .int .i64 xi, .int .i64 z, .int .i64 (now + 20)] _ _ hbl10 Try.underlying56 rfl leaseInfo ?_) | (refine wpList_store_row rfl _ _ _ rfl br (lsA (⟨s.tok + 1, xr, xk, xi, z, now + 20⟩ : Ls)) rfl rfl _ _ hbr10 (leaseInfo' (⟨s.tok + 1, xr, xk, xi, z, now + 20⟩ : Ls)) rfl (lsA_all _) ?_))
                  have hbr11 := setRow_blk (cs := lsA (⟨s.tok + 1, xr, xk, xi, z, now + 20⟩ : Ls)) hbr10
                  refine bodyPost_ret (v := .tuple #[lsV (⟨s.tok + 1, xr, xk, xi, z, now + 20⟩ : Ls), .int .i64 0]) (results_cell2 Try.results8 _ _ br 56 (lsA (⟨s.tok + 1, xr, xk, xi, z, now + 20⟩ : Ls)) _ _ rfl hbr11 Try.underlying56 rfl (leaseInfo' _)) rfl ⟨by rw [pollL, pollE, if_neg HZ.out, if_neg HZ.out, if_neg (by omega), if_neg (by omega), HPK.out]; rfl, ?_⟩
                  rw [pollS, if_neg HZ.out, if_neg (by omega), HPK.out]
                  exact (HM10.setRow hnr10 (Nat.le_of_eq HBR.out.symm) _).mstep
            · refine steps_want rfl (fun K hK => ?_)
              go_simp
              have hE5 : Ext w4 (w4.alloc (.cells (lsA zeroL) 56)) := ext_alloc w4 _
              refine hK _ _ _ (show Blk (w4.alloc _) bt 43 (tkA ⟨xr, xk, xi, xs_⟩) from hbt4.of_eq (hE5.block bt hbt4.lt)) (fun _ h => h) ?_
              clear hK K
              refine steps_end ?_
              refine walkP_seg ?_
              simp only [List.filterMap_cons, List.filterMap_nil, List.getElem?_cons_zero, List.getElem?_cons_succ]
              have hbl0 := Blk.new w4 56 (lsA zeroL)
              have HM4 := HM3'.ext hE5
              have hbt5 := hbt4.of_eq (hE5.block bt hbt4.lt)
              have hbr5 := hbr4.of_eq (hE5.block br hbr4.lt)
              have hnl3 : ¬ F3 w4.heap.size := fun hb => by have := (mP_loc m _).lt HM3'.p hb; omega
              have hbne : bt ≠ w4.heap.size := by have := hbt4.lt; omega
              have hbne2 : br ≠ w4.heap.size := by have := hbr4.lt; omega
              have hWl : W.heap.size ≤ w4.heap.size := HM3'.t.size
              clear HM3' hbt4 hbr4
              refine steps_want rfl (fun K hK => ?_)
              go_simp
              refine (next_any _ m _ F3 HM4.p ht ht2).mono ?_
              rintro e w5 ⟨rfl, hS5⟩
              obtain ⟨F5, HM5, ht5, hn5⟩ := HM4.step hS5
              have hbt6 := ht5.blk hbt5 hnt3
              have hbr6 := ht5.blk hbr5 hnr3
              have hbl5 := ht5.blk hbl0 hnl3
              have hnr5 := hn5 br hnr3 hbr5.lt
              have hnl5 := hn5 _ hnl3 hbl0.lt
              clear hS5 ht5 hn5 HM4 hbt5 hbr5 hbl0 hE5
              refine hK _ _ _ hbt6 (fun _ h => h) ?_
              clear hK K
              refine steps_quiet 1 (by kernel_rfl) ?_
              simp only [List.take_succ_cons, List.take_zero, List.drop_succ_cons, List.drop_zero]
              repeat (go_big_quiet_step (fail))
              refine wpQuiet_nil ?_
              refine steps_want rfl (fun K hK => ?_)
              refine wp_store_row _ _ _ rfl w4.heap.size (lsA ⟨s.tok + 1, xr, xk, xi, z, now + 20⟩) rfl rfl _ _ hbl5 (leaseInfo' _) rfl (lsA_all _) ?_
              refine hK _ _ _ (show Blk (w5.setRow w4.heap.size _) bt 43 (tkA ⟨xr, xk, xi, xs_⟩) from setRow_far hbt6 hbne) (fun _ h => h) ?_
              clear hK K
              refine steps_end ?_
              refine walkP_done ?_
              try simp only [Act.put]
              have HPE : PEnd W m F { s.setq (0) (others (s.q (0)) xr xk xi) with tok := s.tok + 1 } w4.heap.size br ⟨s.tok + 1, xr, xk, xi, z, now + 20⟩ _ := ⟨F5, HM5.setRow hnl5 hWl (lsA ⟨s.tok + 1, xr, xk, xi, z, now + 20⟩), setRow_blk hbl5, setRow_far hbr6 hbne2, hnl5, hnr5⟩
              clear hbt6 hbr6 hbl5 HM5 hnl5 hnr5 hbne hbne2
              go_upto_region 14 with fail
              refine gen_world' _ HPE ?_
              clear HPE
              generalize w4.heap.size = bl at *
              rintro w6 ⟨F5, HM6, hbl6, hbr6, hnl5, hnr5⟩
              generalize w5 = wx at *
              replace HM6 := HM6.ext (Ext.refl w6).drew
              replace hbl6 : Blk w6.drew bl _ _ := hbl6.of_eq rfl
              replace hbr6 : Blk w6.drew br _ _ := hbr6.of_eq rfl
              have hne_ : Nonempty (Of (fun _ : World => True)) := trueOf_ne (W := w6)
              refine region_plan (.seg [0,1,2,3] [true,true,true,true] (.fork 4 (.seg [5,6,7,8,9,10] [false,false,false,true,true,false] .done) 5 (.fork 4 (.seg [6,7,8,9,10] [false,false,true,true,false] .done) 6 (.seg [4,7,8,9,10] [false,false,true,true,false] .done)))) (fun _ : World => True) (by kernel_rfl) (by kernel_rfl) trivial ?_
              generalize World.drew w6 = w6 at *
              obtain ⟨Fq, lv, hR, hF5⟩ := HM6.p
              obtain ⟨i0, hi0, hi1, hi2, hi3⟩ := info_parts6 lsInfo
              have hlc := hR.lcell
              refine walkP_seg ?_
              simp only [List.filterMap_cons, List.filterMap_nil, List.getElem?_cons_zero, List.getElem?_cons_succ]
              refine steps_quiet 4 (by kernel_rfl) ?_
              simp only [List.take_succ_cons, List.take_zero, List.drop_succ_cons, List.drop_zero]
              repeat (go_big_quiet_step (fail))
              refine wpQuiet_nil ?_
              refine steps_end ?_
              refine walkP_fork ?_ ?_
              all_goals simp only [List.filterMap_cons, List.filterMap_nil, List.getElem?_cons_zero, List.getElem?_cons_succ]
              · refine steps_want rfl (fun K hK => ?_)
                go_simp
                refine hK _ _ (fun _ => True) trivial (fun _ _ => trivial) ?_
                clear hK K
                refine steps_end ?_
                refine walkP_seg ?_
                simp only [List.filterMap_cons, List.filterMap_nil, List.getElem?_cons_zero, List.getElem?_cons_succ]
                refine steps_want rfl (fun K hK => ?_)
                refine wp_load_row _ _ rfl bl rfl _ #[.int .u64 (s.tok + 1), .int .i64 xr, .int .i64 xk, .int .i64 xi, .int .i64 z, .int .i64 (now + 20)] _ _ hbl6 Try.underlying56 rfl leaseInfo ?_
                refine hK _ _ (fun _ => True) trivial (fun _ _ => trivial) ?_
                clear hK K
                try simp only [Act.put, List.setIfInBounds_toArray, List.set_cons_succ, List.set_cons_zero]
                refine steps_want rfl (fun K hK => ?_)
                go_simp
                refine hK _ _ (fun _ => True) trivial (fun _ _ => trivial) ?_
                clear hK K
                have hE7 : Ext w6 (w6.alloc (.cells (lsA (⟨s.tok + 1, xr, xk, xi, z, now + 20⟩ : Ls)) 56)) := ext_alloc w6 _
                have HM7 := HM6.ext hE7
                have hbl7 := hbl6.of_eq (hE7.block bl hbl6.lt)
                have hbr7 := hbr6.of_eq (hE7.block br hbr6.lt)
                have hnews := news_new w6 (lsC (⟨s.tok + 1, xr, xk, xi, z, now + 20⟩ : Ls)) 56
                have hlb : (s.ls.length : Int) ≤ 256 := by omega
                refine steps_want rfl (fun K hK => ?_)
                refine wp_append_new _ _ 39 rfl 56 i0 (.agg (lsA zeroL)) 6 48 Try.underlying39 hi0 hi1 hi2 hi3 rfl (by decide) lv s.ls.length (flatL s.ls) rfl (ownsRow_ext hR.own hE7) _ 1 1 (lsC (⟨s.tok + 1, xr, xk, xi, z, now + 20⟩ : Ls)) rfl rfl (fun h => by cases h) hnews (lsC_one _) (by unfold maxLen; omega) (by omega) ?_
                intro v9 w9 hown9 hg9 hf9
                obtain ⟨p9, c9, rfl⟩ := ownsRow_slice hown9
                have hR7 := hR.ext hE7
                have hrow7 : ∀ b, lv.ownBlock = some b → b ≠ m := fun b hb => (hR.ol b hb).1
                obtain ⟨mc, mT, hmb, _, _, _, hm196⟩ := hR7.blk
                have hmb9 := (grownBy.tch hg9).blk hmb (fun hk => hrow7 m hk rfl)
                have hmc : w9.cell? ⟨m, 196, none⟩ = some lv := by rw [hmb9.cell, hm196]
                have hmf : w9.frozen? ⟨m, 196, none⟩ = false := hmb9.frozen 196
                refine hK _ _ (fun _ => True) trivial (fun _ _ => trivial) ?_
                clear hK K
                try simp only [Act.put, List.setIfInBounds_toArray, List.set_cons_succ, List.set_cons_zero]
                have hown9' : w9.ownsRow 0 56 6 (.slice p9 (s.ls.length + 1) c9) (s.ls ++ [(⟨s.tok + 1, xr, xk, xi, z, now + 20⟩ : Ls)]).length (flatL (s.ls ++ [(⟨s.tok + 1, xr, xk, xi, z, now + 20⟩ : Ls)])) := by
                  rw [flatL_append, List.length_append]
                  have e : flatL [(⟨s.tok + 1, xr, xk, xi, z, now + 20⟩ : Ls)] = lsC (⟨s.tok + 1, xr, xk, xi, z, now + 20⟩ : Ls) := by simp [flatL]
                  rw [e]
                  exact hown9
                obtain ⟨F10, HM10, ht10, hn10⟩ := HM7.step (s2 := { s.setq (0) (others (s.q (0)) xr xk xi) with tok := s.tok + 1, ls := s.ls ++ [(⟨s.tok + 1, xr, xk, xi, z, now + 20⟩ : Ls)] }) (by have h8 := hR7.setl (ls' := s.ls ++ [(⟨s.tok + 1, xr, xk, xi, z, now + 20⟩ : Ls)]) (by simp; omega) (grownBy.tch hg9) hown9' hf9.1; rw [← hF5] at h8; exact h8)
                have hbl10 := ht10.blk hbl7 hnl5
                have hbr10 := ht10.blk hbr7 hnr5
                have hnr10 := hn10 br hnr5 hbr7.lt
                clear hown9' hown9 hg9 hf9 hmb hmb9 ht10 hn10 hR hR7 hrow7 hm196 HM7 hbl7 hbr7 hnews HM6 hbl6 hbr6 hE7
                refine steps_quiet 2 (by kernel_rfl) ?_
                simp only [List.take_succ_cons, List.take_zero, List.drop_succ_cons, List.drop_zero]
                repeat (go_big_quiet_step (fail))
                refine wpQuiet_nil ?_
                refine steps_want rfl (fun K hK => ?_)
                go_simp
                refine hK _ _ (fun _ => True) trivial (fun _ _ => trivial) ?_
                clear hK K
                clear hmc hmf
                refine steps_end ?_
                refine walkP_done ?_
                try simp only [Act.put]
                generalize World.setCell w9 _ _ = w10 at *
                go_wp2_with (first | (refine wpList_load_row rfl _ _ rfl bl rfl _ #[.int .u64 (s.tok + 1), .int .i64 xr, .int .i64 xk, .int .i64 xi, .int .i64 z, .int .i64 (now + 20)] _ _ hbl10 Try.underlying56 rfl leaseInfo ?_) | (refine wpList_store_row rfl _ _ _ rfl br (lsA (⟨s.tok + 1, xr, xk, xi, z, now + 20⟩ : Ls)) rfl rfl _ _ hbr10 (leaseInfo' (⟨s.tok + 1, xr, xk, xi, z, now + 20⟩ : Ls)) rfl (lsA_all _) ?_))
                have hbr11 := setRow_blk (cs := lsA (⟨s.tok + 1, xr, xk, xi, z, now + 20⟩ : Ls)) hbr10
                refine bodyPost_ret (v := .tuple #[lsV (⟨s.tok + 1, xr, xk, xi, z, now + 20⟩ : Ls), .int .i64 0]) (results_cell2 Try.results8 _ _ br 56 (lsA (⟨s.tok + 1, xr, xk, xi, z, now + 20⟩ : Ls)) _ _ rfl hbr11 Try.underlying56 rfl (leaseInfo' _)) rfl ⟨by rw [pollL, pollE, if_neg HZ.out, if_neg HZ.out, if_neg (by omega), if_neg (by omega), HPK.out]; rfl, ?_⟩
                rw [pollS, if_neg HZ.out, if_neg (by omega), HPK.out]
                exact (HM10.setRow hnr10 (Nat.le_of_eq HBR.out.symm) _).mstep
              · refine steps_want rfl (fun K hK => ?_)
                refine wp_load_row _ _ rfl bl rfl _ #[.int .u64 (s.tok + 1), .int .i64 xr, .int .i64 xk, .int .i64 xi, .int .i64 z, .int .i64 (now + 20)] _ _ hbl6 Try.underlying56 rfl leaseInfo ?_
                refine hK _ _ (fun _ => True) trivial (fun _ _ => trivial) ?_
                clear hK K
                try simp only [Act.put, List.setIfInBounds_toArray, List.set_cons_succ, List.set_cons_zero]
                refine steps_end ?_
                refine walkP_fork ?_ ?_
                all_goals simp only [List.filterMap_cons, List.filterMap_nil, List.getElem?_cons_zero, List.getElem?_cons_succ]
                · refine steps_want rfl (fun K hK => ?_)
                  go_simp
                  refine hK _ _ (fun _ => True) trivial (fun _ _ => trivial) ?_
                  clear hK K
                  refine steps_end ?_
                  refine walkP_seg ?_
                  simp only [List.filterMap_cons, List.filterMap_nil, List.getElem?_cons_zero, List.getElem?_cons_succ]
                  refine steps_want rfl (fun K hK => ?_)
                  go_simp
                  refine hK _ _ (fun _ => True) trivial (fun _ _ => trivial) ?_
                  clear hK K
                  have hE7 : Ext w6 (w6.alloc (.cells (lsA (⟨s.tok + 1, xr, xk, xi, z, now + 20⟩ : Ls)) 56)) := ext_alloc w6 _
                  have HM7 := HM6.ext hE7
                  have hbl7 := hbl6.of_eq (hE7.block bl hbl6.lt)
                  have hbr7 := hbr6.of_eq (hE7.block br hbr6.lt)
                  have hnews := news_new w6 (lsC (⟨s.tok + 1, xr, xk, xi, z, now + 20⟩ : Ls)) 56
                  have hlb : (s.ls.length : Int) ≤ 256 := by omega
                  refine steps_want rfl (fun K hK => ?_)
                  refine wp_append_new _ _ 39 rfl 56 i0 (.agg (lsA zeroL)) 6 48 Try.underlying39 hi0 hi1 hi2 hi3 rfl (by decide) lv s.ls.length (flatL s.ls) rfl (ownsRow_ext hR.own hE7) _ 1 1 (lsC (⟨s.tok + 1, xr, xk, xi, z, now + 20⟩ : Ls)) rfl rfl (fun h => by cases h) hnews (lsC_one _) (by unfold maxLen; omega) (by omega) ?_
                  intro v9 w9 hown9 hg9 hf9
                  obtain ⟨p9, c9, rfl⟩ := ownsRow_slice hown9
                  have hR7 := hR.ext hE7
                  have hrow7 : ∀ b, lv.ownBlock = some b → b ≠ m := fun b hb => (hR.ol b hb).1
                  obtain ⟨mc, mT, hmb, _, _, _, hm196⟩ := hR7.blk
                  have hmb9 := (grownBy.tch hg9).blk hmb (fun hk => hrow7 m hk rfl)
                  have hmc : w9.cell? ⟨m, 196, none⟩ = some lv := by rw [hmb9.cell, hm196]
                  have hmf : w9.frozen? ⟨m, 196, none⟩ = false := hmb9.frozen 196
                  refine hK _ _ (fun _ => True) trivial (fun _ _ => trivial) ?_
                  clear hK K
                  try simp only [Act.put, List.setIfInBounds_toArray, List.set_cons_succ, List.set_cons_zero]
                  have hown9' : w9.ownsRow 0 56 6 (.slice p9 (s.ls.length + 1) c9) (s.ls ++ [(⟨s.tok + 1, xr, xk, xi, z, now + 20⟩ : Ls)]).length (flatL (s.ls ++ [(⟨s.tok + 1, xr, xk, xi, z, now + 20⟩ : Ls)])) := by
                    rw [flatL_append, List.length_append]
                    have e : flatL [(⟨s.tok + 1, xr, xk, xi, z, now + 20⟩ : Ls)] = lsC (⟨s.tok + 1, xr, xk, xi, z, now + 20⟩ : Ls) := by simp [flatL]
                    rw [e]
                    exact hown9
                  obtain ⟨F10, HM10, ht10, hn10⟩ := HM7.step (s2 := { s.setq (0) (others (s.q (0)) xr xk xi) with tok := s.tok + 1, ls := s.ls ++ [(⟨s.tok + 1, xr, xk, xi, z, now + 20⟩ : Ls)] }) (by have h8 := hR7.setl (ls' := s.ls ++ [(⟨s.tok + 1, xr, xk, xi, z, now + 20⟩ : Ls)]) (by simp; omega) (grownBy.tch hg9) hown9' hf9.1; rw [← hF5] at h8; exact h8)
                  have hbl10 := ht10.blk hbl7 hnl5
                  have hbr10 := ht10.blk hbr7 hnr5
                  have hnr10 := hn10 br hnr5 hbr7.lt
                  clear hown9' hown9 hg9 hf9 hmb hmb9 ht10 hn10 hR hR7 hrow7 hm196 HM7 hbl7 hbr7 hnews HM6 hbl6 hbr6 hE7
                  refine steps_quiet 2 (by kernel_rfl) ?_
                  simp only [List.take_succ_cons, List.take_zero, List.drop_succ_cons, List.drop_zero]
                  repeat (go_big_quiet_step (fail))
                  refine wpQuiet_nil ?_
                  refine steps_want rfl (fun K hK => ?_)
                  go_simp
                  refine hK _ _ (fun _ => True) trivial (fun _ _ => trivial) ?_
                  clear hK K
                  clear hmc hmf
                  refine steps_end ?_
                  refine walkP_done ?_
                  try simp only [Act.put]
                  generalize World.setCell w9 _ _ = w10 at *
                  go_wp2_with (first | (refine wpList_load_row rfl _ _ rfl bl rfl _ #[.int .u64 (s.tok + 1), .int .i64 xr, .int .i64 xk, .int .i64 xi, .int .i64 z, .int .i64 (now + 20)] _ _ hbl10 Try.underlying56 rfl leaseInfo ?_) | (refine wpList_store_row rfl _ _ _ rfl br (lsA (⟨s.tok + 1, xr, xk, xi, z, now + 20⟩ : Ls)) rfl rfl _ _ hbr10 (leaseInfo' (⟨s.tok + 1, xr, xk, xi, z, now + 20⟩ : Ls)) rfl (lsA_all _) ?_))
                  have hbr11 := setRow_blk (cs := lsA (⟨s.tok + 1, xr, xk, xi, z, now + 20⟩ : Ls)) hbr10
                  refine bodyPost_ret (v := .tuple #[lsV (⟨s.tok + 1, xr, xk, xi, z, now + 20⟩ : Ls), .int .i64 0]) (results_cell2 Try.results8 _ _ br 56 (lsA (⟨s.tok + 1, xr, xk, xi, z, now + 20⟩ : Ls)) _ _ rfl hbr11 Try.underlying56 rfl (leaseInfo' _)) rfl ⟨by rw [pollL, pollE, if_neg HZ.out, if_neg HZ.out, if_neg (by omega), if_neg (by omega), HPK.out]; rfl, ?_⟩
                  rw [pollS, if_neg HZ.out, if_neg (by omega), HPK.out]
                  exact (HM10.setRow hnr10 (Nat.le_of_eq HBR.out.symm) _).mstep
                · refine steps_want rfl (fun K hK => ?_)
                  go_simp
                  refine hK _ _ (fun _ => True) trivial (fun _ _ => trivial) ?_
                  clear hK K
                  refine steps_end ?_
                  refine walkP_seg ?_
                  simp only [List.filterMap_cons, List.filterMap_nil, List.getElem?_cons_zero, List.getElem?_cons_succ]
                  have hlc7 : (w6.alloc (.cells #[.int .u64 (s.tok + 1), .int .i64 xr, .int .i64 xk, .int .i64 xi, .int .i64 z, .int .i64 (now + 20)] 56)).cell? ⟨m, 196, none⟩ = some lv := (hR.ext (ext_alloc w6 _)).lcell
                  refine steps_want rfl (fun K hK => ?_)
                  go_simp
                  refine hK _ _ (fun _ => True) trivial (fun _ _ => trivial) ?_
                  clear hK K
                  clear hlc7
                  have hE7 : Ext w6 (w6.alloc (.cells (lsA (⟨s.tok + 1, xr, xk, xi, z, now + 20⟩ : Ls)) 56)) := ext_alloc w6 _
                  have HM7 := HM6.ext hE7
                  have hbl7 := hbl6.of_eq (hE7.block bl hbl6.lt)
                  have hbr7 := hbr6.of_eq (hE7.block br hbr6.lt)
                  have hnews := news_new w6 (lsC (⟨s.tok + 1, xr, xk, xi, z, now + 20⟩ : Ls)) 56
                  have hlb : (s.ls.length : Int) ≤ 256 := by omega
                  refine steps_want rfl (fun K hK => ?_)
                  refine wp_append_new _ _ 39 rfl 56 i0 (.agg (lsA zeroL)) 6 48 Try.underlying39 hi0 hi1 hi2 hi3 rfl (by decide) lv s.ls.length (flatL s.ls) rfl (ownsRow_ext hR.own hE7) _ 1 1 (lsC (⟨s.tok + 1, xr, xk, xi, z, now + 20⟩ : Ls)) rfl rfl (fun h => by cases h) hnews (lsC_one _) (by unfold maxLen; omega) (by omega) ?_
                  intro v9 w9 hown9 hg9 hf9
                  obtain ⟨p9, c9, rfl⟩ := ownsRow_slice hown9
                  have hR7 := hR.ext hE7
                  have hrow7 : ∀ b, lv.ownBlock = some b → b ≠ m := fun b hb => (hR.ol b hb).1
                  obtain ⟨mc, mT, hmb, _, _, _, hm196⟩ := hR7.blk
                  have hmb9 := (grownBy.tch hg9).blk hmb (fun hk => hrow7 m hk rfl)
                  have hmc : w9.cell? ⟨m, 196, none⟩ = some lv := by rw [hmb9.cell, hm196]
                  have hmf : w9.frozen? ⟨m, 196, none⟩ = false := hmb9.frozen 196
                  refine hK _ _ (fun _ => True) trivial (fun _ _ => trivial) ?_
                  clear hK K
                  try simp only [Act.put, List.setIfInBounds_toArray, List.set_cons_succ, List.set_cons_zero]
                  have hown9' : w9.ownsRow 0 56 6 (.slice p9 (s.ls.length + 1) c9) (s.ls ++ [(⟨s.tok + 1, xr, xk, xi, z, now + 20⟩ : Ls)]).length (flatL (s.ls ++ [(⟨s.tok + 1, xr, xk, xi, z, now + 20⟩ : Ls)])) := by
                    rw [flatL_append, List.length_append]
                    have e : flatL [(⟨s.tok + 1, xr, xk, xi, z, now + 20⟩ : Ls)] = lsC (⟨s.tok + 1, xr, xk, xi, z, now + 20⟩ : Ls) := by simp [flatL]
                    rw [e]
                    exact hown9
                  obtain ⟨F10, HM10, ht10, hn10⟩ := HM7.step (s2 := { s.setq (0) (others (s.q (0)) xr xk xi) with tok := s.tok + 1, ls := s.ls ++ [(⟨s.tok + 1, xr, xk, xi, z, now + 20⟩ : Ls)] }) (by have h8 := hR7.setl (ls' := s.ls ++ [(⟨s.tok + 1, xr, xk, xi, z, now + 20⟩ : Ls)]) (by simp; omega) (grownBy.tch hg9) hown9' hf9.1; rw [← hF5] at h8; exact h8)
                  have hbl10 := ht10.blk hbl7 hnl5
                  have hbr10 := ht10.blk hbr7 hnr5
                  have hnr10 := hn10 br hnr5 hbr7.lt
                  clear hown9' hown9 hg9 hf9 hmb hmb9 ht10 hn10 hR hR7 hrow7 hm196 HM7 hbl7 hbr7 hnews HM6 hbl6 hbr6 hE7
                  refine steps_quiet 2 (by kernel_rfl) ?_
                  simp only [List.take_succ_cons, List.take_zero, List.drop_succ_cons, List.drop_zero]
                  repeat (go_big_quiet_step (fail))
                  refine wpQuiet_nil ?_
                  refine steps_want rfl (fun K hK => ?_)
                  go_simp
                  refine hK _ _ (fun _ => True) trivial (fun _ _ => trivial) ?_
                  clear hK K
                  clear hmc hmf
                  refine steps_end ?_
                  refine walkP_done ?_
                  try simp only [Act.put]
                  generalize World.setCell w9 _ _ = w10 at *
                  go_wp2_with (first | (refine wpList_load_row rfl _ _ rfl bl rfl _ #[.int .u64 (s.tok + 1), .int .i64 xr, .int .i64 xk, .int .i64 xi, .int .i64 z, .int .i64 (now + 20)] _ _ hbl10 Try.underlying56 rfl leaseInfo ?_) | (refine wpList_store_row rfl _ _ _ rfl br (lsA (⟨s.tok + 1, xr, xk, xi, z, now + 20⟩ : Ls)) rfl rfl _ _ hbr10 (leaseInfo' (⟨s.tok + 1, xr, xk, xi, z, now + 20⟩ : Ls)) rfl (lsA_all _) ?_))
                  have hbr11 := setRow_blk (cs := lsA (⟨s.tok + 1, xr, xk, xi, z, now + 20⟩ : Ls)) hbr10
                  refine bodyPost_ret (v := .tuple #[lsV (⟨s.tok + 1, xr, xk, xi, z, now + 20⟩ : Ls), .int .i64 0]) (results_cell2 Try.results8 _ _ br 56 (lsA (⟨s.tok + 1, xr, xk, xi, z, now + 20⟩ : Ls)) _ _ rfl hbr11 Try.underlying56 rfl (leaseInfo' _)) rfl ⟨by rw [pollL, pollE, if_neg HZ.out, if_neg HZ.out, if_neg (by omega), if_neg (by omega), HPK.out]; rfl, ?_⟩
                  rw [pollS, if_neg HZ.out, if_neg (by omega), HPK.out]
                  exact (HM10.setRow hnr10 (Nat.le_of_eq HBR.out.symm) _).mstep
    · subst hj
      have HJ := Lib.hid (hj1 (by omega))
      have HJ2 := Lib.hid (hj2 (by omega))
      clear hj1 hj2
      have hbr2 := hbr.of_eq (hEr.block br hbr.lt)
      have HPK : Hid (s.pick z kind = none) := Lib.hid (by unfold MS.pick; rw [HJ.out, HJ2.out]; rfl)
      go_wp2_with (refine wpList_store_row rfl _ _ _ rfl br (lsA zeroL) rfl rfl _ _ hbr2 (leaseInfo' zeroL) rfl (lsA_all _) ?_)
      have hbr' := setRow_blk (cs := lsA zeroL) hbr2
      refine bodyPost_ret (v := .tuple #[lsV zeroL, .int .i64 4]) (results_cell2 Try.results8 _ _ br 56 (lsA zeroL) _ _ rfl hbr' Try.underlying56 rfl (leaseInfo' _)) rfl ⟨by rw [pollL, pollE, if_neg HZ.out, if_neg HZ.out, if_neg (by omega), if_neg (by omega), HPK.out]; rfl, ?_⟩
      rw [pollS, if_neg HZ.out, if_neg (by omega), HPK.out]
      exact MStep.of_ext h (setRow_ext' (hE0.trans hEr) (Nat.le_of_eq HBR.out.symm))
theorem poll_any (W : World) (m : Nat) (s : MS) (F : Nat → Prop) (z kind now : Int) (h : mP m s W F) (ht : 0 ≤ s.tok) (ht2 : s.tok < 18446744073709551615) (hn1 : -9223372036854775808 ≤ now) (hn2 : now ≤ 9223372036854775787) :
    Calls Try.prog 8 #[.pointer (some ⟨m, 0, none⟩), .int .i64 z, .int .i64 kind, .int .i64 now] W fun e W' => Polled W m s F z kind now e W' := by
  by_cases hz : z < 1 ∨ 64 < z
  · exact poll_range W m s F z kind now h hz
  · by_cases hl : 256 ≤ s.ls.length
    · exact poll_full W m s F z kind now h (by omega) (by omega) hl
    · exact poll_go W m s F z kind now h (by omega) (by omega) (by omega) ht ht2 hn1 hn2
end Go.Proofs.Ytadmfoglajhdcaa
