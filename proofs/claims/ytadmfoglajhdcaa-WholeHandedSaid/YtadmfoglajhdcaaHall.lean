/- The hall of WholeHanded in memory: a match, a time, a map of what was done; each call beside other things. -/
import Derived.Test.YtadmfoglajhdcaaHandPlain
import Derived.Maps.OwnSet
namespace Go.Proofs.Ytadmfoglajhdcaa
set_option maxRecDepth 4000
set_option linter.unusedVariables false
set_option linter.unusedSimpArgs false
open Go Go.RowKit Go.Maps Go.ChangeMaps Go.MapKept
/-! ### a map from numbers to truth -/
def boolE (v : Value) : Option (DataW Unit × List MemPlace) :=
  match v with
  | .bool x => some (.lit (.bool x), [])
  | _ => none
theorem boolE_inv {v : Value} {b : Bool} {ps : List MemPlace} (h : boolE v = some (.lit (.bool b), ps)) : v = .bool b := by
  unfold boolE at h
  split at h
  · simp at h; rw [h.1]
  · cases h
theorem intKey : Keyed Try.prog 3 := int_keyed Try.underlying3
def I64 (r : Int) : Prop := -9223372036854775808 ≤ r ∧ r ≤ 9223372036854775807
theorem I64.wf {r : Int} (h : I64 r) : (Lit.int .i64 r).wf = true := by
  unfold I64 at h
  simp [Lit.wf, IntKind.min, IntKind.max, IntKind.signed, IntKind.bits]; omega
theorem intKey_mk {r : Int} (h : I64 r) : keyOf Try.prog 3 (.int .i64 r) = some (.int .i64 r) := keyOf_int_mk Try.underlying3 h.wf
structure DoneIs (D : DataW Unit) (ks : List Int) : Prop where
  at_ : ∀ r z, D.atKey (.int .i64 r) z = if ks.contains r = true then .lit (.bool true) else z
  tidy : Tidy D
  sz : Maps.size D = ks.length
theorem DoneIs.empty : DoneIs (.map []) [] := ⟨fun _ _ => rfl, tidy_empty, rfl⟩
theorem isKeyInt (r : Int) : WideAt.IsKeyLit (.int .i64 r) := by first | exact trivial | exact ⟨⟩ | simp [WideAt.IsKeyLit]
theorem DoneIs.put {D : DataW Unit} {ks : List Int} (h : DoneIs D ks) (r : Int) (hr : ks.contains r = false) : DoneIs (D.put (.int .i64 r) (.lit (.bool true))) (ks ++ [r]) := by
  have hno : Maps.has D (.int .i64 r) = false := has_false_of_atKey fun z => by rw [h.at_, if_neg (by rw [hr]; decide)]
  refine ⟨fun r' z => ?_, h.tidy.put (isKeyInt r) _, ?_⟩
  · by_cases he : r = r'
    · subst he
      rw [atKey_put_same h.tidy.isMap (isKeyInt r), if_pos (by simp)]
    · rw [atKey_put_other (fun e => he (by injection e with _ e; exact e.symm)), h.at_]
      have : (ks ++ [r]).contains r' = ks.contains r' := by simp [Ne.symm he]
      rw [this]
  · rw [size_put h.tidy, hno, h.sz]; simp
def doneA (g : Nat) (ks : List Int) : Asr := fun W F => (∃ D, DoneIs D ks ∧ W.ownsMap Try.prog 3 boolE g ks.length D) ∧ F = fun k => k = g
theorem doneA_loc (g : Nat) (ks : List Int) : Loc (doneA g ks) :=
  ⟨fun h hk => by
    obtain ⟨⟨D, h1, es, clock, hb, r⟩, rfl⟩ := h
    exact ⟨⟨D, h1, es, clock, (hk g rfl).trans hb, r⟩, rfl⟩, fun h hk => by
    obtain ⟨⟨D, _, h2⟩, rfl⟩ := h
    subst hk
    exact h2.lt⟩
theorem done_new (W : World) : doneA W.heap.size [] (W.alloc (.map #[] 0)) (fun k => k = W.heap.size) := ⟨⟨_, DoneIs.empty, World.ownsMap_made _ _ _ _⟩, rfl⟩
section
variable {w W : World} {g : Nat} {ks : List Int} {ps : List Asr}
theorem hd_look (F : Nat → Prop) (h : doneA g ks W F) (r : Int) (hr : I64 r) :
    (Instr.lookup 51 (.map (some g)) (.int .i64 r) false).run Try.prog W = .ok (.bool (ks.contains r)) W := by
  obtain ⟨⟨D, hD, hown⟩, _⟩ := h
  have hz : (zeroValue 4).run Try.prog W = .ok (.bool false) W := by kernel_rfl
  obtain ⟨v, ps', hrun, hv⟩ := hown.lookup intKey Try.underlying51 hz (zd := .lit (.bool false)) (zp := []) rfl (intKey_mk hr)
  rw [hD.at_] at hv
  cases hc : ks.contains r with
  | true =>
    rw [if_pos hc] at hv
    obtain rfl := boolE_inv hv
    exact hrun
  | false =>
    rw [if_neg (by rw [hc]; decide)] at hv
    obtain rfl := boolE_inv hv
    exact hrun
theorem hd_len (F : Nat → Prop) (h : doneA g ks W F) (ty : TypeId) : (Builtin.len_ #[51] ty #[.map (some g)]).run Try.prog W = .ok (.int .i64 (ks.length : Int)) W := by
  obtain ⟨⟨D, hD, hown⟩, _⟩ := h
  rw [hown.len Try.underlying51 ty, hD.sz]
theorem hd_put (h : Has w W (doneA g ks :: ps)) (hl : Locs ps) (r : Int) (hr : I64 r) (hc : ks.contains r = false) (hn : ks.length < 100000) {o : Oper} {a : Act} {K : Act → World → Prop} {Q : Exit → Act → World → Prop}
    (m x v : Operand) (hop : o.op = Op.mapUpdate 51 m x v) (hm : a.eval m = .map (some g)) (hx : a.eval x = .int .i64 r) (hv : a.eval v = .bool true)
    (hK : ∀ w', Has w w' (doneA g (ks ++ [r]) :: ps) → Tch (fun k => k = g) W w' → K (a.put o.dst undef) w') : o.wp Try.prog a W K Q := by
  obtain ⟨F, ⟨D, hD, hown⟩, _⟩ := h.head
  obtain ⟨w', hrun, hown', hgr⟩ := hown.update intKey Try.underlying51 (by unfold maxLen; omega) (intKey_mk hr) (d := .lit (.bool true)) (ps := []) (val := .bool true) rfl
  unfold Oper.wp
  simp [execOp, hop, hm, hx, hv, hrun, Result.andThen]
  have ht : Tch (fun k => k = g) W w' := (Tch.refl _ _).grown hgr (fun b hb _ => by injection hb with hb; exact hb.symm)
  refine hK w' (h.next hl fun F' hF' => ?_) ht
  obtain ⟨_, rfl⟩ := hF'
  exact Next.mk (F' := fun k => k = g) ⟨⟨_, hD.put r hc, by rw [List.length_append]; exact hown'⟩, rfl⟩ ht (fun k hk => Or.inl hk)
end
/-! ### the hall -/
def hallP (m : Nat) (s : MS) (now : Int) (g : Nat) : Asr := fun W F => mP m s W F ∧ W.cell? ⟨m, 197, none⟩ = some (.int .i64 now) ∧ W.cell? ⟨m, 198, none⟩ = some (.map (some g))
theorem mP_self {m : Nat} {s : MS} {W : World} {F : Nat → Prop} (h : mP m s W F) : F m := by
  obtain ⟨Fq, lv, h1, rfl⟩ := h
  exact Or.inl rfl
theorem mP_blk {m : Nat} {s : MS} {W : World} {F : Nat → Prop} (h : mP m s W F) : ∃ cs T, Blk W m T cs := by
  obtain ⟨Fq, lv, h1, rfl⟩ := h
  obtain ⟨cs, T, b, _⟩ := h1.blk
  exact ⟨cs, T, b⟩
theorem hallP_loc (m : Nat) (s : MS) (now : Int) (g : Nat) : Loc (hallP m s now g) :=
  ⟨fun h hk => ⟨(mP_loc m s).keep h.1 hk, (World.cell?_of_block (a := ⟨m, 197, none⟩) (hk m (mP_self h.1))).trans h.2.1, (World.cell?_of_block (a := ⟨m, 198, none⟩) (hk m (mP_self h.1))).trans h.2.2⟩,
   fun h hk => (mP_loc m s).lt h.1 hk⟩
section
variable {w W W' : World} {m g : Nat} {s s' : MS} {now : Int} {F : Nat → Prop} {ps : List Asr}
theorem hall_kept (h : hallP m s now g W F) (hk : MKept m W W') : W'.cell? ⟨m, 197, none⟩ = some (.int .i64 now) ∧ W'.cell? ⟨m, 198, none⟩ = some (.map (some g)) := by
  obtain ⟨cs, T, b⟩ := mP_blk h.1
  obtain ⟨cs', b', _, e⟩ := hk cs T b
  have h1 := h.2.1
  have h2 := h.2.2
  rw [b.cell] at h1 h2
  exact ⟨by rw [b'.cell, e _ (by omega), h1], by rw [b'.cell, e _ (by omega), h2]⟩
theorem hall_step (h : hallP m s now g W F) (hs : MStep W W' m F s') : Next F W W' (hallP m s' now g) := by
  obtain ⟨F', h1, h2, h3, h4⟩ := hs
  obtain ⟨k1, k2⟩ := hall_kept h h3
  exact ⟨F', ⟨h1, k1, k2⟩, h2, h4⟩
theorem hh_add (h : Has w W (hallP m s now g :: ps)) (hl : Locs ps) (r k i z t : Int) (hok : It.Ok ⟨r, k, i, t⟩) :
    Calls Try.prog 5 #[.pointer (some ⟨m, 0, none⟩), taskV r k i, .int .i64 z, .int .i64 t] W fun e W' => e = .returned (.int .i64 (maddE s r k i z)) ∧ Has w W' (hallP m (madd s r k i z t) now g :: ps) :=
  h.act hl fun F hF => (add_any W m s F r k i z t hF.1 hok).mono fun e W' ⟨h1, h2⟩ => ⟨h1, hall_step hF h2⟩
theorem hh_poll (h : Has w W (hallP m s now g :: ps)) (hl : Locs ps) (z kind t : Int) (ht : 0 ≤ s.tok) (ht2 : s.tok < 18446744073709551615) (hn1 : -9223372036854775808 ≤ t) (hn2 : t ≤ 9223372036854775787) :
    Calls Try.prog 8 #[.pointer (some ⟨m, 0, none⟩), .int .i64 z, .int .i64 kind, .int .i64 t] W fun e W' => e = .returned (.tuple #[lsV (pollL s z kind t), .int .i64 (pollE s z kind)]) ∧ Has w W' (hallP m (pollS s z kind t) now g :: ps) :=
  h.act hl fun F hF => (poll_any W m s F z kind t hF.1 ht ht2 hn1 hn2).mono fun e W' ⟨h1, h2⟩ => ⟨h1, hall_step hF h2⟩
theorem hh_get (h : Has w W (hallP m s now g :: ps)) (tok t : Int) :
    Calls Try.prog 27 #[.pointer (some ⟨m, 0, none⟩), .int .u64 tok, .int .i64 t] W fun e W' => e = .returned (.tuple #[lsV (getL s tok t), .int .i64 (getE s tok t)]) ∧ Ext W W' := by
  obtain ⟨F, hF⟩ := h.head
  exact get_any W m s F tok t hF.1
theorem hh_done (h : Has w W (hallP m s now g :: ps)) (hl : Locs ps) (t : Int) :
    Calls Try.prog 28 #[.pointer (some ⟨m, 0, none⟩), .int .u64 t] W fun e W' => e = .returned (.bool (decide ((s.done t).ls.length < s.ls.length))) ∧ Has w W' (hallP m (s.done t) now g :: ps) :=
  h.act hl fun F hF => (done_any W m s F t hF.1).mono fun e W' ⟨h1, h2⟩ => ⟨h1, hall_step hF h2⟩
/-- a call that hands out leases -/
def HandH (w : World) (m : Nat) (s' : MS) (now : Int) (g : Nat) (ps : List Asr) (out : List Ls) (e : Ending) (W' : World) : Prop :=
  ∃ v, e = .returned v ∧ Has w W' (rowA 56 6 v out.length (flatL out) :: hallP m s' now g :: ps)
theorem hh_out {P : Program} {f : FuncId} {args : Array Value} {out : List Ls} (h : Has w W (hallP m s now g :: ps)) (hl : Locs ps) (hc : ∀ F, mP m s W F → Calls P f args W fun e W' => Out W m F s' out e W') :
    Calls P f args W fun e W' => HandH w m s' now g ps out e W' := by
  obtain ⟨F, h1, h2, h3⟩ := h
  refine (hc F h1.1).mono ?_
  rintro e W' ⟨v, F', rfl, HM, hown, hnew⟩
  obtain ⟨k1, k2⟩ := hall_kept h1 HM.k
  have hE0 : Ext w W := Side.base h3
  have hE : Ext w W' := ((Tch.of_ext (S := fun k => w.heap.size ≤ k) hE0).trans HM.t (fun i hi _ => (h2 i hi).1)).ext (fun _ h => h)
  refine ⟨v, rfl, _, ⟨hown, rfl⟩, fun k hk => ⟨Nat.le_trans hE0.le (hnew k hk).1, id⟩, F', ⟨HM.p, k1, k2⟩, fun k hk => ⟨?_, ?_⟩, Side.step hl h3 (HM.t.mono fun _ h _ => Or.inr h) hE ?_⟩
  · rcases HM.f k hk with h | h
    · exact (h2 k h).1
    · exact Nat.le_trans hE0.le h
  · rintro (h | h)
    · exact h
    · exact (hnew k h).2 hk
  · rintro k ((h | h) | h)
    · exact h.elim
    · exact Or.inr (hnew k h).1
    · exact (HM.f k h).imp Or.inr id
theorem hh_expire (h : Has w W (hallP m s now g :: ps)) (hl : Locs ps) (t : Int) (hn1 : 0 ≤ t) (hn2 : t ≤ 4611686018427387903) (hsi : ∀ k, k < 65 → ∀ x ∈ s.q k, 0 ≤ x.since ∧ x.since ≤ 4611686018427387903) :
    Calls Try.prog 12 #[.pointer (some ⟨m, 0, none⟩), .int .i64 t] W fun e W' => HandH w m (s.expire t) now g ps (s.late t) e W' :=
  hh_out h hl fun F hF => expire_any W m s F t hF hn1 hn2 hsi
theorem hh_lose (h : Has w W (hallP m s now g :: ps)) (hl : Locs ps) (z t : Int) (hz1 : 1 ≤ z) (hz : z ≤ 64) (hn1 : -9223372036854775808 ≤ t) (hn2 : t ≤ 9223372036854775807) :
    Calls Try.prog 11 #[.pointer (some ⟨m, 0, none⟩), .int .i64 z, .int .i64 t] W fun e W' => HandH w m (s.lose z t) now g ps (s.lost z) e W' := by
  unfold MS.lose MS.lost
  have hz' : ¬ (z < 1 ∨ 64 < z) := by omega
  rw [if_neg hz', if_neg hz']
  exact hh_out h hl fun F hF => lose_go W m s F z t hF hz1 hz hn1 hn2
theorem hh_leases (h : Has w W (hallP m s now g :: ps)) :
    Calls Try.prog 13 #[.pointer (some ⟨m, 0, none⟩)] W fun e W' => ∃ v, e = .returned v ∧ (∃ p c, v = .slice p s.ls.length c) ∧ Ext W W' := by
  obtain ⟨F, hF⟩ := h.head
  refine (leases_any W m s F hF.1).mono ?_
  rintro e W' ⟨v, rfl, h1, h2, h3⟩
  exact ⟨v, rfl, ownsRow_slice h1, h3⟩
theorem hh_waiting (h : Has w W (hallP m s now g :: ps)) :
    Calls Try.prog 6 #[.pointer (some ⟨m, 0, none⟩)] W fun e W' => ∃ v, e = .returned v ∧ (∃ p c, v = .slice p (waitQ s 64).length c) ∧ Ext W W' := by
  obtain ⟨F, hF⟩ := h.head
  refine (waiting_any W m s F hF.1).mono ?_
  rintro e W' ⟨v, rfl, h1, h3⟩
  exact ⟨v, rfl, ownsRow_slice h1, h3⟩
theorem hh_now (h : Has w W (hallP m s now g :: ps)) : W.cell? ⟨m, 197, none⟩ = some (.int .i64 now) ∧ W.cell? ⟨m, 198, none⟩ = some (.map (some g)) ∧ W.frozen? ⟨m, 197, none⟩ = false ∧ m < W.heap.size := by
  obtain ⟨F, hF⟩ := h.head
  obtain ⟨cs, T, b⟩ := mP_blk hF.1
  exact ⟨hF.2.1, hF.2.2, b.frozen 197, b.lt⟩
/-- another time is stored -/
theorem MRep.far {Fq : Nat → Nat → Prop} {lv : Value} (h : MRep W m s Fq lv) (u : Value) : MRep (W.setCell ⟨m, 197, none⟩ u) m s Fq lv := by
  obtain ⟨⟨cs, T, b1, b2, b2', b3, b4⟩, hq, hd, hown, hol, hln, hqn⟩ := h
  have c2 := b1.set_ 197 u
  have hne : ∀ j, j ≠ 197 → (cs.setIfInBounds 197 u)[j]? = cs[j]? := fun j hj => by rw [Array.getElem?_setIfInBounds_ne (Ne.symm hj)]
  have hfar : ∀ b, b ≠ m → (W.setCell ⟨m, 197, none⟩ u).heap[b]? = W.heap[b]? := fun b hb => Below.heap_setCell _ _ _ _ hb
  refine ⟨⟨_, T, c2, b2, b2', (hne 0 (by omega)).trans b3, (hne 196 (by omega)).trans b4⟩, fun k hk => ?_, hd, ?_, hol, hln, hqn⟩
  · exact (hq k hk).row b1 c2 (fun i h1 h2 => hne i (by omega)) fun b hb => hfar b ((hq k hk).ne hb)
  · exact ownsRow_same hown fun b hb => hfar b (hol b hb).1
theorem hh_set (h : Has w W (hallP m s now g :: ps)) (hl : Locs ps) (t : Int) : Has w (W.setCell ⟨m, 197, none⟩ (.int .i64 t)) (hallP m s t g :: ps) := by
  refine h.next hl fun F hF => ?_
  obtain ⟨⟨Fq, lv, h1, rfl⟩, h2, h3⟩ := hF
  obtain ⟨cs, T, b1, _⟩ := h1.blk
  have c2 := b1.set_ 197 (.int .i64 t)
  have hlt : 197 < cs.size := by
    rw [b1.cell] at h2
    exact (Array.getElem?_eq_some_iff.1 h2).1
  refine ⟨MFoot m Fq lv, ⟨⟨Fq, lv, h1.far _, rfl⟩, ?_, ?_⟩, (Tch.refl _ _).setCell (p := ⟨m, 197, none⟩) (fun _ => Or.inl rfl) _, fun _ h => Or.inl h⟩
  · rw [c2.cell, Array.getElem?_setIfInBounds_self_of_lt hlt]
  · rw [c2.cell, Array.getElem?_setIfInBounds_ne (by omega)]
    rw [b1.cell] at h3; exact h3
end
/-! ### a new hall -/
noncomputable def hz0 : Array Value := match (Try.prog.info? 53).bind (·.zero) with
  | some (.agg cs) => cs
  | _ => #[]
theorem hz0_zero (w : World) : (zeroValue 53).run Try.prog w = .ok (.agg hz0) w := by
  have h : (match (Try.prog.info? 53).bind (·.zero) with | some (.agg _) => true | _ => false) = true := by kernel_rfl
  unfold hz0
  split at h
  · rename_i cs hc
    obtain ⟨i, h1, h2⟩ := Option.bind_eq_some_iff.1 hc
    simp [zeroValue, typeInfo, h1, h2]
  · cases h
theorem hz0_size : hz0.size = 199 := by kernel_rfl
noncomputable def hcells (g : Nat) : Array Value := hz0.setIfInBounds 198 (.map (some g))
theorem hcells_zero (g : Nat) : MZero (hcells g) := mzero_of (by kernel_rfl)
theorem hcells_now (g : Nat) : (hcells g)[197]? = some (.int .i64 0) := by kernel_rfl
theorem hcells_done (g : Nat) : (hcells g)[198]? = some (.map (some g)) := by kernel_rfl
theorem hh_new {w W : World} {ps : List Asr} {g : Nat} (h : Has w W ps) (hl : Locs ps) : Has w (W.alloc (.cells (hcells g) 53)) (hallP W.heap.size zeroMS 0 g :: ps) := by
  have b := Blk.new W 53 (hcells g)
  exact h.add hl (ext_alloc W _) (F := fun k => k = W.heap.size) ⟨(hcells_zero g).new b (by decide) (by decide), by rw [b.cell]; exact hcells_now g, by rw [b.cell]; exact hcells_done g⟩ (fun k hk => by omega)
end Go.Proofs.Ytadmfoglajhdcaa
