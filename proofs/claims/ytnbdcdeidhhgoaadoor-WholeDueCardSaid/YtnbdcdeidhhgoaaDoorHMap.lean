/- A map from keys to places, of a law's own. -/
import Derived.Test.YtnbdcdeidhhgoaaDoorProg
import Derived.Test.YtnbdcdeidhhgoaaDoorSep
import Derived.DeepKeys4
import Derived.Maps.OwnOps
import Derived.MapKept
namespace Go.Proofs.YtnbdcdeidhhgoaaDoor
set_option maxRecDepth 4000
set_option linter.unusedVariables false
set_option linter.unusedSimpArgs false
open Go Go.RowKit Go.Maps Go.ChangeMaps Go.MapKept
theorem hLaid : laidOutB Tryd.prog = true := by kernel_rfl
theorem hWide : (match Tryd.prog.underlying 41 with | some (.array _ _) | some (.struct _) => true | _ => false) = true := by rw [Tryd.underlying41]
theorem hKeyed : Keyed Tryd.prog 41 := Keyed.of_law (deep_law_laid hLaid (m := 2) (by omega) (of_decide_eq_true (by kernel_rfl)) (by kernel_rfl) hWide)
abbrev HK := Int × Int × Int
abbrev keyV (x : HK) : Value := .agg #[.int .i64 x.1, .int .i64 x.2.1, .int .i64 x.2.2]
structure KeyOk (x : HK) : Prop where
  r1 : -9223372036854775808 ≤ x.1
  r2 : x.1 ≤ 9223372036854775807
  k1 : -9223372036854775808 ≤ x.2.1
  k2 : x.2.1 ≤ 9223372036854775807
  i1 : -9223372036854775808 ≤ x.2.2
  i2 : x.2.2 ≤ 9223372036854775807
theorem wf_i64' {n : Int} (h1 : -9223372036854775808 ≤ n) (h2 : n ≤ 9223372036854775807) : (Lit.int .i64 n).wf = true := by
  simp [Lit.wf, IntKind.min, IntKind.max, IntKind.signed, IntKind.bits]; omega
theorem keyLits_i64 {P : Program} (d : Nat) {t : TypeId} (ht : P.underlying t = some (.int .i64)) {n : Int} (h : (Lit.int .i64 n).wf = true) : P.keyLits (d + 1) t [.int .i64 n] = some [.int .i64 n] := by
  unfold Program.keyLits
  rw [ht]
  simp [h]
theorem keyLits_key (d : Nat) {x : HK} (h : KeyOk x) : Tryd.prog.keyLits (d + 2) 41 [.int .i64 x.1, .int .i64 x.2.1, .int .i64 x.2.2] = some [.int .i64 x.1, .int .i64 x.2.1, .int .i64 x.2.2] := by
  have a := keyLits_i64 d Tryd.underlying3 (wf_i64' h.r1 h.r2)
  have b := keyLits_i64 d Tryd.underlying3 (wf_i64' h.k1 h.k2)
  have c := keyLits_i64 d Tryd.underlying2 (wf_i64' h.i1 h.i2)
  have hc : Tryd.prog.cellsOf 41 = 3 := by kernel_rfl
  have h2 : Tryd.prog.cellsOf 3 = 1 := by kernel_rfl
  have h3 : Tryd.prog.cellsOf 2 = 1 := by kernel_rfl
  unfold Program.keyLits
  rw [Tryd.underlying41]
  simp only [List.length_cons, List.length_nil, hc]
  rw [if_pos ⟨trivial, by decide +kernel⟩]
  simp [List.mapM_cons, h2, h3, a, b, c]
theorem keyOf_mk {x : HK} (h : KeyOk x) : ∃ kl, keyOf Tryd.prog 41 (keyV x) = some kl := by
  have h0 : Tryd.prog.keyType 41 = true := by kernel_rfl
  have h1 : (keyV x).formed Tryd.prog 41 = true := by
    have hc : Tryd.prog.cellsOf 41 = 3 := by kernel_rfl
    simp [Value.formed, Tryd.underlying41, hc]
  obtain ⟨n, hn⟩ : ∃ n, Tryd.prog.types.size + 1 = n + 2 := ⟨Tryd.prog.types.size - 1, by have : 0 < Tryd.prog.types.size := of_decide_eq_true (by kernel_rfl); omega⟩
  have h4 := keyLits_key n h
  refine ⟨.string (keyBytes [.int .i64 x.1, .int .i64 x.2.1, .int .i64 x.2.2]), ?_⟩
  unfold keyOf
  rw [Tryd.underlying41, hn]
  simp only [h0, h1, Bool.and_true, if_true]
  show (Tryd.prog.keyLits (n + 2) 41 [.int .i64 x.1, .int .i64 x.2.1, .int .i64 x.2.2]).map _ = _
  rw [h4]
  rfl
theorem keyV_inj {x y : HK} (h : keyV x = keyV y) : x = y := by
  obtain ⟨a, b, c⟩ := x
  obtain ⟨a', b', c'⟩ := y
  simp at h
  obtain ⟨rfl, rfl, rfl⟩ := h
  rfl
theorem setBlock_at {w : World} {b : Nat} {o : Obj} (o' : Obj) (hb : w.heap[b]? = some o) : (setBlock w b o').heap[b]? = some o' := (heap_set hb).1
theorem setBlock_tch {S : Nat → Prop} {a w : World} {b : Nat} (h : Tch S a w) (hb : b < a.heap.size → S b) (o' : Obj) : Tch S a (setBlock w b o') :=
  ⟨h.os, h.tape, h.output, by simpa [setBlock] using h.size, fun i hi hn => by
    have hne : b ≠ i := fun e => hn (e ▸ hb (e ▸ hi))
    have : (setBlock w b o').heap[i]? = w.heap[i]? := by simp [setBlock, Array.getElem?_setIfInBounds, hne]
    rw [this]; exact h.block i hi hn⟩
structure MpOk (es : Array MapEntry) (m : HK → Option Nat) : Prop where
  ent : ∀ e ∈ es.toList, ∃ x i, KeyOk x ∧ e.key = keyV x ∧ e.val = .int .i64 ((i : Nat) : Int) ∧ m x = some i
  all : ∀ x i, m x = some i → ∃ e ∈ es.toList, e.key = keyV x
  one : (es.toList.map (·.key)).Nodup
def mpA (mv : Value) (m : HK → Option Nat) : Asr := fun W F => (mv = .map none ∧ (∀ x, m x = none) ∧ F = fun _ => False) ∨ ∃ b, mv = .map (some b) ∧ (∃ es clock, W.heap[b]? = some (.map es clock) ∧ MpOk es m) ∧ F = fun k => k = b
theorem mpA_loc (mv : Value) (m : HK → Option Nat) : Loc (mpA mv m) :=
  ⟨fun h hk => by
    rcases h with ⟨h1, h2, rfl⟩ | ⟨b, h1, ⟨es, c, hb, h2⟩, rfl⟩
    · exact Or.inl ⟨h1, h2, rfl⟩
    · exact Or.inr ⟨b, h1, ⟨es, c, (hk b rfl).trans hb, h2⟩, rfl⟩, fun h hk => by
    rcases h with ⟨h1, h2, rfl⟩ | ⟨b, h1, ⟨es, c, hb, h2⟩, rfl⟩
    · exact hk.elim
    · subst hk
      exact (Array.getElem?_eq_some_iff.1 hb).1⟩
def updM (m : HK → Option Nat) (x : HK) (i : Nat) : HK → Option Nat := fun y => if y = x then some i else m y
def delM (m : HK → Option Nat) (x : HK) : HK → Option Nat := fun y => if y = x then none else m y
theorem mp_new (W : World) : mpA (.map (some W.heap.size)) (fun _ => none) (W.alloc (.map #[] 0)) (fun k => k = W.heap.size) :=
  Or.inr ⟨_, rfl, ⟨#[], 0, heap_alloc_new W _, ⟨by simp, by simp, by simp⟩⟩, rfl⟩
theorem mp_nil (W : World) : mpA (.map none) (fun _ => none) W (fun _ => False) := Or.inl ⟨rfl, fun _ => rfl, rfl⟩
theorem zero_int (w : World) : (zeroValue 3).run Tryd.prog w = .ok (.int .i64 0) w := by kernel_rfl
section
variable {w W : World} {mv : Value} {m : HK → Option Nat} {ps : List Asr} {F : Nat → Prop} {x : HK}
theorem mp_find {es : Array MapEntry} (h : MpOk es m) (hx : KeyOk x) (W : World) :
    (m x = none ∧ (Instr.findKey 41 (keyV x) es.toList).run Tryd.prog W = .ok none W) ∨ ∃ i j e, m x = some i ∧ (Instr.findKey 41 (keyV x) es.toList).run Tryd.prog W = .ok (some (j, .int .i64 ((i : Nat) : Int))) W ∧ es[j]? = some e ∧ e.key = keyV x := by
  obtain ⟨kl, hkl⟩ := keyOf_mk hx
  rcases hKeyed.find W hkl es.toList (fun e he => by obtain ⟨y, i, hy, hk, _⟩ := h.ent e he; rw [hk]; exact keyOf_mk hy) with ⟨h1, h2⟩ | ⟨j, e, h1, h2, h3⟩
  · refine Or.inl ⟨?_, h1⟩
    cases hm : m x with
    | none => rfl
    | some i =>
      obtain ⟨e, he, hk⟩ := h.all x i hm
      exact absurd hk (h2 e he)
  · obtain ⟨y, i, hy, hk, hv, hm⟩ := h.ent e (List.mem_of_getElem? h2)
    have : y = x := keyV_inj (hk.symm.trans h3)
    subst this
    exact Or.inr ⟨i, j, e, hm, by rw [h1, hv], by simpa using h2, h3⟩
theorem mp_look2 (h : mpA mv m W F) (hx : KeyOk x) : (Instr.lookup 24 mv (keyV x) true).run Tryd.prog W = .ok (.tuple #[.int .i64 (((m x).getD 0 : Nat) : Int), .bool (m x).isSome]) W := by
  obtain ⟨kl, hkl⟩ := keyOf_mk hx
  rcases h with ⟨rfl, h2, _⟩ | ⟨b, rfl, ⟨es, c, hb, h2⟩, _⟩
  · have hf : (Instr.findKey 41 (keyV x) []).run Tryd.prog W = .ok none W := by
      rcases hKeyed.find W hkl [] (by simp) with ⟨h1, _⟩ | ⟨j, e, _, h3, _⟩
      · exact h1
      · simp at h3
    have hc := hKeyed.check W true hkl
    simp [Instr.lookup, run_underlying Tryd.underlying24, hc, hf, zero_int, h2, Result.andThen]
  · have hc := hKeyed.check W es.isEmpty hkl
    rcases mp_find h2 hx W with ⟨h3, h4⟩ | ⟨i, j, e, h3, h4, _, _⟩
    · simp [Instr.lookup, run_underlying Tryd.underlying24, MapKept.run_getObj_map hb, hc, h4, zero_int, h3, Result.andThen]
    · simp [Instr.lookup, run_underlying Tryd.underlying24, MapKept.run_getObj_map hb, hc, h4, h3, Result.andThen]
theorem mp_look1 (h : mpA mv m W F) (hx : KeyOk x) : (Instr.lookup 24 mv (keyV x) false).run Tryd.prog W = .ok (.int .i64 (((m x).getD 0 : Nat) : Int)) W := by
  obtain ⟨kl, hkl⟩ := keyOf_mk hx
  rcases h with ⟨rfl, h2, _⟩ | ⟨b, rfl, ⟨es, c, hb, h2⟩, _⟩
  · have hf : (Instr.findKey 41 (keyV x) []).run Tryd.prog W = .ok none W := by
      rcases hKeyed.find W hkl [] (by simp) with ⟨h1, _⟩ | ⟨j, e, _, h3, _⟩
      · exact h1
      · simp at h3
    have hc := hKeyed.check W true hkl
    simp [Instr.lookup, run_underlying Tryd.underlying24, hc, hf, zero_int, h2, Result.andThen]
  · have hc := hKeyed.check W es.isEmpty hkl
    rcases mp_find h2 hx W with ⟨h3, h4⟩ | ⟨i, j, e, h3, h4, _, _⟩
    · simp [Instr.lookup, run_underlying Tryd.underlying24, MapKept.run_getObj_map hb, hc, h4, zero_int, h3, Result.andThen]
    · simp [Instr.lookup, run_underlying Tryd.underlying24, MapKept.run_getObj_map hb, hc, h4, h3, Result.andThen]
theorem mp_step {b : Nat} {m' : HK → Option Nat} (h : Has w W (mpA (.map (some b)) m :: ps)) (hl : Locs ps) {es : Array MapEntry} {c : Nat} (hb : W.heap[b]? = some (.map es c)) (es' : Array MapEntry) (c' : Nat) (h2 : MpOk es' m') : Has w (setBlock W b (.map es' c')) (mpA (.map (some b)) m' :: ps) := by
  refine h.next hl fun F hF => ?_
  rcases hF with ⟨h1, _⟩ | ⟨b', h1, _, rfl⟩
  · cases h1
  · injection h1 with h1
    injection h1 with h1
    subst h1
    exact ⟨_, Or.inr ⟨b, rfl, ⟨es', c', setBlock_at (.map es' c') hb, h2⟩, rfl⟩, setBlock_tch (S := fun k => k = b) (Tch.refl _ _) (fun _ => rfl) _, fun k hk => Or.inl hk⟩
theorem nodup_get {es : Array MapEntry} (h : (es.toList.map (·.key)).Nodup) {i j : Nat} {a b : MapEntry} (hi : es[i]? = some a) (hj : es[j]? = some b) (he : a.key = b.key) : i = j := by
  have hi' : es.toList[i]? = some a := by simpa using hi
  have hj' : es.toList[j]? = some b := by simpa using hj
  obtain ⟨h1, h2⟩ := List.getElem?_eq_some_iff.1 hi'
  obtain ⟨h3, h4⟩ := List.getElem?_eq_some_iff.1 hj'
  exact (List.getElem_inj (h₀ := by simpa using h1) (h₁ := by simpa using h3) h (xs := es.toList.map (·.key)) (i := i) (j := j)).1 (by
    simp only [List.getElem_map]
    rw [h2, h4, he])
theorem mp_put {b : Nat} (h : Has w W (mpA (.map (some b)) m :: ps)) (hl : Locs ps) (hx : KeyOk x) (i : Nat) :
    ∃ W', (Instr.mapUpdate 24 (.map (some b)) (keyV x) (.int .i64 (i : Int))).run Tryd.prog W = .ok () W' ∧ Has w W' (mpA (.map (some b)) (updM m x i) :: ps) := by
  obtain ⟨kl, hkl⟩ := keyOf_mk hx
  obtain ⟨F, hF⟩ := h.head
  rcases hF with ⟨h1, _⟩ | ⟨b', h1, ⟨es, c, hb, h2⟩, _⟩
  · cases h1
  injection h1 with h1
  injection h1 with h1
  subst h1
  have hc := hKeyed.check W false hkl
  rcases mp_find h2 hx W with ⟨h3, h4⟩ | ⟨i0, j, e, h3, h4, h5, h6⟩
  · refine ⟨setBlock W b (.map (es.push ⟨keyV x, .int .i64 (i : Int), c⟩) (c + 1)), ?_, mp_step h hl hb _ _ ⟨?_, ?_, ?_⟩⟩
    · simp [Instr.mapUpdate, run_underlying Tryd.underlying24, MapKept.run_getObj_map hb, hc, h4, MapKept.run_setObj_map _ hb, Result.andThen, setBlock]
    · intro e he
      simp only [Array.toList_push, List.mem_append, List.mem_singleton] at he
      rcases he with he | rfl
      · obtain ⟨y, i1, hy, k1, k2, k3⟩ := h2.ent e he
        refine ⟨y, i1, hy, k1, k2, ?_⟩
        unfold updM
        rw [if_neg (fun e => by rw [e, h3] at k3; cases k3)]; exact k3
      · exact ⟨x, i, hx, rfl, rfl, by unfold updM; rw [if_pos rfl]⟩
    · intro y i1 hy
      unfold updM at hy
      by_cases e : y = x
      · subst e
        exact ⟨⟨keyV y, .int .i64 (i : Int), c⟩, by simp, rfl⟩
      · rw [if_neg e] at hy
        obtain ⟨e1, he, hk⟩ := h2.all y i1 hy
        exact ⟨e1, by simp [he], hk⟩
    · rw [Array.toList_push, List.map_append, List.nodup_append]
      refine ⟨h2.one, by simp, ?_⟩
      intro a ha b' hb' e
      obtain ⟨q, hq, rfl⟩ := List.mem_map.1 ha
      have hb2 : b' = keyV x := by simpa using hb'
      obtain ⟨y, i1, hy, k1, k2, k3⟩ := h2.ent q hq
      have : y = x := keyV_inj (k1.symm.trans (e.trans hb2))
      rw [this, h3] at k3
      cases k3
  · have hst := hKeyed.stays W hkl
    have hold : ((es[j]?).map (·.key)).getD (keyV x) = keyV x := by rw [h5]; exact h6
    have hj : j < es.size := (Array.getElem?_eq_some_iff.1 h5).1
    have hget : ∀ k, (es.modify j fun e => { e with key := keyV x, val := .int .i64 (i : Int) })[k]? = if j = k then some { e with key := keyV x, val := .int .i64 (i : Int) } else es[k]? := by
      intro k
      rw [Array.getElem?_modify]
      by_cases e1 : j = k
      · subst e1; simp [h5]
      · simp [e1]
    refine ⟨setBlock W b (.map (es.modify j fun e => { e with key := keyV x, val := .int .i64 (i : Int) }) c), ?_, mp_step h hl hb _ _ ⟨?_, ?_, ?_⟩⟩
    · simp [Instr.mapUpdate, run_underlying Tryd.underlying24, MapKept.run_getObj_map hb, hc, h4, hold, hst, MapKept.run_setObj_map _ hb, Result.andThen, setBlock]
    · intro e1 he1
      obtain ⟨k, hk⟩ := List.mem_iff_getElem?.1 he1
      rw [Array.getElem?_toList, hget] at hk
      by_cases e2 : j = k
      · rw [if_pos e2] at hk
        injection hk with hk
        subst hk
        exact ⟨x, i, hx, rfl, rfl, by unfold updM; rw [if_pos rfl]⟩
      · rw [if_neg e2] at hk
        obtain ⟨y, i1, hy, k1, k2, k3⟩ := h2.ent e1 (by rw [Array.mem_toList_iff]; exact Array.mem_of_getElem? hk)
        refine ⟨y, i1, hy, k1, k2, ?_⟩
        have hyx : y ≠ x := fun e3 => e2 (nodup_get h2.one h5 hk (by rw [h6, k1, e3]))
        unfold updM
        rw [if_neg hyx]; exact k3
    · intro y i1 hy
      unfold updM at hy
      by_cases e3 : y = x
      · subst e3
        refine ⟨{ e with key := keyV y, val := .int .i64 (i : Int) }, ?_, rfl⟩
        rw [Array.mem_toList_iff]
        exact Array.mem_of_getElem? (i := j) (by rw [hget, if_pos rfl])
      · rw [if_neg e3] at hy
        obtain ⟨e1, he, hk⟩ := h2.all y i1 hy
        obtain ⟨k, hkk⟩ := List.mem_iff_getElem?.1 he
        have hkk' : es[k]? = some e1 := by simpa using hkk
        have hjk : j ≠ k := fun e4 => by
          subst e4
          rw [h5] at hkk'
          injection hkk' with e5
          subst e5
          exact e3 (keyV_inj (hk.symm.trans h6))
        refine ⟨e1, ?_, hk⟩
        rw [Array.mem_toList_iff]
        exact Array.mem_of_getElem? (i := k) (by rw [hget, if_neg hjk]; exact hkk')
    · have : ((es.modify j fun e => { e with key := keyV x, val := .int .i64 (i : Int) }).toList.map (·.key)) = es.toList.map (·.key) := by
        apply List.ext_getElem?
        intro k
        rw [List.getElem?_map, List.getElem?_map, Array.getElem?_toList, Array.getElem?_toList, hget]
        by_cases e2 : j = k
        · subst e2
          rw [if_pos rfl, h5]
          show some (keyV x) = some e.key
          rw [h6]
        · rw [if_neg e2]
      rw [this]; exact h2.one
theorem mp_del {b : Nat} (h : Has w W (mpA (.map (some b)) m :: ps)) (hl : Locs ps) (hx : KeyOk x) (ty : TypeId) :
    ∃ W', (Builtin.delete_ #[24, 41] ty #[.map (some b), keyV x]).run Tryd.prog W = .ok (.tuple #[]) W' ∧ Has w W' (mpA (.map (some b)) (delM m x) :: ps) := by
  obtain ⟨kl, hkl⟩ := keyOf_mk hx
  obtain ⟨F, hF⟩ := h.head
  rcases hF with ⟨h1, _⟩ | ⟨b', h1, ⟨es, c, hb, h2⟩, _⟩
  · cases h1
  injection h1 with h1
  injection h1 with h1
  subst h1
  have hc := hKeyed.check W es.isEmpty hkl
  rcases mp_find h2 hx W with ⟨h3, h4⟩ | ⟨i0, j, e, h3, h4, h5, h6⟩
  · refine ⟨setBlock W b (.map es c), ?_, mp_step h hl hb _ _ ?_⟩
    · simp [Builtin.delete_, run_underlying Tryd.underlying24, MapKept.run_getObj_map hb, hc, h4, MapKept.run_setObj_map _ hb, Result.andThen, setBlock]
    · have : delM m x = m := by
        funext y
        unfold delM
        by_cases e : y = x
        · rw [if_pos e, e, h3]
        · rw [if_neg e]
      rw [this]; exact h2
  · have hj : j < es.size := (Array.getElem?_eq_some_iff.1 h5).1
    have hlist : (es.eraseIdxIfInBounds j).toList = es.toList.eraseIdx j := by
      rw [Array.eraseIdxIfInBounds_eq, dif_pos hj]
      simp
    refine ⟨setBlock W b (.map (es.eraseIdxIfInBounds j) c), ?_, mp_step h hl hb _ _ ⟨?_, ?_, ?_⟩⟩
    · simp [Builtin.delete_, run_underlying Tryd.underlying24, MapKept.run_getObj_map hb, hc, h4, MapKept.run_setObj_map _ hb, Result.andThen, setBlock]
    · intro e1 he1
      rw [hlist] at he1
      obtain ⟨y, i1, hy, k1, k2, k3⟩ := h2.ent e1 (List.mem_of_mem_eraseIdx he1)
      refine ⟨y, i1, hy, k1, k2, ?_⟩
      have hyx : y ≠ x := fun e3 => by
        obtain ⟨k, hkj, hk⟩ := List.mem_eraseIdx_iff_getElem?.1 he1
        exact hkj (nodup_get h2.one (by simpa using hk) h5 (by rw [h6, k1, e3]))
      unfold delM
      rw [if_neg hyx]; exact k3
    · intro y i1 hy
      unfold delM at hy
      by_cases e3 : y = x
      · rw [if_pos e3] at hy; cases hy
      · rw [if_neg e3] at hy
        obtain ⟨e1, he, hk⟩ := h2.all y i1 hy
        refine ⟨e1, ?_, hk⟩
        rw [hlist]
        obtain ⟨k, hkk⟩ := List.mem_iff_getElem?.1 he
        refine List.mem_eraseIdx_iff_getElem?.2 ⟨k, fun e4 => ?_, hkk⟩
        subst e4
        have hkk' : es[k]? = some e1 := by simpa using hkk
        rw [h5] at hkk'
        injection hkk' with e5
        subst e5
        exact e3 (keyV_inj (hk.symm.trans h6))
    · rw [hlist]
      exact (List.Sublist.map _ (List.eraseIdx_sublist _ _)).nodup h2.one
end
end Go.Proofs.YtnbdcdeidhhgoaaDoor
