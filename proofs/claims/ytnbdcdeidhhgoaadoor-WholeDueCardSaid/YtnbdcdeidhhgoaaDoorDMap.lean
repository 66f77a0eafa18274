/- DERIVED LEMMAS, OF NO PROGRAM: a map of numbers to slices, entry by entry: what is found, set, cleared, and handed out by a range in whatever order. -/
import Derived.Test.YtnbdcdeidhhgoaaDoorSep
import Derived.MapKept
import Derived.Maps.RangeRun
namespace Go.Proofs.YtnbdcdeidhhgoaaDoor
set_option maxRecDepth 4000
set_option linter.unusedVariables false
set_option linter.unusedSimpArgs false
open Go Go.RowKit Go.MapKept Go.ChangeMaps
/-- an entry: its key, its value, the bytes that lie there, and when it was made -/
structure Pe where
  k : Int
  v : Value
  l : List UInt8
  born : Nat
def Pe.ent (p : Pe) : MapEntry := ⟨.int .i64 p.k, p.v, p.born⟩
def ents (ps : List Pe) : Array MapEntry := (ps.map Pe.ent).toArray
structure PeOk (ps : List Pe) (clock : Nat) : Prop where
  keys : (ps.map (·.k)).Nodup
  old : ∀ p ∈ ps, p.born < clock
  borns : (ps.map (·.born)).Nodup
theorem PeOk.nil (c : Nat) : PeOk [] c := ⟨by simp, by simp, by simp⟩
def lookP (ps : List Pe) (n : Int) : Option Pe := ps.find? (·.k == n)
theorem lookP_some {ps : List Pe} {n : Int} {p : Pe} (h : lookP ps n = some p) : p ∈ ps ∧ p.k = n :=
  ⟨List.mem_of_find?_eq_some h, by simpa using List.find?_some (p := fun x : Pe => x.k == n) h⟩
theorem lookP_none {ps : List Pe} {n : Int} (h : lookP ps n = none) : ∀ p ∈ ps, p.k ≠ n := by
  intro p hp
  have := List.find?_eq_none.1 h p hp
  simpa using this
theorem lookP_mem {ps : List Pe} (hn : (ps.map (·.k)).Nodup) {p : Pe} (hp : p ∈ ps) : lookP ps p.k = some p := by
  induction ps with
  | nil => cases hp
  | cons x ps ih =>
    unfold lookP
    rw [List.map_cons, List.nodup_cons] at hn
    rcases List.mem_cons.1 hp with rfl | hp
    · simp
    · have hne : x.k ≠ p.k := fun e => hn.1 (e ▸ List.mem_map.2 ⟨p, hp, rfl⟩)
      rw [List.find?_cons]
      have : (x.k == p.k) = false := by simpa using hne
      rw [this]
      exact ih hn.2 hp
theorem findNow_ents (n : Int) : ∀ (ps : List Pe) (i : Nat),
    (lookP ps n = none ∧ Instr.findNow (.int .i64) (.int .i64 n) (ps.map Pe.ent) i = some none) ∨
    ∃ j p, ps[j]? = some p ∧ lookP ps n = some p ∧ p.k = n ∧ Instr.findNow (.int .i64) (.int .i64 n) (ps.map Pe.ent) i = some (some (i + j, p.v))
  | [], i => Or.inl ⟨rfl, rfl⟩
  | x :: ps, i => by
    have hs : Instr.sameNow (.int .i64) (.int .i64 n) (.int .i64 x.k) = some (n == x.k) := by simp [Instr.sameNow]
    by_cases he : x.k = n
    · refine Or.inr ⟨0, x, rfl, by simp [lookP, he], he, ?_⟩
      have h2 : (n == x.k) = true := by simp [he]
      rw [List.map_cons, Instr.findNow]
      show (match Instr.sameNow (.int .i64) (.int .i64 n) (.int .i64 x.k) with | some true => _ | some false => _ | none => _) = _
      rw [hs, h2]
      rfl
    · have h2 : (n == x.k) = false := by simpa using fun h => he h.symm
      have h3 : (x.k == n) = false := by simpa using he
      have h4 : Instr.findNow (.int .i64) (.int .i64 n) ((x :: ps).map Pe.ent) i = Instr.findNow (.int .i64) (.int .i64 n) (ps.map Pe.ent) (i + 1) := by
        rw [List.map_cons, Instr.findNow]
        show (match Instr.sameNow (.int .i64) (.int .i64 n) (.int .i64 x.k) with | some true => _ | some false => _ | none => _) = _
        rw [hs, h2]
      have h5 : lookP (x :: ps) n = lookP ps n := by simp [lookP, h3]
      rcases findNow_ents n ps (i + 1) with ⟨h6, h7⟩ | ⟨j, p, h6, h7, h8, h9⟩
      · exact Or.inl ⟨h5.trans h6, h4.trans h7⟩
      · exact Or.inr ⟨j + 1, p, by simpa using h6, h5.trans h7, h8, by rw [h4, h9]; congr 3; omega⟩
section
variable {P : Program} {w : World} {mb clock : Nat} {ps : List Pe} {t k e : TypeId}
theorem isKey_i64 (n : Int) : IsKey (.int .i64) (.int .i64 n) := by simp [IsKey]
theorem run_lookP (hb : w.heap[mb]? = some (.map (ents ps) clock)) (ht : P.underlying t = some (.map k e)) (hk : P.underlying k = some (.int .i64)) {z : Value} (hz : (zeroValue e).run P w = .ok z w) (n : Int) :
    (Instr.lookup t (.map (some mb)) (.int .i64 n) true).run P w = .ok (.tuple #[((lookP ps n).map (·.v)).getD z, .bool (lookP ps n).isSome]) w := by
  have hc := run_checkKey (P := P) (w := w) hk (isKey_i64 n) (ents ps).isEmpty 9999
  rcases findNow_ents n ps 0 with ⟨h1, h2⟩ | ⟨j, p, h0, h1, h3, h2⟩
  · have hf : (Instr.findKey k (.int .i64 n) (ents ps).toList).run P w = .ok none w := run_findKey hk (by rw [ents]; exact h2)
    simp [Instr.lookup, run_underlying ht, MapKept.run_getObj_map hb, hc, hf, hz, h1, Result.andThen]
  · have hf : (Instr.findKey k (.int .i64 n) (ents ps).toList).run P w = .ok (some (0 + j, p.v)) w := run_findKey hk (by rw [ents]; exact h2)
    simp [Instr.lookup, run_underlying ht, MapKept.run_getObj_map hb, hc, hf, h1, Result.andThen]
/-- a key's value: put in place, or behind the others -/
def putP (ps : List Pe) (n : Int) (v : Value) (l : List UInt8) (clock : Nat) : List Pe :=
  if (lookP ps n).isSome then ps.map (fun p => if p.k = n then { p with v := v, l := l } else p) else ps ++ [⟨n, v, l, clock⟩]
theorem modify_ents {ps : List Pe} {j : Nat} {p : Pe} {n : Int} (hn : (ps.map (·.k)).Nodup) (hj : ps[j]? = some p) (hp : p.k = n) (v : Value) (l : List UInt8) :
    (ents ps).modify j (fun e => { e with key := .int .i64 n, val := v }) = ents (ps.map (fun p => if p.k = n then { p with v := v, l := l } else p)) := by
  apply Array.ext_getElem?
  intro i
  simp only [ents, Array.getElem?_modify, List.getElem?_toArray, List.getElem?_map]
  have hjl := (List.getElem?_eq_some_iff.1 hj).1
  by_cases hi : j = i
  · subst hi
    simp [hj, Pe.ent, hp]
  · simp only [hi, if_false]
    cases hq : ps[i]? with
    | none => rfl
    | some q =>
      have hil := (List.getElem?_eq_some_iff.1 hq).1
      have hne : q.k ≠ n := by
        intro e
        have := (List.getElem_inj (h₀ := by simpa using hjl) (h₁ := by simpa using hil) hn (xs := ps.map (·.k)) (i := j) (j := i)).1 (by
          simp only [List.getElem_map]
          rw [(List.getElem?_eq_some_iff.1 hj).2, (List.getElem?_eq_some_iff.1 hq).2, hp, e])
        exact hi this
      simp [hne, Pe.ent]
theorem run_putP (hb : w.heap[mb]? = some (.map (ents ps) clock)) (hn : (ps.map (·.k)).Nodup) (ht : P.underlying t = some (.map k e)) (hk : P.underlying k = some (.int .i64)) (n : Int) (v : Value) (l : List UInt8) :
    ∃ c', clock ≤ c' ∧ (Instr.mapUpdate t (.map (some mb)) (.int .i64 n) v).run P w = .ok () (setBlock w mb (.map (ents (putP ps n v l clock)) c')) ∧ (PeOk ps clock → PeOk (putP ps n v l clock) c') := by
  have hc := run_checkKey (P := P) (w := w) hk (isKey_i64 n) false 9999
  unfold putP
  rcases findNow_ents n ps 0 with ⟨h1, h2⟩ | ⟨j, p, h0, h1, h3, h2⟩
  · have hf : (Instr.findKey k (.int .i64 n) (ents ps).toList).run P w = .ok none w := run_findKey hk (by rw [ents]; exact h2)
    refine ⟨clock + 1, by omega, ?_, fun ho => ⟨?_, ?_, ?_⟩⟩
    · rw [h1]
      simp only [Option.isSome_none, Bool.false_eq_true, if_false]
      rw [show ents (ps ++ [⟨n, v, l, clock⟩]) = (ents ps).push ⟨.int .i64 n, v, clock⟩ by simp [ents, Pe.ent]]
      simp [Instr.mapUpdate, run_underlying ht, MapKept.run_getObj_map hb, hc, hf, MapKept.run_setObj_map _ hb, Result.andThen, setBlock]
    · rw [h1]
      simp only [Option.isSome_none, Bool.false_eq_true, if_false, List.map_append, List.map_cons, List.map_nil]
      rw [List.nodup_append]
      refine ⟨hn, by simp, ?_⟩
      intro a ha b hb' e
      obtain ⟨q, hq, rfl⟩ := List.mem_map.1 ha
      have : b = n := by simpa using hb'
      exact lookP_none h1 q hq (e.trans this)
    · rw [h1]
      intro q hq
      simp only [Option.isSome_none, Bool.false_eq_true, if_false, List.mem_append, List.mem_singleton] at hq
      rcases hq with hq | rfl
      · have := ho.old q hq; omega
      · exact Nat.lt_succ_self _
    · rw [h1]
      simp only [Option.isSome_none, Bool.false_eq_true, if_false, List.map_append, List.map_cons, List.map_nil]
      rw [List.nodup_append]
      refine ⟨ho.borns, by simp, ?_⟩
      intro a ha b hb' e
      obtain ⟨q, hq, rfl⟩ := List.mem_map.1 ha
      have : b = clock := by simpa using hb'
      have := ho.old q hq
      omega
  · have hf : (Instr.findKey k (.int .i64 n) (ents ps).toList).run P w = .ok (some (0 + j, p.v)) w := run_findKey hk (by rw [ents]; exact h2)
    have hst : (Instr.keyThatStays (.int .i64 n) (.int .i64 n)).run P w = .ok (.int .i64 n) w := run_keyThatStays (isKey_i64 n)
    have hold : (((ents ps)[0 + j]?).map (·.key)).getD (.int .i64 n) = .int .i64 n := by simp [ents, h0, Pe.ent, h3]
    refine ⟨clock, Nat.le_refl _, ?_, fun ho => ⟨?_, ?_, ?_⟩⟩
    · rw [h1]
      simp only [Option.isSome_some, if_true]
      rw [← modify_ents hn h0 h3 v l]
      simp only [Nat.zero_add] at hold hf
      simp [Instr.mapUpdate, run_underlying ht, MapKept.run_getObj_map hb, hc, hf, hold, hst, MapKept.run_setObj_map _ hb, Result.andThen, setBlock]
    · rw [h1]
      simp only [Option.isSome_some, if_true, List.map_map]
      have : ((fun x : Pe => x.k) ∘ fun p : Pe => if p.k = n then { p with v := v, l := l } else p) = fun x => x.k := by funext x; simp only [Function.comp]; split <;> rfl
      rw [this]; exact hn
    · rw [h1]
      intro q hq
      simp only [Option.isSome_some, if_true, List.mem_map] at hq
      obtain ⟨q0, hq0, rfl⟩ := hq
      have := ho.old q0 hq0
      split <;> exact this
    · rw [h1]
      simp only [Option.isSome_some, if_true, List.map_map]
      have : ((fun x : Pe => x.born) ∘ fun p : Pe => if p.k = n then { p with v := v, l := l } else p) = fun x => x.born := by funext x; simp only [Function.comp]; split <;> rfl
      rw [this]; exact ho.borns
theorem run_clearP (hb : w.heap[mb]? = some (.map (ents ps) clock)) (ht : P.underlying t = some (.map k e)) (ty : TypeId) :
    (Builtin.clear_ #[t] ty #[.map (some mb)]).run P w = .ok (.tuple #[]) (setBlock w mb (.map (ents []) clock)) := by
  simp [Builtin.clear_, run_underlying ht, MapKept.run_getObj_map hb, MapKept.run_setObj_map _ hb, Result.andThen, setBlock, ents]
/-- those that the range has not handed out -/
def leftP (ps : List Pe) (seen : Array Nat) : List Pe := ps.filter fun p => !seen.contains p.born
theorem leftOf_ents (seen : Array Nat) : (leftOf (ents ps) seen).toList = (leftP ps seen).map Pe.ent := by
  unfold leftOf leftP ents
  simp only [List.filter_toArray, List.filter_map]
  rfl
theorem run_nextP (it : Nat) (seen : Array Nat) (hr : w.heap[it]? = some (.mapIter (some mb) clock seen clock)) (hb : w.heap[mb]? = some (.map (ents ps) clock)) (ho : PeOk ps clock) (ty : TypeId) :
    (leftP ps seen = [] ∧ (Instr.next (.pointer (some ⟨it, 0, none⟩)) false ty).run P w = .ok (.tuple #[.bool false]) w) ∨
    ∃ p ∈ leftP ps seen, ∃ w1 : World, (w1 = w ∨ w1 = w.drew) ∧ (Instr.next (.pointer (some ⟨it, 0, none⟩)) false ty).run P w = .ok (.tuple #[.bool true, .int .i64 p.k, p.v]) (setBlock w1 it (.mapIter (some mb) clock (seen.push p.born) clock)) := by
  have hold : ∀ x ∈ (ents ps).toList, x.born < clock := by
    intro x hx
    simp only [ents, List.mem_map] at hx
    obtain ⟨p, hp, rfl⟩ := hx
    exact ho.old p hp
  rcases run_next_at (P := P) w ty it mb clock clock seen (ents ps) clock hr hb hold (Nat.le_refl _) with ⟨h1, h2⟩ | ⟨e, he, w1, h1, h2⟩
  · left
    refine ⟨?_, h2⟩
    have := leftOf_ents (ps := ps) seen
    have hl : (leftOf (ents ps) seen).toList = [] := List.eq_nil_of_length_eq_zero (by simpa using h1)
    rw [hl] at this
    exact List.map_eq_nil_iff.1 this.symm
  · right
    rw [leftOf_ents] at he
    obtain ⟨p, hp, rfl⟩ := List.mem_map.1 he
    exact ⟨p, hp, w1, h1, h2⟩
theorem run_entryP (it : Nat) (seen : Array Nat) {p : Pe} (hr : w.heap[it]? = some (.mapIter (some mb) clock (seen.push p.born) clock)) (hb : w.heap[mb]? = some (.map (ents ps) clock)) (ho : PeOk ps clock) (hp : p ∈ ps) :
    (Instr.entry (.pointer (some ⟨it, 0, none⟩))).run P w = .ok (.tuple #[.int .i64 p.k, p.v]) w := by
  have := run_entry_at (P := P) w it mb clock seen (ents ps) clock p.ent hr hb (by simpa [ents] using ⟨p, hp, rfl⟩) (by simpa [ents, Pe.ent, Function.comp_def] using ho.borns)
  exact this
theorem leftP_push {seen : Array Nat} {a b : List Pe} {p : Pe} (hn : (ps.map (·.born)).Nodup) (h : leftP ps seen = a ++ p :: b) : leftP ps (seen.push p.born) = a ++ b := by
  have h1 : leftP ps (seen.push p.born) = (leftP ps seen).filter (fun q => q.born != p.born) := by
    unfold leftP
    rw [List.filter_filter]
    congr 1
    funext q
    simp [Array.contains_push, Bool.and_comm]
    by_cases hq : q.born = p.born <;> simp [hq]
  have hs : ((leftP ps seen).map (·.born)).Nodup := (List.filter_sublist.map _).nodup hn
  rw [h] at hs
  rw [h1, h, List.filter_append, List.filter_cons]
  rw [List.map_append, List.map_cons, List.nodup_append, List.nodup_cons] at hs
  obtain ⟨_, ⟨h3, _⟩, h4⟩ := hs
  simp only [bne_self_eq_false, Bool.false_eq_true, if_false]
  congr 1
  · refine List.filter_eq_self.2 fun q hq => ?_
    simp only [bne_iff_ne, ne_eq]
    exact h4 _ (List.mem_map.2 ⟨q, hq, rfl⟩) _ (by simp)
  · refine List.filter_eq_self.2 fun q hq => ?_
    simp only [bne_iff_ne, ne_eq]
    exact fun e => h3 (e ▸ List.mem_map.2 ⟨q, hq, rfl⟩)
end
/-! ### blocks that are no rows -/
theorem setBlock_at {w : World} {b : Nat} {o : Obj} (o' : Obj) (hb : w.heap[b]? = some o) : (setBlock w b o').heap[b]? = some o' := (heap_set hb).1
theorem setBlock_tch {S : Nat → Prop} {a w : World} {b : Nat} (h : Tch S a w) (hb : b < a.heap.size → S b) (o' : Obj) : Tch S a (setBlock w b o') :=
  ⟨h.os, h.tape, h.output, by simpa [setBlock] using h.size, fun i hi hn => by
    have hne : b ≠ i := fun e => hn (e ▸ hb (e ▸ hi))
    have : (setBlock w b o').heap[i]? = w.heap[i]? := by simp [setBlock, Array.getElem?_setIfInBounds, hne]
    rw [this]; exact h.block i hi hn⟩
/-- a block that holds just this -/
def objA (b : Nat) (o : Obj) : Asr := fun W F => W.heap[b]? = some o ∧ F = fun k => k = b
theorem objA_loc (b : Nat) (o : Obj) : Loc (objA b o) :=
  ⟨fun h hk => ⟨(hk b (by rw [h.2])).trans h.1, h.2⟩, fun h hk => by
    rw [h.2] at hk; subst hk
    exact (Array.getElem?_eq_some_iff.1 h.1).1⟩
theorem Has.setObj {w W W1 : World} {b : Nat} {o : Obj} {ps : List Asr} (h : Has w W (objA b o :: ps)) (hl : Locs ps) (o' : Obj) (h1 : W1 = W ∨ W1 = W.drew) : Has w (setBlock W1 b o') (objA b o' :: ps) := by
  refine h.next hl fun F hF => ?_
  obtain ⟨h2, rfl⟩ := hF
  refine ⟨_, ⟨setBlock_at o' (o := o) (by rcases h1 with rfl | rfl <;> exact h2), rfl⟩, ?_, fun k hk => Or.inl hk⟩
  rcases h1 with rfl | rfl
  · exact setBlock_tch (S := fun k => k = b) (Tch.refl _ _) (fun _ => rfl) o'
  · exact setBlock_tch (S := fun k => k = b) (Tch.refl _ _).drew (fun _ => rfl) o'
theorem Has.obj {w W : World} {b : Nat} {o : Obj} : ∀ {ps : List Asr} {X : Nat → Prop}, Side w W ps X → objA b o ∈ ps → W.heap[b]? = some o
  | [], _, _, h => by cases h
  | _ :: _, _, ⟨F, h1, _, h3⟩, h => by
    rcases List.mem_cons.1 h with rfl | h
    · exact h1.1
    · exact Has.obj h3 h
end Go.Proofs.YtnbdcdeidhhgoaaDoor
