/- What a queue is in memory: a head, a chain of links, and a map from tasks to links. -/
import Derived.Test.YtadmfoglajhdcaaRows
import Derived.Test.YtadmfoglajhdcaaQHeap
import Derived.DeepKeys4
import Derived.Maps.OwnOps
namespace Go.Proofs.Ytadmfoglajhdcaa
set_option maxRecDepth 4000
set_option linter.unusedVariables false
set_option linter.unusedSimpArgs false
open Go Go.RowKit Go.Maps Go.ChangeMaps Go.MapKept

theorem qLaid : laidOutB Try.prog = true := by kernel_rfl
theorem qWide : (match Try.prog.underlying 43 with | some (.array _ _) | some (.struct _) => true | _ => false) = true := by rw [Try.underlying43]
theorem taskKey : Keyed Try.prog 43 := Keyed.of_law (deep_law_laid qLaid (m := 2) (by omega) (of_decide_eq_true (by kernel_rfl)) (by kernel_rfl) qWide)
abbrev taskV (r k i : Int) : Value := .agg #[.int .i64 r, .int .i64 k, .int .i64 i]
structure TaskOk (r k i : Int) : Prop where
  r1 : -9223372036854775808 ≤ r
  r2 : r ≤ 9223372036854775807
  k1 : -9223372036854775808 ≤ k
  k2 : k ≤ 9223372036854775807
  i1 : -9223372036854775808 ≤ i
  i2 : i ≤ 9223372036854775807
theorem wf_i64' {n : Int} (h1 : -9223372036854775808 ≤ n) (h2 : n ≤ 9223372036854775807) : (Lit.int .i64 n).wf = true := by
  simp [Lit.wf, IntKind.min, IntKind.max, IntKind.signed, IntKind.bits]; omega
theorem keyLits_i64 {P : Program} (d : Nat) {t : TypeId} (ht : P.underlying t = some (.int .i64)) {n : Int} (h : (Lit.int .i64 n).wf = true) : P.keyLits (d + 1) t [.int .i64 n] = some [.int .i64 n] := by
  unfold Program.keyLits
  rw [ht]
  simp [h]
theorem keyLits_task (d : Nat) {r k i : Int} (h : TaskOk r k i) : Try.prog.keyLits (d + 2) 43 [.int .i64 r, .int .i64 k, .int .i64 i] = some [.int .i64 r, .int .i64 k, .int .i64 i] := by
  have a := keyLits_i64 d Try.underlying3 (wf_i64' h.r1 h.r2)
  have b := keyLits_i64 d Try.underlying3 (wf_i64' h.k1 h.k2)
  have c := keyLits_i64 d Try.underlying2 (wf_i64' h.i1 h.i2)
  have hc : Try.prog.cellsOf 43 = 3 := by kernel_rfl
  have h2 : Try.prog.cellsOf 3 = 1 := by kernel_rfl
  have h3 : Try.prog.cellsOf 2 = 1 := by kernel_rfl
  unfold Program.keyLits
  rw [Try.underlying43]
  simp only [List.length_cons, List.length_nil, hc]
  rw [if_pos ⟨trivial, by decide +kernel⟩]
  simp [List.mapM_cons, h2, h3, a, b, c]
theorem taskKey_mk {r k i : Int} (h : TaskOk r k i) : ∃ kl, keyOf Try.prog 43 (taskV r k i) = some kl := by
  have h0 : Try.prog.keyType 43 = true := by kernel_rfl
  have h1 : (taskV r k i).formed Try.prog 43 = true := by
    have hc : Try.prog.cellsOf 43 = 3 := by kernel_rfl
    simp [Value.formed, Try.underlying43, hc]
  obtain ⟨n, hn⟩ : ∃ n, Try.prog.types.size + 1 = n + 2 := ⟨Try.prog.types.size - 1, by have : 0 < Try.prog.types.size := of_decide_eq_true (by kernel_rfl); omega⟩
  have h4 := keyLits_task n h
  refine ⟨.string (keyBytes [.int .i64 r, .int .i64 k, .int .i64 i]), ?_⟩
  unfold keyOf
  rw [Try.underlying43, hn]
  simp only [h0, h1, Bool.and_true, if_true]
  show (Try.prog.keyLits (n + 2) 43 [.int .i64 r, .int .i64 k, .int .i64 i]).map _ = _
  rw [h4]
  rfl
/-- a link's address as an element of the map -/
def linkElem (v : Value) : Option (DataW Unit × List MemPlace) :=
  match v with
  | .pointer (some ⟨b, 0, none⟩) => some (.lit (.int .i64 b), [])
  | .pointer none => some (.lit (.int .i64 (-1)), [])
  | _ => none
theorem linkElem_ptr (b : Nat) : linkElem (ptr (some b)) = some (.lit (.int .i64 b), []) := rfl
theorem linkElem_nil : linkElem (.pointer none) = some (.lit (.int .i64 (-1)), []) := rfl
theorem linkElem_inv {v : Value} {b : Nat} {ps : List MemPlace} (h : linkElem v = some (.lit (.int .i64 b), ps)) : v = ptr (some b) := by
  unfold linkElem at h
  split at h
  · simp at h; obtain ⟨h, _⟩ := h; have e : _ = b := Int.ofNat.inj h; subst e; rfl
  · simp at h
  · cases h

/-! ### the map of a queue -/
def isT (e : Ent) (r k i : Int) : Bool := e.run == r && e.kind == k && e.id == i
theorem isT_iff {e : Ent} {r k i : Int} : isT e r k i = true ↔ e.run = r ∧ e.kind = k ∧ e.id = i := by
  simp [isT, and_assoc]
structure Ent.Ok (e : Ent) : Prop where
  key : TaskOk e.run e.kind e.id
  s1 : -9223372036854775808 ≤ e.since
  s2 : e.since ≤ 9223372036854775807
/-- the map D has just these links -/
structure MapIs (D : DataW Unit) (xs : List Ent) : Prop where
  has : ∀ r k i kl, keyOf Try.prog 43 (taskV r k i) = some kl → Maps.has D kl = xs.any (isT · r k i)
  at_ : ∀ e ∈ xs, ∀ kl z, keyOf Try.prog 43 (taskV e.run e.kind e.id) = some kl → D.atKey kl z = .lit (.int .i64 e.blk)
  size : Maps.size D = xs.length
  tidy : Tidy D
/-- no task twice -/
def Apart (xs : List Ent) : Prop := xs.Pairwise fun a b => isT a b.run b.kind b.id = false
theorem isT_symm {a b : Ent} (h : isT a b.run b.kind b.id = false) : isT b a.run a.kind a.id = false := by
  rw [Bool.eq_false_iff] at *
  intro h'
  rw [isT_iff] at h'
  exact h (isT_iff.2 ⟨h'.1.symm, h'.2.1.symm, h'.2.2.symm⟩)
theorem key_lit {v : Value} {kl : Lit} (h : keyOf Try.prog 43 v = some kl) : WideAt.IsKeyLit kl := taskKey.key h
theorem key_ne {r k i r' k' i' : Int} {kl kl' : Lit} (h : keyOf Try.prog 43 (taskV r k i) = some kl) (h' : keyOf Try.prog 43 (taskV r' k' i') = some kl') (hne : ¬ (r = r' ∧ k = k' ∧ i = i')) : kl ≠ kl' := by
  rintro rfl
  have := taskKey.inj h h'
  simp at this
  exact hne this
theorem MapIs.empty : MapIs (.map []) [] := ⟨fun _ _ _ _ _ => rfl, fun _ h => absurd h (by simp), rfl, tidy_empty⟩
theorem MapIs.put {D : DataW Unit} {xs : List Ent} (h : MapIs D xs) (e : Ent) {kl : Lit} (hk : keyOf Try.prog 43 (taskV e.run e.kind e.id) = some kl) (hn : xs.any (isT · e.run e.kind e.id) = false) :
    MapIs (D.put kl (.lit (.int .i64 e.blk))) (xs ++ [e]) := by
  have hh : Maps.has D kl = false := (h.has _ _ _ _ hk).trans hn
  refine ⟨fun r k i kl' hk' => ?_, fun x hx kl' z hk' => ?_, ?_, h.tidy.put (key_lit hk) _⟩
  · by_cases he : e.run = r ∧ e.kind = k ∧ e.id = i
    · obtain ⟨rfl, rfl, rfl⟩ := he
      have : kl' = kl := Option.some.inj (hk'.symm.trans hk)
      subst this
      rw [has_put_same h.tidy.isMap (key_lit hk)]
      simp [isT]
    · rw [has_put_other (key_ne hk' hk (fun h' => he ⟨h'.1.symm, h'.2.1.symm, h'.2.2.symm⟩)), h.has _ _ _ _ hk']
      have : isT e r k i = false := by rw [Bool.eq_false_iff]; intro h'; exact he (isT_iff.1 h')
      simp [this]
  · rcases List.mem_append.1 hx with hx | hx
    · have hne : ¬ (x.run = e.run ∧ x.kind = e.kind ∧ x.id = e.id) := fun h' => by
        have := List.any_eq_false.1 hn x hx
        exact this (isT_iff.2 h')
      rw [atKey_put_other (key_ne hk' hk hne)]
      exact h.at_ x hx kl' z hk'
    · have : x = e := by simpa using hx
      subst this
      have : kl' = kl := Option.some.inj (hk'.symm.trans hk)
      subst this
      exact atKey_put_same h.tidy.isMap (key_lit hk) _ _
  · rw [size_put h.tidy, hh, h.size]; simp
theorem MapIs.del {D : DataW Unit} {l r : List Ent} {e : Ent} (h : MapIs D (l ++ e :: r)) (ha : Apart (l ++ e :: r)) {kl : Lit} (hk : keyOf Try.prog 43 (taskV e.run e.kind e.id) = some kl) :
    MapIs (D.del kl) (l ++ r) := by
  have hap := List.pairwise_append.1 ha
  have hl : ∀ x ∈ l, isT x e.run e.kind e.id = false := fun x hx => hap.2.2 x hx e (by simp)
  have hr : ∀ x ∈ r, isT x e.run e.kind e.id = false := fun x hx => isT_symm ((List.pairwise_cons.1 hap.2.1).1 x hx)
  have hlr : ∀ x ∈ l ++ r, isT x e.run e.kind e.id = false := fun x hx => (List.mem_append.1 hx).elim (hl x) (hr x)
  have hh : Maps.has D kl = true := (h.has _ _ _ _ hk).trans (by simp [isT])
  refine ⟨fun r' k i kl' hk' => ?_, fun x hx kl' z hk' => ?_, ?_, h.tidy.del _⟩
  · by_cases he : e.run = r' ∧ e.kind = k ∧ e.id = i
    · obtain ⟨rfl, rfl, rfl⟩ := he
      have : kl' = kl := Option.some.inj (hk'.symm.trans hk)
      subst this
      rw [has_del_same]
      exact (List.any_eq_false.2 fun x hx => by simp [hlr x hx]).symm
    · rw [has_del_other (key_ne hk' hk (fun h' => he ⟨h'.1.symm, h'.2.1.symm, h'.2.2.symm⟩)), h.has _ _ _ _ hk']
      have : isT e r' k i = false := by rw [Bool.eq_false_iff]; intro h'; exact he (isT_iff.1 h')
      simp [this]
  · have hne : ¬ (x.run = e.run ∧ x.kind = e.kind ∧ x.id = e.id) := fun h' => by
      have := hlr x hx
      rw [isT_iff.2 h'] at this
      cases this
    rw [atKey_del_other (key_ne hk' hk hne)]
    exact h.at_ x (by simp only [List.mem_append, List.mem_cons] at hx ⊢; rcases hx with hx | hx <;> simp [hx]) kl' z hk'
  · have := size_del (k := kl) h.tidy
    rw [hh, h.size] at this
    simp at this ⊢
    omega

/-! ### a queue in memory: its three cells from ⟨q, o⟩ on -/
structure QRep (w : World) (q o : Nat) (bm : Option Nat) (xs : List Ent) : Prop where
  cells : ∃ cs T, w.heap[q]? = some (.cells cs T (0, 0)) ∧ T ≠ 87 ∧ cs[o]? = some (ptr (hd xs none)) ∧ cs[o + 1]? = some (ptr (tl none xs)) ∧ cs[o + 2]? = some (.map bm)
  seg : Seg w 87 none xs none
  nodup : (blks xs).Nodup
  apart : Apart xs
  ok : ∀ e ∈ xs, e.Ok
  mp : match bm with
    | none => xs = []
    | some b => ∃ D n, MapIs D xs ∧ w.ownsMap Try.prog 43 linkElem b n D ∧ n = xs.length

/-- the blocks of a queue -/
def Foot (q : Nat) (bm : Option Nat) (xs : List Ent) (k : Nat) : Prop := k = q ∨ bm = some k ∨ k ∈ blks xs
theorem ownsMap_shrink {w : World} {b n : Nat} {D : DataW Unit} (h : w.ownsMap Try.prog 43 linkElem b n D) : w.ownsMap Try.prog 43 linkElem b (Maps.size D) D := by
  obtain ⟨es, clock, hb, F, hs, rfl⟩ := h
  exact ⟨es, clock, hb, F, by simp [Maps.size, length_sorted], rfl⟩
theorem QRep.keep {w w' : World} {q o : Nat} {bm : Option Nat} {xs : List Ent} (h : QRep w q o bm xs) (hk : ∀ k, Foot q bm xs k → w'.heap[k]? = w.heap[k]?) : QRep w' q o bm xs := by
  obtain ⟨⟨cs, T, h0, h1, h2, h3, h4⟩, hs, hn, ha, ho, hm⟩ := h
  refine ⟨⟨cs, T, (hk q (Or.inl rfl)).trans h0, h1, h2, h3, h4⟩, hs.keep fun b hb => hk b (Or.inr (Or.inr hb)), hn, ha, ho, ?_⟩
  cases bm with
  | none => exact hm
  | some b =>
    obtain ⟨D, n, hD, ⟨es, clock, hb, r⟩, hnn⟩ := hm
    exact ⟨D, n, hD, ⟨es, clock, (hk b (Or.inr (Or.inl rfl))).trans hb, r⟩, hnn⟩
theorem QRep.foot_lt {w : World} {q o : Nat} {bm : Option Nat} {xs : List Ent} (h : QRep w q o bm xs) {k : Nat} (hk : Foot q bm xs k) : k < w.heap.size := by
  rcases hk with rfl | rfl | hk
  · obtain ⟨cs, T, h0, _⟩ := h.cells
    exact (Array.getElem?_eq_some_iff.1 h0).1
  · obtain ⟨D, n, _, hm, _⟩ := h.mp
    exact hm.lt
  · obtain ⟨cs, hb⟩ := h.seg.lt k hk
    exact hb.lt
theorem QRep.tch {w w' : World} {q o : Nat} {bm : Option Nat} {xs : List Ent} {S : Nat → Prop} (h : QRep w q o bm xs) (ht : Tch S w w') (hd : ∀ k, Foot q bm xs k → ¬ S k) : QRep w' q o bm xs :=
  h.keep fun k hk => ht.block k (h.foot_lt hk) (hd k hk)
theorem QRep.c0 {w : World} {q o : Nat} {bm : Option Nat} {xs : List Ent} (h : QRep w q o bm xs) : w.cell? ⟨q, o, none⟩ = some (ptr (hd xs none)) := by
  obtain ⟨cs, T, h0, _, h2, _⟩ := h.cells
  rw [cell_of_row w q o cs T (0, 0) h0, h2]
theorem QRep.c1 {w : World} {q o : Nat} {bm : Option Nat} {xs : List Ent} (h : QRep w q o bm xs) : w.cell? ⟨q, o + 1, none⟩ = some (ptr (tl none xs)) := by
  obtain ⟨cs, T, h0, _, _, h2, _⟩ := h.cells
  rw [cell_of_row w q (o + 1) cs T (0, 0) h0, h2]
theorem QRep.c2 {w : World} {q o : Nat} {bm : Option Nat} {xs : List Ent} (h : QRep w q o bm xs) : w.cell? ⟨q, o + 2, none⟩ = some (.map bm) := by
  obtain ⟨cs, T, h0, _, _, _, h2⟩ := h.cells
  rw [cell_of_row w q (o + 2) cs T (0, 0) h0, h2]
theorem QRep.fz {w : World} {q o : Nat} {bm : Option Nat} {xs : List Ent} (h : QRep w q o bm xs) (i : Nat) : w.frozen? ⟨q, i, none⟩ = false := by
  obtain ⟨cs, T, h0, _⟩ := h.cells
  simp [World.frozen?, h0]
end Go.Proofs.Ytadmfoglajhdcaa
