/- A map from tasks to truth that a law makes itself. -/
import Derived.Test.YtfbolgdecdfnaaaMOne
import Derived.Maps.OwnSet
namespace Go.Proofs.Ytfbolgdecdfnaaa
set_option maxRecDepth 4000
set_option linter.unusedVariables false
set_option linter.unusedSimpArgs false
open Go Go.RowKit Go.Maps Go.ChangeMaps Go.MapKept
abbrev Key3 := Int × Int × Int
def isT3 (t : Key3) (r k i : Int) : Bool := t.1 == r && t.2.1 == k && t.2.2 == i
theorem isT3_iff {t : Key3} {r k i : Int} : isT3 t r k i = true ↔ t.1 = r ∧ t.2.1 = k ∧ t.2.2 = i := by simp [isT3, and_assoc]
def boolElem (v : Value) : Option (DataW Unit × List MemPlace) :=
  match v with
  | .bool x => some (.lit (.bool x), [])
  | _ => none
theorem boolElem_inv {v : Value} {b : Bool} {ps : List MemPlace} (h : boolElem v = some (.lit (.bool b), ps)) : v = .bool b := by
  unfold boolElem at h
  split at h
  · simp at h; rw [h.1]
  · cases h
structure SeenIs (D : DataW Unit) (ks : List Key3) : Prop where
  at_ : ∀ r k i kl z, keyOf Try.prog 42 (taskV r k i) = some kl → D.atKey kl z = if ks.any (isT3 · r k i) = true then .lit (.bool true) else z
  tidy : Tidy D
theorem SeenIs.empty : SeenIs (.map []) [] := ⟨fun _ _ _ _ _ _ => rfl, tidy_empty⟩
theorem SeenIs.put {D : DataW Unit} {ks : List Key3} (h : SeenIs D ks) (r k i : Int) {kl : Lit} (hk : keyOf Try.prog 42 (taskV r k i) = some kl) : SeenIs (D.put kl (.lit (.bool true))) (ks ++ [(r, k, i)]) := by
  refine ⟨fun r' k' i' kl' z hk' => ?_, h.tidy.put (key_lit hk) _⟩
  rw [List.any_append]
  by_cases he : r = r' ∧ k = k' ∧ i = i'
  · obtain ⟨rfl, rfl, rfl⟩ := he
    have : kl' = kl := Option.some.inj (hk'.symm.trans hk)
    subst this
    rw [atKey_put_same h.tidy.isMap (key_lit hk), if_pos (by simp [isT3])]
  · rw [atKey_put_other (key_ne hk' hk (fun h' => he ⟨h'.1.symm, h'.2.1.symm, h'.2.2.symm⟩)), h.at_ r' k' i' kl' z hk']
    have : [(r, k, i)].any (isT3 · r' k' i') = false := by
      rw [List.any_cons, List.any_nil, Bool.or_false, Bool.eq_false_iff]
      intro h1
      exact he (isT3_iff.1 h1)
    rw [this, Bool.or_false]
def seenA (g : Nat) (ks : List Key3) : Asr := fun W F => (∃ D, SeenIs D ks ∧ W.ownsMap Try.prog 42 boolElem g ks.length D) ∧ F = fun k => k = g
theorem seenA_loc (g : Nat) (ks : List Key3) : Loc (seenA g ks) :=
  ⟨fun h hk => by
    obtain ⟨⟨D, h1, es, clock, hb, r⟩, rfl⟩ := h
    exact ⟨⟨D, h1, es, clock, (hk g rfl).trans hb, r⟩, rfl⟩, fun h hk => by
    obtain ⟨⟨D, _, h2⟩, rfl⟩ := h
    subst hk
    exact h2.lt⟩
theorem seen_new (W : World) : seenA W.heap.size [] (W.alloc (.map #[] 0)) (fun k => k = W.heap.size) := ⟨⟨_, SeenIs.empty, World.ownsMap_made _ _ _ _⟩, rfl⟩
section
variable {w W : World} {g : Nat} {ks : List Key3} {ps : List Asr}
theorem hs_new (h : Has w W ps) (hl : Locs ps) : Has w (W.alloc (.map #[] 0)) (seenA W.heap.size [] :: ps) :=
  h.add hl (ext_alloc W _) (seen_new W) (fun k hk => by omega)
theorem hs_no (h : Has w W (seenA g ks :: ps)) (r k i : Int) (hok : TaskOk r k i) (hno : ks.any (isT3 · r k i) = false) :
    (Instr.lookup 61 (.map (some g)) (taskV r k i) false).run Try.prog W = .ok (.bool false) W := by
  obtain ⟨F, ⟨D, hD, hown⟩, _⟩ := h.head
  obtain ⟨kl, hkl⟩ := taskKey_mk hok
  have hz : (zeroValue 4).run Try.prog W = .ok (.bool false) W := by kernel_rfl
  obtain ⟨v, ps', hrun, hv⟩ := hown.lookup taskKey Try.underlying61 hz (zd := .lit (.bool false)) (zp := []) rfl hkl
  rw [hD.at_ r k i kl _ hkl, if_neg (by rw [hno]; decide)] at hv
  obtain rfl := boolElem_inv hv
  exact hrun
theorem hs_put (h : Has w W (seenA g ks :: ps)) (hl : Locs ps) (r k i : Int) (hok : TaskOk r k i) {ops : Array Oper} {rest : List Oper} {o : Oper} {a : Act} {Q : Exit → Act → World → Prop}
    (hg : o.guard = none) (m x v : Operand) (hop : o.op = Op.mapUpdate 61 m x v) (hm : a.eval m = .map (some g)) (hx : a.eval x = taskV r k i) (hv : a.eval v = .bool true) (hn : ks.length < 100000)
    (hK : ∀ w', Has w w' (seenA g (ks ++ [(r, k, i)]) :: ps) → wpList Try.prog ops Q rest (a.put o.dst undef) w') : wpList Try.prog ops Q (o :: rest) a W := by
  obtain ⟨F, ⟨D, hD, hown⟩, _⟩ := h.head
  obtain ⟨kl, hkl⟩ := taskKey_mk hok
  refine wpList_mapUpdate_own W hg m x v _ hop _ _ taskKey Try.underlying61 boolElem g ks.length D hm hown (by unfold maxLen; omega) _ _ kl hx hv hkl (.lit (.bool true)) [] rfl ?_
  intro w' hown' hgr
  refine hK w' (h.next hl fun F' hF' => ?_)
  obtain ⟨_, rfl⟩ := hF'
  refine Next.mk (F' := fun k => k = g) ⟨⟨_, hD.put r k i hkl, by rw [List.length_append]; exact hown'⟩, rfl⟩ ((Tch.refl _ _).grown hgr (fun b hb _ => by injection hb with hb; exact hb.symm)) (fun k hk => Or.inl hk)
end
end Go.Proofs.Ytfbolgdecdfnaaa
