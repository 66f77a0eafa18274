/- DERIVED LEMMAS, OF NO PROGRAM: a region that draws its order and ends in a store that waits for all others: behind that one the worlds need not be of the class. -/
import Derived.Test.YtnbdcdeidhhgoaaDoorSteps
namespace Go.Proofs.YtnbdcdeidhhgoaaDoor
set_option maxRecDepth 4000
set_option linter.unusedVariables false
set_option linter.unusedSimpArgs false
open Go
section
variable {P : Program} {ops : Array Oper} {md : Region.Mode} {Q : Exit → Act → World → Prop} {z : Nat}
def anyZ (P : Program) (md : Region.Mode) (ops : Array Oper) (z : Nat) (C : World → Prop) (Q : Exit → Act → World → Prop) : Nat → Array Bool → Act → World → Prop
  | 0, listed, a, w => Region.ready md ops listed = [] ∧ Q .normal a w
  | fuel + 1, listed, a, w => (Region.ready md ops listed = [] → Q .normal a w) ∧
    ∀ i ∈ Region.ready md ops listed, wpOp P ops Q i (fun a' w' => (i ≠ z → C w') ∧ anyZ P md ops z C Q fuel (listed.setIfInBounds i true) a' w') a w
theorem any_of_anyZ {C : World → Prop} : ∀ (fuel : Nat) (listed : Array Bool) (a : Act) (w : World), anyZ P md ops z C Q fuel listed a w → wpAny P md ops Q fuel listed a w
  | 0, _, _, _, h => h
  | fuel + 1, _, _, _, h => ⟨h.1, fun i hi => wpOp_mono (fun a' w' h' => any_of_anyZ fuel _ a' w' h'.2) (h.2 i hi)⟩
theorem anyZ_mono {C C' : World → Prop} (h : ∀ w, C' w → C w) : ∀ (n : Nat) (listed : Array Bool) (a : Act) (w : World), anyZ P md ops z C' Q n listed a w → anyZ P md ops z C Q n listed a w
  | 0, _, _, _, hh => hh
  | n + 1, _, _, _, hh => ⟨hh.1, fun i hi => wpOp_mono (fun _ _ h' => ⟨fun hz => h _ (h'.1 hz), anyZ_mono h n _ _ _ h'.2⟩) (hh.2 i hi)⟩
/-- the last one waits for this one -/
def sink1 (md : Region.Mode) (ops : Array Oper) (z i : Nat) : Bool :=
  match ops[z]? with
  | some o => o.after.any (fun e => Region.binds md e && e.on == i)
  | none => false
theorem sink1_spec {i : Nat} (h : sink1 md ops z i = true) {listed : Array Bool} (hz : z ∈ Region.ready md ops listed) : listed.getD i false = true := by
  obtain ⟨hu, o, ho, hall⟩ := mem_ready.1 hz
  unfold sink1 at h
  rw [ho] at h
  obtain ⟨e, he, hb⟩ := Array.any_eq_true'.1 h
  rw [Bool.and_eq_true, beq_iff_eq] at hb
  have h2 := hall e he hb.1
  rw [hb.2] at h2
  exact h2
def sinkSeg (md : Region.Mode) (ops : Array Oper) (z : Nat) : List Nat → List Bool → Bool
  | k :: ks, t :: ts => (!t || sink1 md ops z k) && sinkSeg md ops z ks ts
  | _, _ => true
theorem anyZ_first {C : World → Prop} {i : Nat} {oi : Oper} {v : Value} (hS : sink1 md ops z i = true) (hiz : i ≠ z) (hi : ops[i]? = some oi) (hsel : ∀ (j : Nat) (o : Oper) cs b, ops[j]? = some o → o.op ≠ .select cs b)
    (hQ : ∀ c a w, ¬ Q (.panic c) a w) :
    ∀ (fuel : Nat) (listed : Array Bool) (a : Act) (w : World), C w →
      (∀ j oj, ops[j]? = some oj → j ≠ i → listed.getD j true = false → (∀ e ∈ oj.after, Region.binds md e = true → e.on ≠ i) → oi.apart ops oj = true) →
      i ∈ Region.ready md ops listed → YieldsC P ops C oi v a →
      anyZ P md ops z C Q fuel (listed.setIfInBounds i true) (a.put oi.dst v) w → anyZ P md ops z C Q (fuel + 1) listed a w := by
  have his : i < ops.size := (Array.getElem?_eq_some_iff.1 hi).1
  intro fuel
  induction fuel with
  | zero =>
    intro listed a w hC _ hr hy H
    refine ⟨fun h => (by rw [h] at hr; cases hr), fun j hj => ?_⟩
    by_cases hji : j = i
    · subst hji; exact hy.op hi hC ⟨fun _ => hC, H⟩
    · have := ready_mono hj hji
      rw [H.1] at this
      cases this
  | succ fuel ih =>
    intro listed a w hC hfree hr hy H
    refine ⟨fun h => (by rw [h] at hr; cases hr), fun j hj => ?_⟩
    by_cases hji : j = i
    · subst hji; exact hy.op hi hC ⟨fun _ => hC, H⟩
    · have hjz : j ≠ z := fun e => by
        subst e
        have h1 := sink1_spec hS hj
        have h2 := (mem_ready.1 hr).1
        rcases Nat.lt_or_ge i listed.size with h' | h'
        · simp [h'] at h1 h2; rw [h1] at h2; cases h2
        · simp [Array.getElem?_eq_none h'] at h1
      have h1 := H.2 j (ready_mono hj hji)
      obtain ⟨hjun, oj, hoj, hall⟩ := mem_ready.1 hj
      have hnot : ∀ e ∈ oj.after, Region.binds md e = true → e.on ≠ i := fun e he hb heq => by
        have h1 := hall e he hb
        have h0 := (mem_ready.1 hr).1
        rw [heq] at h1
        rcases Nat.lt_or_ge i listed.size with h' | h'
        · simp [h'] at h0 h1; rw [h0] at h1; cases h1
        · simp [Array.getElem?_eq_none h'] at h1
      have h2 := wpOp_putC hoj (hfree j oj hoj hji hjun hnot) (fun cs b => hsel i oi cs b hi) (fun cs b => hsel j oj cs b hoj) hQ hy h1
      have hfree' : ∀ k ok, ops[k]? = some ok → k ≠ i → (listed.setIfInBounds j true).getD k true = false →
          (∀ e ∈ ok.after, Region.binds md e = true → e.on ≠ i) → oi.apart ops ok = true := fun k ok hk hki hun hno => by
        refine hfree k ok hk hki ?_ hno
        by_cases hjk : j = k
        · subst hjk; exact hjun
        · rw [getD_set_ne true hjk] at hun; exact hun
      refine wpOp_mono (fun a' w' h3 => ⟨fun _ => h3.2.1 hjz, ih (listed.setIfInBounds j true) a' w' (h3.2.1 hjz) hfree' (ready_mono hr (Ne.symm hji)) h3.1 ?_⟩) h2
      rw [Array.setIfInBounds_comm _ _ hji]
      exact h3.2.2
theorem wpOp_of_walkZ {L : (World → Prop) → Act → World → Prop} {k : Nat} {o : Oper} {ts : List Bool} {l : List Oper} {F : World → Prop} {a : Act} {w : World} {n : Nat} {listed : Array Bool} (h0 : ops[k]? = some o) (hC : F w)
    (hK : ∀ F' a' w', F' w' → walkL P ops L Q ts l F' a' w' → anyZ P md ops z (cls F') Q n listed a' w') (h : walkL P ops L Q (false :: ts) (o :: l) F a w) :
    wpOp P ops Q k (fun a' w' => (k ≠ z → cls F w') ∧ anyZ P md ops z (cls F) Q n listed a' w') a w := by
  unfold wpOp
  simp only [h0]
  unfold walkL at h
  split
  · rename_i hw
    rw [if_pos hw] at h
    exact .inl (Oper.wp_mono (fun a' w' ⟨F', h1, h2, h3⟩ => ⟨fun _ => cls_mk (h2 _ h1), anyZ_mono (fun _ hc => cls_mk (h2 _ (cls_get hc))) _ _ _ _ (hK F' a' w' h1 h3)⟩) h)
  · rename_i hw
    rw [if_neg hw] at h
    exact ⟨fun _ => cls_mk hC, hK F _ _ hC h⟩
theorem anyZ_seg (hsel : Region.noSelect ops = true) (hQ : ∀ c a w, ¬ Q (.panic c) a w) {L : (World → Prop) → Act → World → Prop} {m : Nat} : ∀ (ks : List Nat) (ts : List Bool) (F : World → Prop) (listed : Array Bool) (a : Act) (w : World), F w →
    ks.all (· != z) = true → sinkSeg md ops z ks ts = true → segB md ops ks ts listed = true → walkL P ops L Q ts (ks.filterMap (ops[·]?)) F a w → (∀ F a w, F w → L F a w → anyZ P md ops z (cls F) Q m (setAll ks listed) a w) → anyZ P md ops z (cls F) Q (ks.length + m) listed a w
  | [], [], F, _, a, w, hC, _, _, _, h, hL => by
    simp only [List.length_nil, Nat.zero_add]
    exact hL F a w hC h
  | [], _ :: _, _, _, _, _, _, _, _, hB, _, _ => by simp [segB] at hB
  | _ :: _, [], _, _, _, _, _, _, _, hB, _, _ => by simp [segB] at hB
  | k :: ks, true :: ts, F, listed, a, w, hC, hz, hs, hB, h, hL => by
    simp only [sinkSeg, Bool.not_true, Bool.false_or, Bool.and_eq_true] at hs
    simp only [segB, Bool.and_eq_true, decide_eq_true_eq] at hB
    obtain ⟨⟨⟨hk, hr⟩, hf⟩, hB'⟩ := hB
    rw [List.all_cons, Bool.and_eq_true] at hz
    have h0 : ops[k]? = some ops[k] := Array.getElem?_eq_getElem hk
    rw [List.filterMap_cons_some h0] at h
    obtain ⟨v, hy, hK⟩ := h
    rw [show (k :: ks).length + m = (ks.length + m) + 1 by simp only [List.length_cons]; omega]
    exact anyZ_first hs.1 (by simpa using hz.1) h0 (Region.noSelect_spec hsel) hQ (ks.length + m) listed a w (cls_mk hC) (Region.free_spec h0 hf) (by simpa using hr) hy (anyZ_seg hsel hQ ks ts F _ _ _ hC hz.2 hs.2 hB' hK hL)
  | k :: ks, false :: ts, F, listed, a, w, hC, hz, hs, hB, h, hL => by
    simp only [sinkSeg, Bool.not_false, Bool.true_or, Bool.true_and] at hs
    simp only [segB, Bool.and_eq_true, decide_eq_true_eq] at hB
    obtain ⟨⟨hk, hr⟩, hB'⟩ := hB
    rw [List.all_cons, Bool.and_eq_true] at hz
    have h0 : ops[k]? = some ops[k] := Array.getElem?_eq_getElem hk
    rw [List.filterMap_cons_some h0] at h
    rw [show (k :: ks).length + m = (ks.length + m) + 1 by simp only [List.length_cons]; omega]
    refine ⟨fun h1 => (by rw [hr] at h1; cases h1), fun i hi => ?_⟩
    rw [hr] at hi
    have hik : i = k := by simpa using hi
    subst hik
    exact wpOp_of_walkZ h0 hC (fun F' a' w' h1 h3 => anyZ_seg hsel hQ ks ts F' _ a' w' h1 hz.2 hs hB' h3 hL) h
/-- the plan's leaf: the last one alone is ready -/
def planZ (md : Region.Mode) (ops : Array Oper) (z : Nat) : Plan → Array Bool → Bool
  | .done, listed => decide (Region.ready md ops listed = [z]) && (Region.ready md ops (listed.setIfInBounds z true)).isEmpty
  | .seg ks ts p, listed => ks.all (· != z) && sinkSeg md ops z ks ts && segB md ops ks ts listed && planZ md ops z p (setAll ks listed)
  | .fork k1 p1 k2 p2, listed => decide (k1 < ops.size) && decide (k2 < ops.size) && decide (Region.ready md ops listed = [k1, k2]) && decide (p2.size = p1.size) && planZ md ops z p1 (listed.setIfInBounds k1 true) && planZ md ops z p2 (listed.setIfInBounds k2 true)
  | .fork3 .., _ => false
def walkZ (P : Program) (ops : Array Oper) (z : Nat) (Q : Exit → Act → World → Prop) : Plan → (World → Prop) → Act → World → Prop
  | .done, _, a, w => ∀ o, ops[z]? = some o → Region.wanted o (yielded ops a.tmps) = true ∧ o.wp P a w (fun a' w' => Q .normal a' w') Q
  | .seg ks ts p, F, a, w => walkL P ops (walkZ P ops z Q p) Q ts (ks.filterMap (ops[·]?)) F a w
  | .fork k1 p1 k2 p2, F, a, w => walkL P ops (walkZ P ops z Q p1) Q [false] ([k1].filterMap (ops[·]?)) F a w ∧ walkL P ops (walkZ P ops z Q p2) Q [false] ([k2].filterMap (ops[·]?)) F a w
  | .fork3 .., _, _, _ => False
theorem anyZ_plan (hsel : Region.noSelect ops = true) (hQ : ∀ c a w, ¬ Q (.panic c) a w) : ∀ (p : Plan) (F : World → Prop) (listed : Array Bool) (a : Act) (w : World), F w →
    planZ md ops z p listed = true → walkZ P ops z Q p F a w → anyZ P md ops z (cls F) Q (p.size + 1) listed a w
  | .done, F, listed, a, w, hC, hB, h => by
    simp only [planZ, Bool.and_eq_true, decide_eq_true_eq] at hB
    obtain ⟨hr, he⟩ := hB
    refine ⟨fun h1 => (by rw [hr] at h1; cases h1), fun i hi => ?_⟩
    rw [hr] at hi
    have hik : i = z := by simpa using hi
    subst hik
    obtain ⟨o, ho⟩ : ∃ o, ops[i]? = some o := by
      have hm : i ∈ Region.ready md ops listed := by rw [hr]; simp
      obtain ⟨_, o, ho, _⟩ := mem_ready.1 hm
      exact ⟨o, ho⟩
    obtain ⟨hw, hwp⟩ := h o ho
    unfold wpOp
    simp only [ho, hw, if_true]
    exact .inl (Oper.wp_mono (fun a' w' h' => ⟨fun h => absurd rfl h, by simpa using he, h'⟩) hwp)
  | .seg ks ts p, F, listed, a, w, hC, hB, h => by
    simp only [planZ, Bool.and_eq_true] at hB
    have := anyZ_seg hsel hQ ks ts F listed a w hC hB.1.1.1 hB.1.1.2 hB.1.2 h fun F' a' w' h1 h2 => anyZ_plan hsel hQ p F' _ a' w' h1 hB.2 h2
    rw [show (Plan.seg ks ts p).size + 1 = ks.length + (p.size + 1) by simp only [Plan.size]; omega]
    exact this
  | .fork k1 p1 k2 p2, F, listed, a, w, hC, hB, h => by
    simp only [planZ, Bool.and_eq_true, decide_eq_true_eq] at hB
    obtain ⟨⟨⟨⟨⟨hk1, hk2⟩, hr⟩, hs⟩, hB1⟩, hB2⟩ := hB
    have e1 : ops[k1]? = some ops[k1] := Array.getElem?_eq_getElem hk1
    have e2 : ops[k2]? = some ops[k2] := Array.getElem?_eq_getElem hk2
    rw [show (Plan.fork k1 p1 k2 p2).size + 1 = (p1.size + 1) + 1 by simp only [Plan.size]]
    refine ⟨fun h1 => (by rw [hr] at h1; cases h1), fun i hi => ?_⟩
    rw [hr] at hi
    have hik : i = k1 ∨ i = k2 := by simpa using hi
    obtain ⟨h1, h2⟩ := h
    rw [List.filterMap_cons_some e1] at h1
    rw [List.filterMap_cons_some e2] at h2
    rcases hik with rfl | rfl
    · exact wpOp_of_walkZ (L := walkZ P ops z Q p1) (ts := []) (l := []) e1 hC (fun F' a' w' h3 h4 => anyZ_plan hsel hQ p1 F' _ a' w' h3 hB1 h4) h1
    · exact wpOp_of_walkZ (L := walkZ P ops z Q p2) (ts := []) (l := []) e2 hC (fun F' a' w' h3 h4 => hs ▸ anyZ_plan hsel hQ p2 F' _ a' w' h3 hB2 h4) h2
  | .fork3 .., _, _, _, _, _, hB, _ => by simp [planZ] at hB
theorem region_planZ {id : Nat} {Q : Exit → Act → World → Prop} {a : Act} {w : World} {l : List Oper} (z : Nat) (p : Plan) (F : World → Prop) (hm : P.follows .mixedOrders = true)
    (hB : (Region.noSelect l.toArray && decide (p.size + 1 = l.toArray.size) && planZ .any l.toArray z p (Array.replicate l.toArray.size false)) = true) (hF : F w.drew)
    (h : walkZ P l.toArray z (NoPanic Q) p F a w.drew) : (Code.region id l.toArray true).wp P Q a w := by
  simp only [Bool.and_eq_true, decide_eq_true_eq] at hB
  obtain ⟨⟨h1, h2⟩, h3⟩ := hB
  refine wp_region_noPanic (wp_region_any hm (any_of_anyZ (z := z) (C := cls F) _ _ _ _ ?_))
  have := anyZ_plan (md := .any) (Q := NoPanic Q) h1 (fun c a w hh => hh) p F _ a w.drew hF h3 h
  rwa [h2] at this
theorem walkZ_seg {ks : List Nat} {ts : List Bool} {p : Plan} {F : World → Prop} {a : Act} {w : World} {l : List Oper} (h : walkL P l.toArray (walkZ P l.toArray z Q p) Q ts (ks.filterMap (l[·]?)) F a w) : walkZ P l.toArray z Q (.seg ks ts p) F a w := by
  simpa [walkZ] using h
theorem walkZ_fork {k1 k2 : Nat} {p1 p2 : Plan} {F : World → Prop} {a : Act} {w : World} {l : List Oper} (h1 : walkL P l.toArray (walkZ P l.toArray z Q p1) Q [false] ([k1].filterMap (l[·]?)) F a w) (h2 : walkL P l.toArray (walkZ P l.toArray z Q p2) Q [false] ([k2].filterMap (l[·]?)) F a w) :
    walkZ P l.toArray z Q (.fork k1 p1 k2 p2) F a w := ⟨by simpa using h1, by simpa using h2⟩
theorem walkZ_done {F : World → Prop} {a : Act} {w : World} {Q : Exit → Act → World → Prop} {l : List Oper} {o : Oper} (ho : l[z]? = some o) (hg : o.guard = none)
    (h : ∀ K : Act → World → Prop, (∀ a w, Q .normal a w → K a w) → o.wp P a w K (NoPanic Q)) : walkZ P l.toArray z (NoPanic Q) .done F a w := by
  intro o' ho'
  have : o' = o := by
    have h1 : l.toArray[z]? = some o := by simpa using ho
    rw [h1] at ho'
    exact (Option.some.inj ho').symm
  subst this
  refine ⟨by simp [Region.wanted, hg], h _ fun a w hq => NoPanic.normal hq⟩
end
end Go.Proofs.YtnbdcdeidhhgoaaDoor
