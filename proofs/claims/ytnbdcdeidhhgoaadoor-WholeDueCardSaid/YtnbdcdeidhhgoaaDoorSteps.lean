/- DERIVED LEMMAS, OF NO PROGRAM: a region that draws its order, in an order of one's own; the class of worlds in which the reads still outstanding yield what they yield may be narrowed behind each step. -/
import Derived.Test.YtnbdcdeidhhgoaaDoorMix
import Derived.Laws.Rows
namespace Go.Proofs.YtnbdcdeidhhgoaaDoor
set_option maxRecDepth 4000
set_option linter.unusedVariables false
set_option linter.unusedSimpArgs false
open Go
section
variable {P : Program} {ops : Array Oper} {md : Region.Mode} {Q : Exit → Act → World → Prop}
def cls (F : World → Prop) : World → Prop := fun w' => ∃ x : Of F, w' = x.val
theorem cls_mk {F : World → Prop} {w : World} (h : F w) : cls F w := ⟨⟨w, h⟩, rfl⟩
theorem cls_get {F : World → Prop} {w : World} (h : cls F w) : F w := by obtain ⟨x, rfl⟩ := h; exact x.property
theorem anyC_mono {C C' : World → Prop} (h : ∀ w, C' w → C w) : ∀ (n : Nat) (listed : Array Bool) (a : Act) (w : World), anyC P md ops C' Q n listed a w → anyC P md ops C Q n listed a w
  | 0, _, _, _, hh => hh
  | n + 1, _, _, _, hh => ⟨hh.1, fun i hi => wpOp_mono (fun _ _ h' => ⟨h _ h'.1, anyC_mono h n _ _ _ h'.2⟩) (hh.2 i hi)⟩
/-- a walk in one's own order, to where L holds -/
def walkL (P : Program) (ops : Array Oper) (L : (World → Prop) → Act → World → Prop) (Q : Exit → Act → World → Prop) : List Bool → List Oper → (World → Prop) → Act → World → Prop
  | true :: ts, o :: l, F, a, w => ∃ v, YieldsC P ops (cls F) o v a ∧ walkL P ops L Q ts l F (a.put o.dst v) w
  | false :: ts, o :: l, F, a, w => if Region.wanted o (yielded ops a.tmps) then o.wp P a w (fun a' w' => ∃ F', F' w' ∧ (∀ w, F' w → F w) ∧ walkL P ops L Q ts l F' a' w') Q else walkL P ops L Q ts l F (a.put o.dst undef) w
  | [], [], F, a, w => L F a w
  | _, _, _, _, _ => False
abbrev walkS (P : Program) (ops : Array Oper) (Q : Exit → Act → World → Prop) : List Bool → List Oper → (World → Prop) → Act → World → Prop := walkL P ops (fun _ a w => Q .normal a w) Q
def setAll : List Nat → Array Bool → Array Bool
  | [], listed => listed
  | k :: ks, listed => setAll ks (listed.setIfInBounds k true)
/-- as ordB, but for the end -/
def segB (md : Region.Mode) (ops : Array Oper) : List Nat → List Bool → Array Bool → Bool
  | [], [], _ => true
  | k :: ks, true :: ts, listed => decide (k < ops.size) && (Region.ready md ops listed).contains k && Region.free md ops listed k && segB md ops ks ts (listed.setIfInBounds k true)
  | k :: ks, false :: ts, listed => decide (k < ops.size) && decide (Region.ready md ops listed = [k]) && segB md ops ks ts (listed.setIfInBounds k true)
  | _, _, _ => false
theorem wpOp_of_walkL {L : (World → Prop) → Act → World → Prop} {k : Nat} {o : Oper} {ts : List Bool} {l : List Oper} {F : World → Prop} {a : Act} {w : World} {n : Nat} {listed : Array Bool} (h0 : ops[k]? = some o) (hC : F w)
    (hK : ∀ F' a' w', F' w' → walkL P ops L Q ts l F' a' w' → anyC P md ops (cls F') Q n listed a' w') (h : walkL P ops L Q (false :: ts) (o :: l) F a w) :
    wpOp P ops Q k (fun a' w' => cls F w' ∧ anyC P md ops (cls F) Q n listed a' w') a w := by
  unfold wpOp
  simp only [h0]
  unfold walkL at h
  split
  · rename_i hw
    rw [if_pos hw] at h
    exact .inl (Oper.wp_mono (fun a' w' ⟨F', h1, h2, h3⟩ => ⟨cls_mk (h2 _ h1), anyC_mono (fun _ hc => cls_mk (h2 _ (cls_get hc))) _ _ _ _ (hK F' a' w' h1 h3)⟩) h)
  · rename_i hw
    rw [if_neg hw] at h
    exact ⟨cls_mk hC, hK F _ _ hC h⟩
theorem anyC_seg (hsel : Region.noSelect ops = true) (hQ : ∀ c a w, ¬ Q (.panic c) a w) {L : (World → Prop) → Act → World → Prop} {m : Nat} : ∀ (ks : List Nat) (ts : List Bool) (F : World → Prop) (listed : Array Bool) (a : Act) (w : World), F w →
    segB md ops ks ts listed = true → walkL P ops L Q ts (ks.filterMap (ops[·]?)) F a w → (∀ F a w, F w → L F a w → anyC P md ops (cls F) Q m (setAll ks listed) a w) → anyC P md ops (cls F) Q (ks.length + m) listed a w
  | [], [], F, _, a, w, hC, _, h, hL => by
    simp only [List.length_nil, Nat.zero_add]
    exact hL F a w hC h
  | [], _ :: _, _, _, _, _, _, hB, _, _ => by simp [segB] at hB
  | _ :: _, [], _, _, _, _, _, hB, _, _ => by simp [segB] at hB
  | k :: ks, true :: ts, F, listed, a, w, hC, hB, h, hL => by
    simp only [segB, Bool.and_eq_true, decide_eq_true_eq] at hB
    obtain ⟨⟨⟨hk, hr⟩, hf⟩, hB'⟩ := hB
    have h0 : ops[k]? = some ops[k] := Array.getElem?_eq_getElem hk
    rw [List.filterMap_cons_some h0] at h
    obtain ⟨v, hy, hK⟩ := h
    rw [show (k :: ks).length + m = (ks.length + m) + 1 by simp only [List.length_cons]; omega]
    exact anyC_first h0 (Region.noSelect_spec hsel) hQ (ks.length + m) listed a w (cls_mk hC) (Region.free_spec h0 hf) (by simpa using hr) hy (anyC_seg hsel hQ ks ts F _ _ _ hC hB' hK hL)
  | k :: ks, false :: ts, F, listed, a, w, hC, hB, h, hL => by
    simp only [segB, Bool.and_eq_true, decide_eq_true_eq] at hB
    obtain ⟨⟨hk, hr⟩, hB'⟩ := hB
    have h0 : ops[k]? = some ops[k] := Array.getElem?_eq_getElem hk
    rw [List.filterMap_cons_some h0] at h
    rw [show (k :: ks).length + m = (ks.length + m) + 1 by simp only [List.length_cons]; omega]
    refine ⟨fun h1 => (by rw [hr] at h1; cases h1), fun i hi => ?_⟩
    rw [hr] at hi
    have hik : i = k := by simpa using hi
    subst hik
    exact wpOp_of_walkL h0 hC (fun F' a' w' h1 h3 => anyC_seg hsel hQ ks ts F' _ a' w' h1 hB' h3 hL) h
/-- a region's orders: so many in one's own order; at a fork either of two that are ready comes first -/
inductive Plan
  | done
  | seg (ks : List Nat) (ts : List Bool) (p : Plan)
  | fork (k1 : Nat) (p1 : Plan) (k2 : Nat) (p2 : Plan)
  | fork3 (k1 : Nat) (p1 : Plan) (k2 : Nat) (p2 : Plan) (k3 : Nat) (p3 : Plan)
def Plan.size : Plan → Nat
  | .done => 0
  | .seg ks _ p => ks.length + p.size
  | .fork _ p1 _ _ => p1.size + 1
  | .fork3 _ p1 _ _ _ _ => p1.size + 1
def planB (md : Region.Mode) (ops : Array Oper) : Plan → Array Bool → Bool
  | .done, listed => (Region.ready md ops listed).isEmpty
  | .seg ks ts p, listed => segB md ops ks ts listed && planB md ops p (setAll ks listed)
  | .fork k1 p1 k2 p2, listed => decide (k1 < ops.size) && decide (k2 < ops.size) && decide (Region.ready md ops listed = [k1, k2]) && decide (p2.size = p1.size) && planB md ops p1 (listed.setIfInBounds k1 true) && planB md ops p2 (listed.setIfInBounds k2 true)
  | .fork3 k1 p1 k2 p2 k3 p3, listed => decide (k1 < ops.size) && decide (k2 < ops.size) && decide (k3 < ops.size) && decide (Region.ready md ops listed = [k1, k2, k3]) && decide (p2.size = p1.size) && decide (p3.size = p1.size) && planB md ops p1 (listed.setIfInBounds k1 true) && planB md ops p2 (listed.setIfInBounds k2 true) && planB md ops p3 (listed.setIfInBounds k3 true)
def walkP (P : Program) (ops : Array Oper) (Q : Exit → Act → World → Prop) : Plan → (World → Prop) → Act → World → Prop
  | .done, _, a, w => Q .normal a w
  | .seg ks ts p, F, a, w => walkL P ops (walkP P ops Q p) Q ts (ks.filterMap (ops[·]?)) F a w
  | .fork k1 p1 k2 p2, F, a, w => walkL P ops (walkP P ops Q p1) Q [false] ([k1].filterMap (ops[·]?)) F a w ∧ walkL P ops (walkP P ops Q p2) Q [false] ([k2].filterMap (ops[·]?)) F a w
  | .fork3 k1 p1 k2 p2 k3 p3, F, a, w => walkL P ops (walkP P ops Q p1) Q [false] ([k1].filterMap (ops[·]?)) F a w ∧ walkL P ops (walkP P ops Q p2) Q [false] ([k2].filterMap (ops[·]?)) F a w ∧ walkL P ops (walkP P ops Q p3) Q [false] ([k3].filterMap (ops[·]?)) F a w
theorem anyC_plan (hsel : Region.noSelect ops = true) (hQ : ∀ c a w, ¬ Q (.panic c) a w) : ∀ (p : Plan) (F : World → Prop) (listed : Array Bool) (a : Act) (w : World), F w →
    planB md ops p listed = true → walkP P ops Q p F a w → anyC P md ops (cls F) Q p.size listed a w
  | .done, _, _, _, _, _, hB, h => ⟨by simpa [planB] using hB, h⟩
  | .seg ks ts p, F, listed, a, w, hC, hB, h => by
    simp only [planB, Bool.and_eq_true] at hB
    exact anyC_seg hsel hQ ks ts F listed a w hC hB.1 h fun F' a' w' h1 h2 => anyC_plan hsel hQ p F' _ a' w' h1 hB.2 h2
  | .fork k1 p1 k2 p2, F, listed, a, w, hC, hB, h => by
    simp only [planB, Bool.and_eq_true, decide_eq_true_eq] at hB
    obtain ⟨⟨⟨⟨⟨hk1, hk2⟩, hr⟩, hs⟩, hB1⟩, hB2⟩ := hB
    have e1 : ops[k1]? = some ops[k1] := Array.getElem?_eq_getElem hk1
    have e2 : ops[k2]? = some ops[k2] := Array.getElem?_eq_getElem hk2
    refine ⟨fun h1 => (by rw [hr] at h1; cases h1), fun i hi => ?_⟩
    rw [hr] at hi
    have hik : i = k1 ∨ i = k2 := by simpa using hi
    obtain ⟨h1, h2⟩ := h
    rw [List.filterMap_cons_some e1] at h1
    rw [List.filterMap_cons_some e2] at h2
    rcases hik with rfl | rfl
    · exact wpOp_of_walkL (L := walkP P ops Q p1) (ts := []) (l := []) e1 hC (fun F' a' w' h3 h4 => anyC_plan hsel hQ p1 F' _ a' w' h3 hB1 h4) h1
    · exact wpOp_of_walkL (L := walkP P ops Q p2) (ts := []) (l := []) e2 hC (fun F' a' w' h3 h4 => hs ▸ anyC_plan hsel hQ p2 F' _ a' w' h3 hB2 h4) h2
  | .fork3 k1 p1 k2 p2 k3 p3, F, listed, a, w, hC, hB, h => by
    simp only [planB, Bool.and_eq_true, decide_eq_true_eq] at hB
    obtain ⟨⟨⟨⟨⟨⟨⟨⟨hk1, hk2⟩, hk3⟩, hr⟩, hs⟩, hs3⟩, hB1⟩, hB2⟩, hB3⟩ := hB
    have e1 : ops[k1]? = some ops[k1] := Array.getElem?_eq_getElem hk1
    have e2 : ops[k2]? = some ops[k2] := Array.getElem?_eq_getElem hk2
    have e3 : ops[k3]? = some ops[k3] := Array.getElem?_eq_getElem hk3
    refine ⟨fun h1 => (by rw [hr] at h1; cases h1), fun i hi => ?_⟩
    rw [hr] at hi
    have hik : i = k1 ∨ i = k2 ∨ i = k3 := by simpa using hi
    obtain ⟨h1, h2, h3⟩ := h
    rw [List.filterMap_cons_some e1] at h1
    rw [List.filterMap_cons_some e2] at h2
    rw [List.filterMap_cons_some e3] at h3
    rcases hik with rfl | rfl | rfl
    · exact wpOp_of_walkL (L := walkP P ops Q p1) (ts := []) (l := []) e1 hC (fun F' a' w' h3 h4 => anyC_plan hsel hQ p1 F' _ a' w' h3 hB1 h4) h1
    · exact wpOp_of_walkL (L := walkP P ops Q p2) (ts := []) (l := []) e2 hC (fun F' a' w' h3 h4 => hs ▸ anyC_plan hsel hQ p2 F' _ a' w' h3 hB2 h4) h2
    · exact wpOp_of_walkL (L := walkP P ops Q p3) (ts := []) (l := []) e3 hC (fun F' a' w' h3 h4 => hs3 ▸ anyC_plan hsel hQ p3 F' _ a' w' h3 hB3 h4) h3
theorem region_plan {id : Nat} {Q : Exit → Act → World → Prop} {a : Act} {w : World} {l : List Oper} (p : Plan) (F : World → Prop) (hm : P.follows .mixedOrders = true)
    (hB : (Region.noSelect l.toArray && decide (p.size = l.toArray.size) && planB .any l.toArray p (Array.replicate l.toArray.size false)) = true) (hF : F w.drew)
    (h : walkP P l.toArray (NoPanic Q) p F a w.drew) : (Code.region id l.toArray true).wp P Q a w := by
  simp only [Bool.and_eq_true, decide_eq_true_eq] at hB
  obtain ⟨⟨h1, h2⟩, h3⟩ := hB
  refine wp_region_noPanic (wp_region_any hm (any_of_anyC (C := cls F) _ _ _ _ ?_))
  have := anyC_plan (md := .any) (Q := NoPanic Q) h1 (fun c a w hh => hh) p F _ a w.drew hF h3 h
  rwa [h2] at this
theorem walkP_seg {ks : List Nat} {ts : List Bool} {p : Plan} {F : World → Prop} {a : Act} {w : World} {l : List Oper} (h : walkL P l.toArray (walkP P l.toArray Q p) Q ts (ks.filterMap (l[·]?)) F a w) : walkP P l.toArray Q (.seg ks ts p) F a w := by
  simpa [walkP] using h
theorem walkP_fork {k1 k2 : Nat} {p1 p2 : Plan} {F : World → Prop} {a : Act} {w : World} {l : List Oper} (h1 : walkL P l.toArray (walkP P l.toArray Q p1) Q [false] ([k1].filterMap (l[·]?)) F a w) (h2 : walkL P l.toArray (walkP P l.toArray Q p2) Q [false] ([k2].filterMap (l[·]?)) F a w) :
    walkP P l.toArray Q (.fork k1 p1 k2 p2) F a w := ⟨by simpa using h1, by simpa using h2⟩
theorem walkP_fork3 {k1 k2 k3 : Nat} {p1 p2 p3 : Plan} {F : World → Prop} {a : Act} {w : World} {l : List Oper} (h1 : walkL P l.toArray (walkP P l.toArray Q p1) Q [false] ([k1].filterMap (l[·]?)) F a w) (h2 : walkL P l.toArray (walkP P l.toArray Q p2) Q [false] ([k2].filterMap (l[·]?)) F a w) (h3 : walkL P l.toArray (walkP P l.toArray Q p3) Q [false] ([k3].filterMap (l[·]?)) F a w) :
    walkP P l.toArray Q (.fork3 k1 p1 k2 p2 k3 p3) F a w := ⟨by simpa using h1, by simpa using h2, by simpa using h3⟩
theorem walkP_done {F : World → Prop} {a : Act} {w : World} {Q : Exit → Act → World → Prop} (h : Q .normal a w) : walkP P ops (NoPanic Q) .done F a w := NoPanic.normal h
theorem anyC_steps (hsel : Region.noSelect ops = true) (hQ : ∀ c a w, ¬ Q (.panic c) a w) : ∀ (ks : List Nat) (ts : List Bool) (F : World → Prop) (listed : Array Bool) (a : Act) (w : World), F w →
    ordB md ops ks ts listed = true → walkS P ops Q ts (ks.filterMap (ops[·]?)) F a w → anyC P md ops (cls F) Q ks.length listed a w
  | [], [], _, _, _, _, _, hB, h => ⟨by simpa [ordB] using hB, h⟩
  | [], _ :: _, _, _, _, _, _, hB, _ => by simp [ordB] at hB
  | _ :: _, [], _, _, _, _, _, hB, _ => by simp [ordB] at hB
  | k :: ks, true :: ts, F, listed, a, w, hC, hB, h => by
    simp only [ordB, Bool.and_eq_true, decide_eq_true_eq] at hB
    obtain ⟨⟨⟨hk, hr⟩, hf⟩, hB'⟩ := hB
    have h0 : ops[k]? = some ops[k] := Array.getElem?_eq_getElem hk
    rw [List.filterMap_cons_some h0] at h
    obtain ⟨v, hy, hK⟩ := h
    exact anyC_first h0 (Region.noSelect_spec hsel) hQ ks.length listed a w (cls_mk hC) (Region.free_spec h0 hf) (by simpa using hr) hy (anyC_steps hsel hQ ks ts F _ _ _ hC hB' hK)
  | k :: ks, false :: ts, F, listed, a, w, hC, hB, h => by
    simp only [ordB, Bool.and_eq_true, decide_eq_true_eq] at hB
    obtain ⟨⟨hk, hr⟩, hB'⟩ := hB
    have h0 : ops[k]? = some ops[k] := Array.getElem?_eq_getElem hk
    rw [List.filterMap_cons_some h0] at h
    refine ⟨fun h1 => (by rw [hr] at h1; cases h1), fun i hi => ?_⟩
    rw [hr] at hi
    have hik : i = k := by simpa using hi
    subst hik
    exact wpOp_of_walkL h0 hC (fun F' a' w' h1 h3 => anyC_steps hsel hQ ks ts F' _ a' w' h1 hB' h3) h
theorem region_steps {id : Nat} {Q : Exit → Act → World → Prop} {a : Act} {w : World} {l : List Oper} (ks : List Nat) (ts : List Bool) (F : World → Prop) (hm : P.follows .mixedOrders = true)
    (hB : (Region.noSelect l.toArray && decide (ks.length = l.toArray.size) && ordB .any l.toArray ks ts (Array.replicate l.toArray.size false)) = true) (hF : F w.drew)
    (h : walkS P l.toArray (NoPanic Q) ts (ks.filterMap (l[·]?)) F a w.drew) : (Code.region id l.toArray true).wp P Q a w := by
  simp only [Bool.and_eq_true, decide_eq_true_eq] at hB
  obtain ⟨⟨h1, h2⟩, h3⟩ := hB
  refine wp_region_noPanic (wp_region_any hm (any_of_anyC (C := cls F) _ _ _ _ ?_))
  have := anyC_steps (md := .any) (Q := NoPanic Q) h1 (fun c a w hh => hh) ks ts F _ a w.drew hF h3 (by simpa using h)
  rwa [h2] at this
theorem steps_pure {M : (World → Prop) → Act → World → Prop} {F : World → Prop} {L : Act → Prop} {w : World} {Q : Exit → Act → World → Prop} : ∀ (n : Nat) (ts : List Bool) (l : List Oper) (a : Act), (ts.take n).all id = true → (ts.take n).length = n → (∀ a', L a' → walkL P ops M Q (ts.drop n) (l.drop n) F a' w) → pureC P ops (cls F) L (l.take n) a → (l.take n).length = n → walkL P ops M Q ts l F a w
  | 0, ts, l, a, _, _, hL, h, _ => hL a h
  | n + 1, [], l, a, _, hn, _, _, _ => by simp at hn
  | n + 1, ts, [], a, _, _, _, _, hn => by simp at hn
  | n + 1, t :: ts, o :: l, a, ht, hn, hL, h, hn' => by
    simp only [List.take_succ_cons, List.all_cons, id, Bool.and_eq_true] at ht
    obtain ⟨rfl, ht⟩ := ht
    obtain ⟨v, hy, hK⟩ := h
    exact ⟨v, hy, steps_pure n ts l _ ht (by simpa using hn) hL hK (by simpa using hn')⟩
theorem steps_quiet {M : (World → Prop) → Act → World → Prop} {F : World → Prop} {a : Act} {w : World} {Q : Exit → Act → World → Prop} {ts : List Bool} {l : List Oper} (n : Nat) (ht : ((ts.take n).all id && decide ((ts.take n).length = n) && decide ((l.take n).length = n) && (l.take n).all (fun o => plainOp o.op)) = true)
    (h : wpQuiet P ops (fun w' => ∃ x : Of F, w' = x.val) (fun a' => walkL P ops M Q (ts.drop n) (l.drop n) F a' w) (l.take n) a) : walkL P ops M Q ts l F a w := by
  simp only [Bool.and_eq_true, decide_eq_true_eq] at ht
  obtain ⟨⟨⟨h1, h2⟩, h3⟩, h4⟩ := ht
  exact steps_pure n ts l a h1 h2 (fun _ h => h) (pure_of_quiet _ _ h4 h) h3
theorem steps_want {M : (World → Prop) → Act → World → Prop} {F : World → Prop} {o : Oper} {ts : List Bool} {rest : List Oper} {a : Act} {w : World} {Q : Exit → Act → World → Prop} (hw : Region.wanted o (yielded ops a.tmps) = true)
    (h : ∀ K : Act → World → Prop, (∀ a w F', F' w → (∀ w, F' w → F w) → walkL P ops M Q ts rest F' a w → K a w) → o.wp P a w K Q) : walkL P ops M Q (false :: ts) (o :: rest) F a w := by
  unfold walkL
  rw [if_pos hw]
  exact h _ (fun a w F' h1 h2 h3 => ⟨F', h1, h2, h3⟩)
theorem steps_load_row {M : (World → Prop) → Act → World → Prop} {Q : Exit → Act → World → Prop} {F : World → Prop} {o : Oper} {ts : List Bool} {rest : List Oper} {a : Act} {w : World} (hw : Region.wanted o (yielded ops a.tmps) = true) (ty : TypeId) (x : Operand) (ho : o.op = .load ty x)
    (g : Nat) (hx : a.eval x = .pointer (some ⟨g, 0, none⟩)) (t : TypeId) (cs : Array Value) (d : TypeDesc) (hS : ∀ w, F w → w.heap[g]? = some (.cells cs t (0, 0))) (hu : P.underlying ty = some d) (hd : (match d with | .struct _ | .array _ _ => true | _ => false) = true) (hi : (P.info? ty).map (·.size) = some cs.size)
    (h : walkL P ops M Q ts rest F (a.put o.dst (.agg cs)) w) : walkL P ops M Q (true :: ts) (o :: rest) F a w := by
  refine ⟨.agg cs, .inl ⟨hw, fun w' hw' => .inl ?_⟩, h⟩
  unfold execOp
  simp only [ho, hx, Instr.loadAt, Instr.sureAddr, Sem.run_bind, Sem.run_pure, Result.andThen_ok, run_loadVar_row w' g t ty cs (0, 0) d (hS w' (cls_get hw')) hu hd hi]
theorem steps_skip {M : (World → Prop) → Act → World → Prop} {F : World → Prop} {o : Oper} {ts : List Bool} {rest : List Oper} {a : Act} {w : World} {Q : Exit → Act → World → Prop} (hw : Region.wanted o (yielded ops a.tmps) = false) (h : walkL P ops M Q ts rest F (a.put o.dst undef) w) : walkL P ops M Q (false :: ts) (o :: rest) F a w := by
  unfold walkL
  rw [if_neg (by rw [hw]; decide)]
  exact h
theorem steps_end {M : (World → Prop) → Act → World → Prop} {F : World → Prop} {a : Act} {w : World} {Q : Exit → Act → World → Prop} (h : M F a w) : walkL P ops M Q [] [] F a w := h
theorem steps_nil {F : World → Prop} {a : Act} {w : World} {Q : Exit → Act → World → Prop} (h : Q .normal a w) : walkS P ops (NoPanic Q) [] [] F a w := NoPanic.normal h
end
theorem Of.ne {F : World → Prop} {w : World} (h : F w) : Nonempty (Of F) := ⟨⟨w, h⟩⟩
end Go.Proofs.YtnbdcdeidhhgoaaDoor
