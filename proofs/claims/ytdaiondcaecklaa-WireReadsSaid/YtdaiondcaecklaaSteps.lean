/- DERIVED LEMMAS, OF NO PROGRAM: a region that draws its order, in an order of one's own; the class of worlds in which the reads still outstanding yield what they yield may be narrowed behind each step. -/
import Derived.Test.YtdaiondcaecklaaMix
namespace Go.Proofs.Ytdaiondcaecklaa
set_option linter.unusedVariables false
set_option linter.unusedSimpArgs false
open Go
section
variable {P : Program} {ops : Array Oper} {md : Region.Mode} {Q : Exit → Act → World → Prop}
def cls (F : World → Prop) : World → Prop := fun w' => ∃ x : Of F, w' = x.val
theorem cls_mk {F : World → Prop} {w : World} (h : F w) : cls F w := ⟨⟨w, h⟩, rfl⟩
theorem cls_get {F : World → Prop} {w : World} (h : cls F w) : F w := by obtain ⟨x, rfl⟩ := h; exact x.property
theorem anyC_mono {C C' : World → Prop} (h : ∀ w, C' w → C w) : ∀ (n : Nat) (listed : Array Bool) (a : Act) (w : World), anyC P md ops C' Q n listed a w → anyC P md ops C Q n listed a w
  | 0, _, _, _, hh => hh
  | n + 1, _, _, _, hh => ⟨hh.1, fun i hi => wpOp_mono (fun _ _ h' => ⟨h _ h'.1, anyC_mono h n _ _ _ h'.2⟩) (hh.2 i hi)⟩
def walkS (P : Program) (ops : Array Oper) (Q : Exit → Act → World → Prop) : List Bool → List Oper → (World → Prop) → Act → World → Prop
  | true :: ts, o :: l, F, a, w => ∃ v, YieldsC P ops (cls F) o v a ∧ walkS P ops Q ts l F (a.put o.dst v) w
  | false :: ts, o :: l, F, a, w => if Region.wanted o (yielded ops a.tmps) then o.wp P a w (fun a' w' => ∃ F', F' w' ∧ (∀ w, F' w → F w) ∧ walkS P ops Q ts l F' a' w') Q else walkS P ops Q ts l F (a.put o.dst undef) w
  | [], [], _, a, w => Q .normal a w
  | _, _, _, _, _ => False
theorem anyC_steps (hsel : Region.noSelect ops = true) (hQ : ∀ c a w, ¬ Q (.panic c) a w) : ∀ (ks : List Nat) (ts : List Bool) (F : World → Prop) (listed : Array Bool) (a : Act) (w : World), F w →
    ordB md ops ks ts listed = true → walkS P ops Q ts (ks.filterMap (ops[·]?)) F a w → anyC P md ops (cls F) Q ks.length listed a w
  | [], [], _, _, _, _, _, hB, h => ⟨by simpa [ordB] using hB, h⟩
  | [], _ :: _, _, _, _, _, _, hB, _ => by simp [ordB] at hB
  | _ :: _, [], _, _, _, _, _, hB, _ => by simp [ordB] at hB
  | k :: ks, true :: ts, F, listed, a, w, hC, hB, h => by
    simp only [ordB, Bool.and_eq_true, decide_eq_true_eq] at hB
    obtain ⟨⟨⟨hk, hr⟩, hf⟩, hB'⟩ := hB
    have h0 : ops[k]? = some ops[k] := Array.getElem?_eq_getElem hk
    rw [List.filterMap_cons_some h0] at h
    obtain ⟨v, hy, hK⟩ := h
    exact anyC_first h0 (Region.noSelect_spec hsel) hQ ks.length listed a w (cls_mk hC) (Region.free_spec h0 hf) (by simpa using hr) hy (anyC_steps hsel hQ ks ts F _ _ _ hC hB' hK)
  | k :: ks, false :: ts, F, listed, a, w, hC, hB, h => by
    simp only [ordB, Bool.and_eq_true, decide_eq_true_eq] at hB
    obtain ⟨⟨hk, hr⟩, hB'⟩ := hB
    have h0 : ops[k]? = some ops[k] := Array.getElem?_eq_getElem hk
    rw [List.filterMap_cons_some h0] at h
    refine ⟨fun h1 => (by rw [hr] at h1; cases h1), fun i hi => ?_⟩
    rw [hr] at hi
    have hik : i = k := by simpa using hi
    subst hik
    unfold wpOp
    simp only [h0]
    unfold walkS at h
    split
    · rename_i hw
      rw [if_pos hw] at h
      exact .inl (Oper.wp_mono (fun a' w' ⟨F', h1, h2, h3⟩ => ⟨cls_mk (h2 _ h1), anyC_mono (fun _ hc => cls_mk (h2 _ (cls_get hc))) _ _ _ _ (anyC_steps hsel hQ ks ts F' _ a' w' h1 hB' h3)⟩) h)
    · rename_i hw
      rw [if_neg hw] at h
      exact ⟨cls_mk hC, anyC_steps hsel hQ ks ts F _ _ _ hC hB' h⟩
theorem region_steps {id : Nat} {Q : Exit → Act → World → Prop} {a : Act} {w : World} {l : List Oper} (ks : List Nat) (ts : List Bool) (F : World → Prop) (hm : P.follows .mixedOrders = true)
    (hB : (Region.noSelect l.toArray && decide (ks.length = l.toArray.size) && ordB .any l.toArray ks ts (Array.replicate l.toArray.size false)) = true) (hF : F w.drew)
    (h : walkS P l.toArray (NoPanic Q) ts (ks.filterMap (l[·]?)) F a w.drew) : (Code.region id l.toArray true).wp P Q a w := by
  simp only [Bool.and_eq_true, decide_eq_true_eq] at hB
  obtain ⟨⟨h1, h2⟩, h3⟩ := hB
  refine wp_region_noPanic (wp_region_any hm (any_of_anyC (C := cls F) _ _ _ _ ?_))
  have := anyC_steps (md := .any) (Q := NoPanic Q) h1 (fun c a w hh => hh) ks ts F _ a w.drew hF h3 (by simpa using h)
  rwa [h2] at this
theorem steps_pure {F : World → Prop} {L : Act → Prop} {w : World} {Q : Exit → Act → World → Prop} : ∀ (n : Nat) (ts : List Bool) (l : List Oper) (a : Act), (ts.take n).all id = true → (ts.take n).length = n → (∀ a', L a' → walkS P ops Q (ts.drop n) (l.drop n) F a' w) → pureC P ops (cls F) L (l.take n) a → (l.take n).length = n → walkS P ops Q ts l F a w
  | 0, ts, l, a, _, _, hL, h, _ => hL a h
  | n + 1, [], l, a, _, hn, _, _, _ => by simp at hn
  | n + 1, ts, [], a, _, _, _, _, hn => by simp at hn
  | n + 1, t :: ts, o :: l, a, ht, hn, hL, h, hn' => by
    simp only [List.take_succ_cons, List.all_cons, id, Bool.and_eq_true] at ht
    obtain ⟨rfl, ht⟩ := ht
    obtain ⟨v, hy, hK⟩ := h
    exact ⟨v, hy, steps_pure n ts l _ ht (by simpa using hn) hL hK (by simpa using hn')⟩
theorem steps_quiet {F : World → Prop} {a : Act} {w : World} {Q : Exit → Act → World → Prop} {ts : List Bool} {l : List Oper} (n : Nat) (ht : ((ts.take n).all id && decide ((ts.take n).length = n) && decide ((l.take n).length = n) && (l.take n).all (fun o => plainOp o.op)) = true)
    (h : wpQuiet P ops (fun w' => ∃ x : Of F, w' = x.val) (fun a' => walkS P ops Q (ts.drop n) (l.drop n) F a' w) (l.take n) a) : walkS P ops Q ts l F a w := by
  simp only [Bool.and_eq_true, decide_eq_true_eq] at ht
  obtain ⟨⟨⟨h1, h2⟩, h3⟩, h4⟩ := ht
  exact steps_pure n ts l a h1 h2 (fun _ h => h) (pure_of_quiet _ _ h4 h) h3
theorem steps_want {F : World → Prop} {o : Oper} {ts : List Bool} {rest : List Oper} {a : Act} {w : World} {Q : Exit → Act → World → Prop} (hw : Region.wanted o (yielded ops a.tmps) = true)
    (h : ∀ K : Act → World → Prop, (∀ a w F', F' w → (∀ w, F' w → F w) → walkS P ops Q ts rest F' a w → K a w) → o.wp P a w K Q) : walkS P ops Q (false :: ts) (o :: rest) F a w := by
  unfold walkS
  rw [if_pos hw]
  exact h _ (fun a w F' h1 h2 h3 => ⟨F', h1, h2, h3⟩)
theorem steps_skip {F : World → Prop} {o : Oper} {ts : List Bool} {rest : List Oper} {a : Act} {w : World} {Q : Exit → Act → World → Prop} (hw : Region.wanted o (yielded ops a.tmps) = false) (h : walkS P ops Q ts rest F (a.put o.dst undef) w) : walkS P ops Q (false :: ts) (o :: rest) F a w := by
  unfold walkS
  rw [if_neg (by rw [hw]; decide)]
  exact h
theorem steps_nil {F : World → Prop} {a : Act} {w : World} {Q : Exit → Act → World → Prop} (h : Q .normal a w) : walkS P ops (NoPanic Q) [] [] F a w := NoPanic.normal h
end
theorem Of.ne {F : World → Prop} {w : World} (h : F w) : Nonempty (Of F) := ⟨⟨w, h⟩⟩
end Go.Proofs.Ytdaiondcaecklaa
