/- DERIVED LEMMAS, OF NO PROGRAM: a region that draws its order, whose head only reads, and whose last operations write, one behind the other, WHILE READS OF THE HEAD MAY STILL BE OUTSTANDING: if in every world of a class (in which the writes keep) each read yields what it yields in the text's order, one walk of the text's order serves every order. -/
import Derived.Test.YtnbdcdeidhhgoaaDoorCom
import Derived.Deep.RegionHeld3
namespace Go.Proofs.YtnbdcdeidhhgoaaDoor
set_option maxRecDepth 4000
set_option linter.unusedVariables false
set_option linter.unusedSimpArgs false
open Go

section
variable {P : Program} {ops : Array Oper} {md : Region.Mode} {C : World → Prop} {Q : Exit → Act → World → Prop}

/-- in every world of the class, in this state, the operation yields this and leaves the world alone -/
def YieldsC (P : Program) (ops : Array Oper) (C : World → Prop) (o : Oper) (v : Value) (a : Act) : Prop :=
  (Region.wanted o (yielded ops a.tmps) = true ∧ ∀ w, C w → ((execOp a.eval o).run P w = .ok (.value v) w ∨ ((execOp a.eval o).run P w = .ok .skip w ∧ v = undef))) ∨
  (Region.wanted o (yielded ops a.tmps) = false ∧ v = undef)

theorem YieldsC.op {i : Nat} {o : Oper} {v : Value} {a : Act} (hi : ops[i]? = some o) (hy : YieldsC P ops C o v a) {K : Act → World → Prop} {w : World} (hw : C w) (h : K (a.put o.dst v) w) : wpOp P ops Q i K a w := by
  unfold Go.wpOp
  simp only [hi]
  rcases hy with ⟨hwt, hv⟩ | ⟨hwt, rfl⟩
  · rcases hv w hw with hr | ⟨hr, hu⟩
    · simp only [hwt, if_true, Oper.wp, hr, Oper.upon]; exact .inl h
    · subst hu; simp only [hwt, if_true, Oper.wp, hr, Oper.upon]; exact .inl h
  · simp only [hwt, Bool.false_eq_true, if_false]; exact h

theorem YieldsC.of_same {o : Oper} {v : Value} {a a' : Act} (hy : YieldsC P ops C o v a) (he : execOp a'.eval o = execOp a.eval o)
    (hw : Region.wanted o (yielded ops a'.tmps) = Region.wanted o (yielded ops a.tmps)) : YieldsC P ops C o v a' := by
  unfold YieldsC at *
  rw [he, hw]
  exact hy

theorem wpOp_putC {j : Nat} {oi oj : Oper} {v : Value} (hj : ops[j]? = some oj) (hap : oi.apart ops oj = true)
    (hsi : ∀ cs b, oi.op ≠ .select cs b) (hsj : ∀ cs b, oj.op ≠ .select cs b)
    (hQ : ∀ c a w, ¬ Q (.panic c) a w) {K : Act → World → Prop} {a : Act} {w : World}
    (hy : YieldsC P ops C oi v a) (h : wpOp P ops Q j K (a.put oi.dst v) w) :
    wpOp P ops Q j (fun a' w' => YieldsC P ops C oi v a' ∧ K (a'.put oi.dst v) w') a w := by
  obtain ⟨h1, h2, h3⟩ := Oper.apart_spec hap
  have keep : ∀ (a : Act), YieldsC P ops C oi v a → ∀ u, YieldsC P ops C oi v (a.put oj.dst u) := fun a hy u =>
    hy.of_same (execOp_put oi hsi a oj.dst u h3) (wanted_put oi a oj.dst u h3)
  have keepD : ∀ d, YieldsC P ops C oi v { a with defers := d :: a.defers } := fun d => hy.of_same rfl rfl
  unfold wpOp at *
  simp only [hj] at *
  rw [wanted_put oj a oi.dst v h1] at h
  split
  · rename_i hw
    simp only [hw, if_true] at h
    rcases h with h | ⟨hasks, hlets⟩
    case inr => exact .inr ⟨by unfold Oper.asks at *; rw [execOp_put oj hsj a oi.dst v h1] at hasks; exact hasks, hlets⟩
    refine .inl ?_
    unfold Oper.wp at *
    rw [execOp_put oj hsj a oi.dst v h1] at h
    generalize (execOp a.eval oj).run P w = r at *
    cases r with
    | ok n w' =>
      cases n <;> simp only [Oper.upon] at h ⊢
      case value u => exact ⟨keep a hy u, by rw [← Act.put_comm a v u h2]; exact h⟩
      case skip => exact ⟨keep a hy _, by rw [← Act.put_comm a v undef h2]; exact h⟩
      case defer d =>
        refine ⟨keep _ (keepD d) _, ?_⟩
        rw [← Act.put_comm _ v undef h2, ← Act.put_defers]
        exact h
      case enter f args =>
        refine Calls.mono h fun e w'' he => ?_
        cases e with
        | returned u => exact ⟨keep a hy u, by rw [← Act.put_comm a v u h2]; exact he⟩
        | panicked c => exact absurd he (hQ _ _ _)
        | outgrown => exact he
      case row row args => exact Rows.mono h fun u w'' he => ⟨keep a hy u, by rw [← Act.put_comm a v u h2]; exact he⟩
    | halt x w' =>
      cases x <;> simp only [Oper.upon] at h ⊢
      case panic u => exact absurd h (hQ _ _ _)
  · rename_i hw
    simp only [hw] at h
    exact ⟨keep a hy _, by rw [← Act.put_comm a v undef h2]; exact h⟩

/-- whatever order is picked; every world on the way is of the class -/
def anyC (P : Program) (md : Region.Mode) (ops : Array Oper) (C : World → Prop) (Q : Exit → Act → World → Prop) : Nat → Array Bool → Act → World → Prop
  | 0, listed, a, w => Region.ready md ops listed = [] ∧ Q .normal a w
  | fuel + 1, listed, a, w => (Region.ready md ops listed = [] → Q .normal a w) ∧
    ∀ i ∈ Region.ready md ops listed, wpOp P ops Q i (fun a' w' => C w' ∧ anyC P md ops C Q fuel (listed.setIfInBounds i true) a' w') a w
theorem any_of_anyC : ∀ (fuel : Nat) (listed : Array Bool) (a : Act) (w : World), anyC P md ops C Q fuel listed a w → wpAny P md ops Q fuel listed a w
  | 0, _, _, _, h => h
  | fuel + 1, _, _, _, h => ⟨h.1, fun i hi => wpOp_mono (fun a' w' h' => any_of_anyC fuel _ a' w' h'.2) (h.2 i hi)⟩

theorem anyC_first {i : Nat} {oi : Oper} {v : Value} (hi : ops[i]? = some oi) (hsel : ∀ (j : Nat) (o : Oper) cs b, ops[j]? = some o → o.op ≠ .select cs b)
    (hQ : ∀ c a w, ¬ Q (.panic c) a w) :
    ∀ (fuel : Nat) (listed : Array Bool) (a : Act) (w : World), C w →
      (∀ j oj, ops[j]? = some oj → j ≠ i → listed.getD j true = false → (∀ e ∈ oj.after, Region.binds md e = true → e.on ≠ i) → oi.apart ops oj = true) →
      i ∈ Region.ready md ops listed → YieldsC P ops C oi v a →
      anyC P md ops C Q fuel (listed.setIfInBounds i true) (a.put oi.dst v) w → anyC P md ops C Q (fuel + 1) listed a w := by
  intro fuel
  induction fuel with
  | zero =>
    intro listed a w hC _ hr hy H
    refine ⟨fun h => (by rw [h] at hr; cases hr), fun j hj => ?_⟩
    by_cases hji : j = i
    · subst hji; exact hy.op hi hC ⟨hC, H⟩
    · have := ready_mono hj hji
      rw [H.1] at this
      cases this
  | succ fuel ih =>
    intro listed a w hC hfree hr hy H
    refine ⟨fun h => (by rw [h] at hr; cases hr), fun j hj => ?_⟩
    by_cases hji : j = i
    · subst hji; exact hy.op hi hC ⟨hC, H⟩
    · have h1 := H.2 j (ready_mono hj hji)
      obtain ⟨hjun, oj, hoj, hall⟩ := mem_ready.1 hj
      have hnot : ∀ e ∈ oj.after, Region.binds md e = true → e.on ≠ i := fun e he hb heq => by
        have h1 := hall e he hb
        have h0 := (mem_ready.1 hr).1
        rw [heq] at h1
        rcases Nat.lt_or_ge i listed.size with h' | h'
        · simp [h'] at h0 h1; rw [h0] at h1; cases h1
        · simp [Array.getElem?_eq_none h'] at h1
      have h2 := wpOp_putC hoj (hfree j oj hoj hji hjun hnot) (fun cs b => hsel i oi cs b hi) (fun cs b => hsel j oj cs b hoj) hQ hy h1
      have hfree' : ∀ k ok, ops[k]? = some ok → k ≠ i → (listed.setIfInBounds j true).getD k true = false →
          (∀ e ∈ ok.after, Region.binds md e = true → e.on ≠ i) → oi.apart ops ok = true := fun k ok hk hki hun hno => by
        refine hfree k ok hk hki ?_ hno
        by_cases hjk : j = k
        · subst hjk; exact hjun
        · rw [getD_set_ne true hjk] at hun; exact hun
      refine wpOp_mono (fun a' w' h3 => ⟨h3.2.1, ih (listed.setIfInBounds j true) a' w' h3.2.1 hfree' (ready_mono hr (Ne.symm hji)) h3.1 ?_⟩) h2
      rw [Array.setIfInBounds_comm _ _ hji]
      exact h3.2.2

/-- the last operations, one behind the other, each keeping to the class -/
def listC (P : Program) (ops : Array Oper) (C : World → Prop) (Q : Exit → Act → World → Prop) : List Oper → Act → World → Prop
  | [], a, w => Q .normal a w
  | o :: rest, a, w => if Region.wanted o (yielded ops a.tmps) then o.wp P a w (fun a' w' => C w' ∧ listC P ops C Q rest a' w') Q else listC P ops C Q rest (a.put o.dst undef) w
theorem listC_nil {a : Act} {w : World} (h : Q .normal a w) : listC P ops C Q [] a w := h
theorem listC_step {o : Oper} {rest : List Oper} {a : Act} {w : World} (hg : o.guard = none) (h : ∀ K : Act → World → Prop, (∀ a w, C w → listC P ops C Q rest a w → K a w) → o.wp P a w K Q) : listC P ops C Q (o :: rest) a w := by
  unfold listC
  rw [if_pos (by simp [Region.wanted, hg])]
  exact h _ (fun a w h1 h2 => ⟨h1, h2⟩)

theorem listC_want {o : Oper} {rest : List Oper} {a : Act} {w : World} (hw : Region.wanted o (yielded ops a.tmps) = true) (h : ∀ K : Act → World → Prop, (∀ a w, C w → listC P ops C Q rest a w → K a w) → o.wp P a w K Q) : listC P ops C Q (o :: rest) a w := by
  unfold listC
  rw [if_pos hw]
  exact h _ (fun a w h1 h2 => ⟨h1, h2⟩)
theorem listC_skip {o : Oper} {rest : List Oper} {a : Act} {w : World} (hw : Region.wanted o (yielded ops a.tmps) = false) (h : listC P ops C Q rest (a.put o.dst undef) w) : listC P ops C Q (o :: rest) a w := by
  unfold listC
  rw [if_neg (by rw [hw]; decide)]
  exact h
theorem anyC_seq : ∀ (l : List Oper) (k : Nat) (listed : Array Bool) (a : Act) (w : World), C w → (∀ j, l[j]? = ops[k + j]?) →
    Region.seqB md ops l.length k listed = true → listC P ops C Q l a w → anyC P md ops C Q l.length listed a w
  | [], _, _, _, _, _, _, hB, h => ⟨by simpa [Region.seqB] using hB, h⟩
  | o :: l, k, listed, a, w, hC, hl, hB, h => by
    have h0 : ops[k]? = some o := by simpa using (hl 0).symm
    simp only [List.length_cons, Region.seqB, Bool.and_eq_true, decide_eq_true_eq] at hB
    refine ⟨fun h1 => (by rw [hB.1] at h1; cases h1), fun i hi => ?_⟩
    rw [hB.1] at hi
    have hik : i = k := by simpa using hi
    subst hik
    have hl' : ∀ j, l[j]? = ops[i + 1 + j]? := fun j => by have := hl (j + 1); simpa [Nat.add_assoc, Nat.add_comm 1 j] using this
    unfold wpOp
    simp only [h0]
    unfold listC at h
    split
    · rename_i hw
      rw [if_pos hw] at h
      exact .inl (Oper.wp_mono (fun a' w' h' => ⟨h'.1, anyC_seq l (i + 1) _ a' w' h'.1 hl' hB.2 h'.2⟩) h)
    · rename_i hw
      rw [if_neg hw] at h
      exact ⟨hC, anyC_seq l (i + 1) _ _ _ hC hl' hB.2 h⟩

/-- the head, each operation yielding one value in the class -/
def pureC (P : Program) (ops : Array Oper) (C : World → Prop) (L : Act → Prop) : List Oper → Act → Prop
  | [], a => L a
  | o :: rest, a => ∃ v, YieldsC P ops C o v a ∧ pureC P ops C L rest (a.put o.dst v)

theorem anyC_lex {g n : Nat} (hsel : Region.noSelect ops = true) (hQ : ∀ c a w, ¬ Q (.panic c) a w) {w : World} (hC : C w) {L : Act → Prop} (hL : ∀ a listed, Region.seqB md ops g n listed = true → L a → anyC P md ops C Q g listed a w) :
    ∀ (l : List Oper) (k : Nat) (listed : Array Bool) (a : Act), (∀ j, j < l.length → l[j]? = ops[k + j]?) → k + l.length = n →
    Region.lexHead md ops g l.length k listed = true → pureC P ops C L l a → anyC P md ops C Q (l.length + g) listed a w
  | [], k, listed, a, _, hk, hB, h => by
    have : k = n := by simpa using hk
    subst this
    simp only [List.length_nil, Nat.zero_add]
    exact hL a listed (by simpa [Region.lexHead] using hB) h
  | o :: l, k, listed, a, hl, hk, hB, h => by
    have h0 : ops[k]? = some o := by simpa using (hl 0 (by simp)).symm
    simp only [List.length_cons, Region.lexHead, Bool.and_eq_true] at hB
    obtain ⟨⟨hr, hf⟩, hB'⟩ := hB
    obtain ⟨v, hy, hK⟩ := h
    have e : (o :: l).length + g = (l.length + g) + 1 := by simp only [List.length_cons]; omega
    rw [e]
    exact anyC_first h0 (Region.noSelect_spec hsel) hQ (l.length + g) listed a w hC (Region.free_spec h0 hf) (by simpa using hr) hy
      (anyC_lex hsel hQ hC hL l (k + 1) _ _ (fun j hj => by have := hl (j + 1) (by simp; omega); simpa [Nat.add_assoc, Nat.add_comm 1 j] using this) (by simp only [List.length_cons] at hk; omega) hB' hK)

/-- may the head come first, and is the rest then in one forced order? -/
def mixB (ops : Array Oper) (n : Nat) : Bool := Region.noSelect ops && decide (n ≤ ops.size) && Region.lexHead .any ops (ops.size - n) n 0 (Array.replicate ops.size false)

theorem region_mix {id : Nat} {Q : Exit → Act → World → Prop} {a : Act} {w : World} {l : List Oper} (n : Nat) (C : World → Prop) (hm : P.follows .mixedOrders = true) (hB : mixB l.toArray n = true) (hC : C w.drew)
    (h : pureC P l.toArray C (fun a' => listC P l.toArray C (NoPanic Q) (l.drop n) a' w.drew) (l.take n) a) : (Code.region id l.toArray true).wp P Q a w := by
  simp only [mixB, Bool.and_eq_true, decide_eq_true_eq] at hB
  obtain ⟨⟨hsel, hn⟩, hlex⟩ := hB
  have hn' : n ≤ l.length := by simpa using hn
  have htl : (l.take n).length = n := by simp; omega
  have hdl : (l.drop n).length = l.toArray.size - n := by simp
  refine wp_region_noPanic (wp_region_any hm (any_of_anyC (C := C) _ _ _ _ ?_))
  have H := anyC_lex (md := .any) (Q := NoPanic Q) (g := l.toArray.size - n) (n := n) hsel (fun c a w hh => hh) hC (L := fun a' => listC P l.toArray C (NoPanic Q) (l.drop n) a' w.drew)
    (fun a' listed hsq hq => by
      have := anyC_seq (md := .any) (P := P) (ops := l.toArray) (C := C) (Q := NoPanic Q) (l.drop n) n listed a' w.drew hC (fun j => by simp) (by rw [hdl]; exact hsq) hq
      rwa [hdl] at this)
    (l.take n) 0 (Array.replicate l.toArray.size false) a (fun j hj => by
      have hj' : j < n := by rw [htl] at hj; exact hj
      simp [hj']) (by simpa using htl) (by rw [htl]; exact hlex) h
  rw [htl] at H
  have e : n + (l.toArray.size - n) = l.toArray.size := by simp; omega
  rw [e] at H
  exact H

/-- operations that yield a value, and call nothing -/
def plainOp : Op → Bool
  | .move _ | .assign _ | .pick .. | .load .. | .nilCheck _ | .binOp .. | .unOp .. | .convert .. | .fieldAddr .. | .field .. | .indexAddr .. | .index .. | .lookup .. | .extract .. | .build .. | .slice .. => true
  | .call c => match c.callee with
    | .builtin .len => true
    | _ => false
  | _ => false
def IsV (P : Program) (m : Sem Next) : Prop := ∀ (w w' : World) (n : Next), m.run P w = .ok n w' → ∃ u, n = .value u
theorem isV_pure (v : Value) : IsV P (pure (Next.value v)) := fun w w' n h => by simp only [Sem.run_pure] at h; injection h with h1 h2; exact ⟨_, h1.symm⟩
theorem isV_bind {α : Type} {s : Sem α} {f : α → Sem Next} (h : ∀ x, IsV P (f x)) : IsV P (s >>= f) := fun w w' n hr => by
  simp only [Sem.run_bind] at hr
  cases hs : s.run P w with
  | ok u w1 => rw [hs] at hr; simp only [Result.andThen] at hr; exact h u _ _ _ hr
  | halt x w1 => rw [hs] at hr; simp [Result.andThen] at hr
theorem isV_halt (x : Halt) : IsV P (.halt x : Sem Next) := fun w w' n h => by simp [Sem.run] at h
theorem isV_nil : IsV P (runtimePanic RuntimeError.nilDeref) := isV_bind fun p => isV_halt _
theorem plain_isV {ρ : Operand → Value} {o : Oper} (hp : plainOp o.op = true) : IsV P (execOp ρ o) := by
  unfold execOp
  cases ho : o.op <;> rw [ho] at hp <;> simp only [plainOp, Bool.false_eq_true] at hp <;> simp only []
  case call c =>
    have hc : c.callee = .builtin .len := by
      cases hcc : c.callee with
      | builtin b => rw [hcc] at hp; cases b <;> first | rfl | cases hp
      | invoke _ _ => rw [hcc] at hp; cases hp
      | value _ => rw [hcc] at hp; cases hp
    intro w w' n h
    simp only [resolve, hc, invoke, builtin, Sem.run_bind, Sem.run_pure, Result.andThen_ok] at h
    cases hs : (Builtin.len_ c.argTypes o.type (c.args.map ρ)).run P w with
    | ok u w1 => rw [hs] at h; simp only [Result.andThen] at h; injection h with h1 h2; exact ⟨_, h1.symm⟩
    | halt x w1 => rw [hs] at h; simp [Result.andThen] at h
  all_goals first
    | exact isV_bind fun _ => isV_pure _
    | exact isV_pure _
    | skip
  · split
    · exact isV_nil
    · exact isV_nil
    · exact isV_nil
    · split
      · exact isV_nil
      · refine isV_bind fun _ => isV_bind fun _ => ?_
        split
        · exact isV_bind fun _ => isV_pure _
        · exact isV_pure _
      · exact isV_pure _
    · exact isV_pure _
theorem plain_value {ρ : Operand → Value} {o : Oper} (hp : plainOp o.op = true) {w w' : World} {n : Next} (h : (execOp ρ o).run P w = .ok n w') : ∃ u, n = .value u := plain_isV hp w w' n h
theorem pure_of_quiet {L : Act → Prop} : ∀ (l : List Oper) (a : Act), l.all (fun o => plainOp o.op) = true → wpQuiet P ops C L l a → pureC P ops C L l a
  | [], _, _, h => h
  | o :: l, a, hp, h => by
    simp only [List.all_cons, Bool.and_eq_true] at hp
    unfold wpQuiet at h
    split at h
    · rename_i hw
      obtain ⟨v, h1, h2⟩ := h
      refine ⟨v, .inl ⟨hw, fun w hC => ?_⟩, pure_of_quiet l _ hp.2 h2⟩
      have h3 := h1 w hC
      unfold Oper.quietAt at h3
      cases hr : (execOp a.eval o).run P w with
      | ok n w' =>
        obtain ⟨u, rfl⟩ := plain_value hp.1 hr
        rw [hr] at h3
        simp only [Oper.quietUpon] at h3
        obtain ⟨rfl, rfl⟩ := h3
        exact .inl rfl
      | halt x w' => rw [hr] at h3; simp only [Oper.quietUpon] at h3
    · rename_i hw
      exact ⟨undef, .inr ⟨by simpa using hw, rfl⟩, pure_of_quiet l _ hp.2 h⟩
/-- **the head by the quiet walk, the rest one by one** -/
theorem region_mixed {id : Nat} {Q : Exit → Act → World → Prop} {a : Act} {w : World} {l : List Oper} (n : Nat) (C : World → Prop) (hm : P.follows .mixedOrders = true) (hB : mixB l.toArray n = true) (hp : (l.take n).all (fun o => plainOp o.op) = true) (hC : C w.drew)
    (h : wpQuiet P l.toArray C (fun a' => listC P l.toArray C (NoPanic Q) (l.drop n) a' w.drew) (l.take n) a) : (Code.region id l.toArray true).wp P Q a w :=
  region_mix n C hm hB hC (pure_of_quiet _ _ hp h)

/-! ### reads and writes mixed in whatever way: a tag an operation: true: it only reads; false: it comes alone -/
def walkC (P : Program) (ops : Array Oper) (C : World → Prop) (Q : Exit → Act → World → Prop) : List Bool → List Oper → Act → World → Prop
  | true :: ts, o :: l, a, w => ∃ v, YieldsC P ops C o v a ∧ walkC P ops C Q ts l (a.put o.dst v) w
  | false :: ts, o :: l, a, w => if Region.wanted o (yielded ops a.tmps) then o.wp P a w (fun a' w' => C w' ∧ walkC P ops C Q ts l a' w') Q else walkC P ops C Q ts l (a.put o.dst undef) w
  | [], [], a, w => Q .normal a w
  | _, _, _, _ => False
def tagB (md : Region.Mode) (ops : Array Oper) : List Bool → Nat → Array Bool → Bool
  | [], _, listed => (Region.ready md ops listed).isEmpty
  | true :: ts, k, listed => (Region.ready md ops listed).contains k && Region.free md ops listed k && tagB md ops ts (k + 1) (listed.setIfInBounds k true)
  | false :: ts, k, listed => decide (Region.ready md ops listed = [k]) && tagB md ops ts (k + 1) (listed.setIfInBounds k true)
theorem anyC_walk (hsel : Region.noSelect ops = true) (hQ : ∀ c a w, ¬ Q (.panic c) a w) : ∀ (ts : List Bool) (l : List Oper) (k : Nat) (listed : Array Bool) (a : Act) (w : World), C w → (∀ j, l[j]? = ops[k + j]?) →
    tagB md ops ts k listed = true → walkC P ops C Q ts l a w → anyC P md ops C Q l.length listed a w
  | [], [], _, _, _, _, _, _, hB, h => ⟨by simpa [tagB] using hB, h⟩
  | [], _ :: _, _, _, _, _, _, _, _, h => h.elim
  | true :: _, [], _, _, _, _, _, _, _, h => h.elim
  | false :: _, [], _, _, _, _, _, _, _, h => h.elim
  | true :: ts, o :: l, k, listed, a, w, hC, hl, hB, h => by
    have h0 : ops[k]? = some o := by simpa using (hl 0).symm
    simp only [tagB, Bool.and_eq_true] at hB
    obtain ⟨⟨hr, hf⟩, hB'⟩ := hB
    obtain ⟨v, hy, hK⟩ := h
    have hl' : ∀ j, l[j]? = ops[k + 1 + j]? := fun j => by have := hl (j + 1); simpa [Nat.add_assoc, Nat.add_comm 1 j] using this
    exact anyC_first h0 (Region.noSelect_spec hsel) hQ l.length listed a w hC (Region.free_spec h0 hf) (by simpa using hr) hy (anyC_walk hsel hQ ts l (k + 1) _ _ _ hC hl' hB' hK)
  | false :: ts, o :: l, k, listed, a, w, hC, hl, hB, h => by
    have h0 : ops[k]? = some o := by simpa using (hl 0).symm
    simp only [tagB, Bool.and_eq_true, decide_eq_true_eq] at hB
    refine ⟨fun h1 => (by rw [hB.1] at h1; cases h1), fun i hi => ?_⟩
    rw [hB.1] at hi
    have hik : i = k := by simpa using hi
    subst hik
    have hl' : ∀ j, l[j]? = ops[i + 1 + j]? := fun j => by have := hl (j + 1); simpa [Nat.add_assoc, Nat.add_comm 1 j] using this
    unfold wpOp
    simp only [h0]
    unfold walkC at h
    split
    · rename_i hw
      rw [if_pos hw] at h
      exact .inl (Oper.wp_mono (fun a' w' h' => ⟨h'.1, anyC_walk hsel hQ ts l (i + 1) _ a' w' h'.1 hl' hB.2 h'.2⟩) h)
    · rename_i hw
      rw [if_neg hw] at h
      exact ⟨hC, anyC_walk hsel hQ ts l (i + 1) _ _ _ hC hl' hB.2 h⟩
theorem walk_pure {L : Act → Prop} {w : World} {Q : Exit → Act → World → Prop} : ∀ (n : Nat) (ts : List Bool) (l : List Oper) (a : Act), (ts.take n).all id = true → (ts.take n).length = n → (∀ a', L a' → walkC P ops C Q (ts.drop n) (l.drop n) a' w) → pureC P ops C L (l.take n) a → (l.take n).length = n → walkC P ops C Q ts l a w
  | 0, ts, l, a, _, _, hL, h, _ => hL a h
  | n + 1, [], l, a, _, hn, _, _, _ => by simp at hn
  | n + 1, ts, [], a, _, _, _, _, hn => by simp at hn
  | n + 1, t :: ts, o :: l, a, ht, hn, hL, h, hn' => by
    simp only [List.take_succ_cons, List.all_cons, id, Bool.and_eq_true] at ht
    obtain ⟨rfl, ht⟩ := ht
    obtain ⟨v, hy, hK⟩ := h
    exact ⟨v, hy, walk_pure n ts l _ ht (by simpa using hn) hL hK (by simpa using hn')⟩
/-- the next n operations by the quiet walk -/
theorem walk_quiet {a : Act} {w : World} {Q : Exit → Act → World → Prop} {ts : List Bool} {l : List Oper} (n : Nat) (ht : ((ts.take n).all id && decide ((ts.take n).length = n) && decide ((l.take n).length = n) && (l.take n).all (fun o => plainOp o.op)) = true)
    (h : wpQuiet P ops C (fun a' => walkC P ops C Q (ts.drop n) (l.drop n) a' w) (l.take n) a) : walkC P ops C Q ts l a w := by
  simp only [Bool.and_eq_true, decide_eq_true_eq] at ht
  obtain ⟨⟨⟨h1, h2⟩, h3⟩, h4⟩ := ht
  exact walk_pure n ts l a h1 h2 (fun _ h => h) (pure_of_quiet _ _ h4 h) h3
theorem walk_want {o : Oper} {ts : List Bool} {rest : List Oper} {a : Act} {w : World} {Q : Exit → Act → World → Prop} (hw : Region.wanted o (yielded ops a.tmps) = true) (h : ∀ K : Act → World → Prop, (∀ a w, C w → walkC P ops C Q ts rest a w → K a w) → o.wp P a w K Q) : walkC P ops C Q (false :: ts) (o :: rest) a w := by
  unfold walkC
  rw [if_pos hw]
  exact h _ (fun a w h1 h2 => ⟨h1, h2⟩)
theorem walk_skip {o : Oper} {ts : List Bool} {rest : List Oper} {a : Act} {w : World} {Q : Exit → Act → World → Prop} (hw : Region.wanted o (yielded ops a.tmps) = false) (h : walkC P ops C Q ts rest (a.put o.dst undef) w) : walkC P ops C Q (false :: ts) (o :: rest) a w := by
  unfold walkC
  rw [if_neg (by rw [hw]; decide)]
  exact h
theorem walk_nil {a : Act} {w : World} {Q : Exit → Act → World → Prop} (h : Q .normal a w) : walkC P ops C (NoPanic Q) [] [] a w := NoPanic.normal h
/-- **a region that draws its order, tagged** -/
theorem region_tags {id : Nat} {Q : Exit → Act → World → Prop} {a : Act} {w : World} {l : List Oper} (ts : List Bool) (C : World → Prop) (hm : P.follows .mixedOrders = true)
    (hB : (Region.noSelect l.toArray && tagB .any l.toArray ts 0 (Array.replicate l.toArray.size false)) = true) (hC : C w.drew)
    (h : walkC P l.toArray C (NoPanic Q) ts l a w.drew) : (Code.region id l.toArray true).wp P Q a w := by
  simp only [Bool.and_eq_true] at hB
  refine wp_region_noPanic (wp_region_any hm (any_of_anyC (C := C) _ _ _ _ ?_))
  have := anyC_walk (md := .any) (Q := NoPanic Q) hB.1 (fun c a w hh => hh) ts l 0 _ a w.drew hC (fun j => by simp) hB.2 h
  simpa using this

/-! ### .. in an order of one's own -/
def ordB (md : Region.Mode) (ops : Array Oper) : List Nat → List Bool → Array Bool → Bool
  | [], [], listed => (Region.ready md ops listed).isEmpty
  | k :: ks, true :: ts, listed => decide (k < ops.size) && (Region.ready md ops listed).contains k && Region.free md ops listed k && ordB md ops ks ts (listed.setIfInBounds k true)
  | k :: ks, false :: ts, listed => decide (k < ops.size) && decide (Region.ready md ops listed = [k]) && ordB md ops ks ts (listed.setIfInBounds k true)
  | _, _, _ => false
theorem anyC_ord (hsel : Region.noSelect ops = true) (hQ : ∀ c a w, ¬ Q (.panic c) a w) : ∀ (ks : List Nat) (ts : List Bool) (listed : Array Bool) (a : Act) (w : World), C w →
    ordB md ops ks ts listed = true → walkC P ops C Q ts (ks.filterMap (ops[·]?)) a w → anyC P md ops C Q ks.length listed a w
  | [], [], _, _, _, _, hB, h => ⟨by simpa [ordB] using hB, h⟩
  | [], _ :: _, _, _, _, _, hB, _ => by simp [ordB] at hB
  | _ :: _, [], _, _, _, _, hB, _ => by simp [ordB] at hB
  | k :: ks, true :: ts, listed, a, w, hC, hB, h => by
    simp only [ordB, Bool.and_eq_true, decide_eq_true_eq] at hB
    obtain ⟨⟨⟨hk, hr⟩, hf⟩, hB'⟩ := hB
    have h0 : ops[k]? = some ops[k] := Array.getElem?_eq_getElem hk
    rw [List.filterMap_cons_some h0] at h
    obtain ⟨v, hy, hK⟩ := h
    exact anyC_first h0 (Region.noSelect_spec hsel) hQ ks.length listed a w hC (Region.free_spec h0 hf) (by simpa using hr) hy (anyC_ord hsel hQ ks ts _ _ _ hC hB' hK)
  | k :: ks, false :: ts, listed, a, w, hC, hB, h => by
    simp only [ordB, Bool.and_eq_true, decide_eq_true_eq] at hB
    obtain ⟨⟨hk, hr⟩, hB'⟩ := hB
    have h0 : ops[k]? = some ops[k] := Array.getElem?_eq_getElem hk
    rw [List.filterMap_cons_some h0] at h
    refine ⟨fun h1 => (by rw [hr] at h1; cases h1), fun i hi => ?_⟩
    rw [hr] at hi
    have hik : i = k := by simpa using hi
    subst hik
    unfold wpOp
    simp only [h0]
    unfold walkC at h
    split
    · rename_i hw
      rw [if_pos hw] at h
      exact .inl (Oper.wp_mono (fun a' w' h' => ⟨h'.1, anyC_ord hsel hQ ks ts _ a' w' h'.1 hB' h'.2⟩) h)
    · rename_i hw
      rw [if_neg hw] at h
      exact ⟨hC, anyC_ord hsel hQ ks ts _ _ _ hC hB' h⟩
/-- **a region that draws its order, in an order of one's own, tagged** -/
theorem region_order {id : Nat} {Q : Exit → Act → World → Prop} {a : Act} {w : World} {l : List Oper} (ks : List Nat) (ts : List Bool) (C : World → Prop) (hm : P.follows .mixedOrders = true)
    (hB : (Region.noSelect l.toArray && decide (ks.length = l.toArray.size) && ordB .any l.toArray ks ts (Array.replicate l.toArray.size false)) = true) (hC : C w.drew)
    (h : walkC P l.toArray C (NoPanic Q) ts (ks.filterMap (l[·]?)) a w.drew) : (Code.region id l.toArray true).wp P Q a w := by
  simp only [Bool.and_eq_true, decide_eq_true_eq] at hB
  obtain ⟨⟨h1, h2⟩, h3⟩ := hB
  refine wp_region_noPanic (wp_region_any hm (any_of_anyC (C := C) _ _ _ _ ?_))
  have := anyC_ord (md := .any) (Q := NoPanic Q) h1 (fun c a w hh => hh) ks ts _ a w.drew hC h3 (by simpa using h)
  rwa [h2] at this
end
/-- the worlds of which F holds -/
structure Of (F : World → Prop) where
  val : World
  property : F val
theorem trueOf_ne {W : World} : Nonempty (Of (fun _ : World => True)) := ⟨⟨W, trivial⟩⟩
theorem trueOf (w : World) : ∃ x : Of (fun _ : World => True), w = x.val := ⟨⟨w, trivial⟩, rfl⟩
end Go.Proofs.YtnbdcdeidhhgoaaDoor
