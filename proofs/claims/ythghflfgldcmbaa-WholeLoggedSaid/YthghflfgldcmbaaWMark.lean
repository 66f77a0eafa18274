/- Plain law of the log: which mark is had behind a crash. -/
import Derived.Test.YthghflfgldcmbaaWPlain
namespace Go.Proofs.Ythghflfgldcmbaa
set_option maxRecDepth 4000
set_option linter.unusedVariables false
set_option linter.unusedSimpArgs false
open Go Go.RowKit
theorem lk_none {f : Nat → List UInt8} (h : (lk f).1 0 = 0) : ¬ okM (f 0) 0 ∧ ¬ okM (f 1) 1 ∧ (lk f).1 = zeroM := by
  rcases look_sel (f 0) (f 1) with ⟨h1, h2, h3⟩ | ⟨h1, h2, h3⟩ | ⟨h1, h2, h3⟩
  · have e : (lk f).1 = (readM (f 1)).1 := h3
    rw [e] at h
    have := h1.2.1
    omega
  · have e : (lk f).1 = (readM (f 0)).1 := h3
    rw [e] at h
    have := h1.2.1
    omega
  · exact ⟨h1, h2, h3⟩
theorem lk_new0 {f : Nat → List UInt8} {k : Nat} {b : List UInt8} (hk : k < 2) (h : (lk f).1 0 = 0) (hb : okM b k) : (lk (upd f k b)).1 = (readM b).1 := by
  obtain ⟨n0, n1, _⟩ := lk_none h
  rcases (show k = 0 ∨ k = 1 by omega) with rfl | rfl
  · have e0 : upd f 0 b 0 = b := rfl
    have e1 : upd f 0 b 1 = f 1 := rfl
    unfold lk
    rw [e0, e1]
    rcases look_sel b (f 1) with ⟨a, c, d⟩ | ⟨a, c, d⟩ | ⟨a, c, d⟩
    · exact absurd a n1
    · exact d
    · exact absurd hb a
  · have e0 : upd f 1 b 0 = f 0 := rfl
    have e1 : upd f 1 b 1 = b := rfl
    unfold lk
    rw [e0, e1]
    rcases look_sel (f 0) b with ⟨a, c, d⟩ | ⟨a, c, d⟩ | ⟨a, c, d⟩
    · exact d
    · exact absurd a n0
    · exact absurd hb c
theorem lk_old0 {f : Nat → List UInt8} {k : Nat} {b : List UInt8} (hk : k < 2) (h : (lk f).1 0 = 0) (hb : ¬ okM b k) : (lk (upd f k b)).1 = (lk f).1 := by
  obtain ⟨n0, n1, hz⟩ := lk_none h
  rw [hz]
  rcases (show k = 0 ∨ k = 1 by omega) with rfl | rfl
  · have e0 : upd f 0 b 0 = b := rfl
    have e1 : upd f 0 b 1 = f 1 := rfl
    unfold lk
    rw [e0, e1]
    rcases look_sel b (f 1) with ⟨a, c, d⟩ | ⟨a, c, d⟩ | ⟨a, c, d⟩
    · exact absurd a n1
    · exact absurd a hb
    · exact d
  · have e0 : upd f 1 b 0 = f 0 := rfl
    have e1 : upd f 1 b 1 = b := rfl
    unfold lk
    rw [e0, e1]
    rcases look_sel (f 0) b with ⟨a, c, d⟩ | ⟨a, c, d⟩ | ⟨a, c, d⟩
    · exact absurd a hb
    · exact absurd a n0
    · exact d
theorem lk_new' {f : Nat → List UInt8} {k : Nat} {b : List UInt8} (hk : k < 2) (hb : okM b k) (hp : 0 < (lk f).1 0 → (lk f).1 0 % 2 ≠ k ∧ (lk f).1 0 < (readM b).1 0) : (lk (upd f k b)).1 = (readM b).1 := by
  rcases Nat.eq_zero_or_pos ((lk f).1 0) with h | h
  · exact lk_new0 hk h hb
  · exact lk_new hk h (hp h).1 hb (hp h).2
theorem lk_old' {f : Nat → List UInt8} {k : Nat} {b : List UInt8} (hk : k < 2) (hb : ¬ okM b k) (hp : 0 < (lk f).1 0 → (lk f).1 0 % 2 ≠ k) : (lk (upd f k b)).1 = (lk f).1 := by
  rcases Nat.eq_zero_or_pos ((lk f).1 0) with h | h
  · exact lk_old0 hk h hb
  · exact lk_old hk h (hp h) hb
theorem seq_top {f : Nat → List UInt8} (h : 0 < (lk f).1 0) : (lk f).1 0 ≤ (lk f).2 := by
  obtain ⟨⟨h1, _, _⟩, h2⟩ := lk_home h
  have h3 := (lk_top f (lk f).2).1 (Nat.le_refl _) ((lk f).1 0 % 2) (by omega)
  have h4 : (readM (f ((lk f).1 0 % 2))).1 0 = numU (f ((lk f).1 0 % 2)) 0 8 := by
    unfold readM at h1 ⊢
    split at h1
    · rename_i h; rw [if_pos h]; rfl
    · cases h1
  rw [← h2] at h4
  omega
theorem nextQ_all (L : (Nat → Nat) × Nat) : L.2 < nextQ L ∧ nextQ L ≤ L.2 + 2 ∧ (0 < L.1 0 → L.1 0 % 2 ≠ nextQ L % 2) := by
  unfold nextQ
  split
  · rename_i h2; exact ⟨by omega, by omega, fun _ => by omega⟩
  · rename_i h2
    refine ⟨by omega, by omega, fun h => ?_⟩
    have : ¬ (L.2 + 1) % 2 = L.1 0 % 2 := fun e => h2 ⟨h, e⟩
    omega
theorem newM_lt {q : Nat} {ws : List Nat} (hq : q < 18446744073709551616) (hw : ∀ x ∈ ws, x < 18446744073709551616) (i : Nat) : newM q ws i < 18446744073709551616 := by
  unfold newM
  split
  · exact hq
  · rw [List.getD_eq_getElem?_getD]
    by_cases hx : i - 1 < ws.length
    · rw [List.getElem?_eq_getElem hx]; exact hw _ (List.getElem_mem hx)
    · rw [List.getElem?_eq_none (by omega)]; exact (by decide : (0 : Nat) < 18446744073709551616)
/-- one of the marks' sectors is the new one, torn, or as it was -/
theorem mark_after {f : Nat → List UInt8} {T q k : Nat} {ws : List Nat} {b : List UInt8} (htop : (lk f).2 ≤ T) (hT : T + 2 < 256) (hlen : ∀ i, i < 2 → (f i).length = 128) (hq : nextQ (lk f) = q) (hk : q % 2 = k) (hw : ∀ x ∈ ws, x < 18446744073709551616)
    (hb : b = bytesM (newM q ws) ∨ ∃ a, a ≤ 128 ∧ b = torn (newM q ws) (f k) a) :
    b.length = 128 ∧ (lk (upd f k b)).2 ≤ T + 2 ∧ (b = bytesM (newM q ws) → ∀ i, i < 7 → (lk (upd f k b)).1 i = newM q ws i) ∧ ((∀ i, i < 7 → (lk (upd f k b)).1 i = newM q ws i) ∨ (lk (upd f k b)).1 = (lk f).1) := by
  obtain ⟨q1, q2, q3⟩ := nextQ_all (lk f)
  rw [hq] at q1 q2 q3
  have hN0 : newM q ws 0 = q := rfl
  have hN := newM_lt (q := q) (ws := ws) (by omega) hw
  have hk2 : k < 2 := by omega
  have hold := (lk_top f T).1 htop
  have hlb : b.length = 128 := by
    rcases hb with rfl | ⟨a, ha, rfl⟩
    · exact bytesM_length _
    · exact torn_length _ _ ha (hlen k hk2)
  have hnb : numU b 0 8 ≤ T + 2 ∧ numU b 56 8 ≤ T + 2 := by
    have s0 := bytesM_sm (newM q ws) (k := 0) (by omega) (by rw [hN0]; omega)
    have s1 := bytesM_sm (newM q ws) (k := 1) (by omega) (by rw [hN0]; omega)
    rw [hN0] at s0 s1
    rw [show 56 * 0 = 0 from rfl] at s0
    rw [show 56 * 1 = 56 from rfl] at s1
    have ho := hold k hk2
    rcases hb with rfl | ⟨a, ha, rfl⟩
    · rw [s0.num (by omega), s1.num (by omega)]; omega
    · have t0 := torn_sm (newM q ws) (f k) ha (by rw [hN0]; exact s0) (Sm.of (by omega : numU (f k) 0 8 < 256))
      have t1 := torn_sm (newM q ws) (f k) ha (by rw [hN0]; exact s1) (Sm.of (by omega : numU (f k) 56 8 < 256))
      rw [hN0] at t0 t1
      rw [t0.num (by split <;> omega), t1.num (by split <;> omega)]
      constructor <;> split <;> omega
  have htop' : (lk (upd f k b)).2 ≤ T + 2 := by
    rw [lk_top]
    intro i hi
    unfold upd
    split
    · exact hnb
    · have := hold i hi; omega
  have new : okM b k → (∀ i, i < 7 → (readM b).1 i = newM q ws i) → ∀ i, i < 7 → (lk (upd f k b)).1 i = newM q ws i := by
    intro h1 h2 i hi
    rw [lk_new' hk2 h1 (fun hp => ⟨by rw [← hk]; exact q3 hp, by rw [h2 0 (by omega), hN0]; have := seq_top hp; omega⟩)]
    exact h2 i hi
  have full : b = bytesM (newM q ws) → ∀ i, i < 7 → (lk (upd f k b)).1 i = newM q ws i := by
    intro e
    have hr := bytesM_read (newM q ws) (by rw [hN0]; omega) (hN 0)
    have h2 : ∀ i, i < 7 → (readM b).1 i = newM q ws i := fun i hi => by rw [e, hr]; exact bytesM_nums _ hi (hN i)
    exact new ⟨by rw [e, hr], by rw [h2 0 (by omega), hN0]; omega, by rw [h2 0 (by omega), hN0]; exact hk⟩ h2
  refine ⟨hlb, htop', full, ?_⟩
  rcases hb with hb | ⟨a, ha, hb⟩
  · exact Or.inl (full hb)
  · by_cases ha0 : a = 0
    · subst ha0
      rw [torn_zero] at hb
      rw [hb]
      have e : upd f k (f k) = f := by funext i; unfold upd; split; rename_i h; rw [h]; rfl
      rw [e]; exact Or.inr rfl
    · by_cases hok : okM b k
      · refine Or.inl (new hok ?_)
        rw [hb]
        exact torn_read (newM q ws) (f k) (T := (lk f).2) ha (by omega) (hlen k hk2) (by rw [hN0]; omega) (by rw [hN0]; omega) ((lk_top f _).1 (Nat.le_refl _) k hk2).2 (fun i _ => hN i) (by rw [← hb]; exact hok.1)
      · exact Or.inr (lk_old' hk2 hok (fun hp => by rw [← hk]; exact q3 hp))
/-! ### crash and power again -/
theorem crash_up (s : DS) (keep : List Int) (tear z : Int) : ((s.crashS keep tear z).upS).n = s.n ∧ ((s.crashS keep tear z).upS).down = false ∧ ((s.crashS keep tear z).upS).pend = (fun _ => none) ∧
    ∀ i, ((s.crashS keep tear z).upS).sure i = match s.pend i with | none => s.sure i | some b => resC keep tear z i b (s.sure i) := by
  unfold DS.crashS DS.turned DS.setF DS.upS
  simp only [if_true, true_and]
  intro i
  trivial
theorem resC_torn (keep : List Int) (tear z : Int) (i : Int) (b old : List UInt8) : resC keep tear z i b old = b ∨ ∃ a, a ≤ 128 ∧ resC keep tear z i b old = b.take a ++ old.drop a := by
  unfold resC
  split
  · exact Or.inl rfl
  · split
    · exact Or.inr ⟨atc z, by unfold atc; omega, rfl⟩
    · exact Or.inr ⟨0, by omega, by simp⟩
theorem DS.flushE_zero {s : DS} (h : s.flushE = 0) : s.flushS = s.burnt.flushed ∧ s.burnt.down = false := by
  unfold DS.flushE at h
  unfold DS.flushS
  cases hd : s.down <;> cases hb : s.burns <;> simp [hd, hb] at h ⊢
  rw [DS.burnt_down hb]; exact hd
theorem DS.flushE_ne {s : DS} (h : s.flushE ≠ 0) : s.flushE = 50 ∧ (s.flushS = s ∨ s.flushS = s.burnt) := by
  unfold DS.flushE at h ⊢
  unfold DS.flushS
  cases hd : s.down <;> cases hb : s.burns <;> simp [hd, hb] at h ⊢
theorem looked_lk {s : DS} (h : s.pend = fun _ => none) : s.looked = lk s.sure := by
  unfold DS.looked lk DS.readB
  rw [h]; rfl
theorem lk_congr {f g : Nat → List UInt8} (h : ∀ i, i < 2 → f i = g i) : lk f = lk g := by unfold lk; rw [h 0 (by omega), h 1 (by omega)]
theorem upd_same (f : Nat → List UInt8) (k : Nat) : upd f k (f k) = f := by
  funext i; unfold upd; split
  · rename_i h; rw [h]
  · rfl
/-- a mark is put, the power goes (or doesn't), and is there again -/
theorem put_crash {s : DS} {T : Nat} (hn : s.n = 194) (hp : s.pend = fun _ => none) (hlen : ∀ i, i < 194 → (s.sure i).length = 128) (htop : s.looked.2 ≤ T) (hT : T + 2 < 256) (ws : List Nat) (hw : ∀ x ∈ ws, x < 18446744073709551616) (keep : List Int) (tear z : Int) (sD : DS) (hD : ((s.putR ws).2.crashS keep tear z).upS = sD) :
    sD.n = 194 ∧ sD.down = false ∧ sD.pend = (fun _ => none) ∧ (∀ i, i < 194 → (sD.sure i).length = 128) ∧ (∀ i, 2 ≤ i → sD.sure i = s.sure i) ∧ sD.looked.2 ≤ T + 2 ∧
      ((∀ i, i < 7 → sD.looked.1 i = newM (nextQ s.looked) ws i) ∨ sD.looked.1 = s.looked.1) ∧ ((s.putR ws).1.2 = 0 → ∀ i, i < 7 → sD.looked.1 i = newM (nextQ s.looked) ws i) ∧ ((s.putR ws).1.2 = 0 ∨ (s.putR ws).1.2 = 50) := by
  obtain ⟨q, hq⟩ : ∃ q, nextQ s.looked = q := ⟨_, rfl⟩
  obtain ⟨k, hk⟩ : ∃ k, q % 2 = k := ⟨_, rfl⟩
  have hk2 : k < 2 := by omega
  rw [hq]
  have hL := looked_lk hp
  have hlk : nextQ (lk s.sure) = q := by rw [← hL]; exact hq
  have main : ∀ (s2 : DS) (b : List UInt8) (e : Int), (s.putR ws).2 = s2 → (s.putR ws).1.2 = e → s2.n = 194 → (∀ i, (match s2.pend i with | none => s2.sure i | some b => resC keep tear z i b (s2.sure i)) = upd s.sure k b i) →
      (b = bytesM (newM q ws) ∨ ∃ a, a ≤ 128 ∧ b = torn (newM q ws) (s.sure k) a) → (e = 0 → b = bytesM (newM q ws)) → (e = 0 ∨ e = 50) → sD.n = 194 ∧ sD.down = false ∧ sD.pend = (fun _ => none) ∧ (∀ i, i < 194 → (sD.sure i).length = 128) ∧ (∀ i, 2 ≤ i → sD.sure i = s.sure i) ∧ sD.looked.2 ≤ T + 2 ∧
      ((∀ i, i < 7 → sD.looked.1 i = newM q ws i) ∨ sD.looked.1 = s.looked.1) ∧ ((s.putR ws).1.2 = 0 → ∀ i, i < 7 → sD.looked.1 i = newM q ws i) ∧ ((s.putR ws).1.2 = 0 ∨ (s.putR ws).1.2 = 50) := by
    intro s2 b e h2 he hn2 hs hb h0 h50
    rw [h2] at hD
    obtain ⟨c1, c2, c3, c4⟩ := crash_up s2 keep tear z
    rw [hD] at c1 c2 c3 c4
    have hsure : sD.sure = upd s.sure k b := by funext i; rw [c4 i]; exact hs i
    obtain ⟨m1, m2, m3, m4⟩ := mark_after (f := s.sure) (T := T) (ws := ws) (b := b) (by rw [← hL]; exact htop) hT (fun i hi => hlen i (by omega)) hlk hk hw hb
    have hLD : sD.looked = lk (upd s.sure k b) := by rw [looked_lk c3, hsure]
    rw [he]
    refine ⟨by rw [c1]; exact hn2, c2, c3, fun i hi => ?_, fun i hi => ?_, by rw [hLD]; exact m2, by rw [hLD, hL]; exact m4, fun h => by rw [hLD]; exact m3 (h0 h), h50⟩
    · rw [hsure]
      unfold upd
      split
      · exact m1
      · exact hlen i hi
    · rw [hsure]
      unfold upd
      rw [if_neg (by omega)]
  have hput : s.putR ws = if s.writeE = 0 then (if (s.writeS k (bytesM (newM q ws))).flushE = 0 then ((newM q ws, 0), (s.writeS k (bytesM (newM q ws))).flushS) else ((zeroM, (s.writeS k (bytesM (newM q ws))).flushE), (s.writeS k (bytesM (newM q ws))).flushS)) else ((zeroM, s.writeE), s.writeS k (bytesM (newM q ws))) := by
    unfold DS.putR; simp only [hq, hk]
  have asIs : ∀ s2 : DS, s2.pend = (fun _ => none) → s2.sure = s.sure → ∀ i, (match s2.pend i with | none => s2.sure i | some b => resC keep tear z i b (s2.sure i)) = upd s.sure k (s.sure k) i := by
    intro s2 h1 h2 i
    rw [upd_same, h1, h2]
  by_cases hwe : s.writeE = 0
  · have hS := DS.writeS_ok hwe k (bytesM (newM q ws))
    rw [if_pos hwe, hS] at hput
    have p1 : (s.burnt.put k (bytesM (newM q ws))).pend = fun i => if i = k then some (bytesM (newM q ws)) else none := by
      funext i
      show (if i = k then _ else s.burnt.pend i) = _
      rw [s.burnt_pend, hp]
    have p2 : (s.burnt.put k (bytesM (newM q ws))).sure = s.sure := s.burnt_sure
    have p3 : (s.burnt.put k (bytesM (newM q ws))).n = 194 := by show s.burnt.n = 194; rw [s.burnt_n]; exact hn
    by_cases hfe : (s.burnt.put k (bytesM (newM q ws))).flushE = 0
    · obtain ⟨f1, f2⟩ := DS.flushE_zero hfe
      rw [if_pos hfe, f1] at hput
      refine main _ (bytesM (newM q ws)) 0 (by rw [hput]) (by rw [hput]) ?_ (fun i => ?_) (Or.inl rfl) (fun _ => rfl) (Or.inl rfl)
      · show (s.burnt.put k (bytesM (newM q ws))).burnt.n = 194
        rw [DS.burnt_n]; exact p3
      · show ((s.burnt.put k (bytesM (newM q ws))).burnt.pend i).getD ((s.burnt.put k (bytesM (newM q ws))).burnt.sure i) = _
        rw [DS.burnt_pend, DS.burnt_sure, p1, p2]
        unfold upd
        by_cases hi : i = k
        · simp [hi]
        · simp [hi]
    · obtain ⟨f1, f2⟩ := DS.flushE_ne hfe
      rw [if_neg hfe] at hput
      obtain ⟨b, hbb, hbt⟩ : ∃ b, resC keep tear z (k : Int) (bytesM (newM q ws)) (s.sure k) = b ∧ (b = bytesM (newM q ws) ∨ ∃ a, a ≤ 128 ∧ b = torn (newM q ws) (s.sure k) a) := by
        refine ⟨_, rfl, ?_⟩
        rcases resC_torn keep tear z k (bytesM (newM q ws)) (s.sure k) with h | ⟨a, ha, h⟩
        · exact Or.inl h
        · exact Or.inr ⟨a, ha, h⟩
      have hres : ∀ s2 : DS, s2.pend = (s.burnt.put k (bytesM (newM q ws))).pend → s2.sure = (s.burnt.put k (bytesM (newM q ws))).sure → ∀ i, (match s2.pend i with | none => s2.sure i | some b => resC keep tear z i b (s2.sure i)) = upd s.sure k b i := by
        intro s2 h1 h2 i
        rw [h1, h2, p1, p2]
        unfold upd
        by_cases hi : i = k
        · subst hi; simp [hbb]
        · simp [hi]
      refine main _ b 50 (by rw [hput]) (by rw [hput]; exact f1) ?_ (fun i => ?_) hbt (fun h => absurd h (by decide)) (Or.inr rfl)
      · rcases f2 with h | h <;> rw [h]
        · exact p3
        · rw [DS.burnt_n]; exact p3
      · rcases f2 with h | h <;> rw [h]
        · exact hres _ rfl rfl i
        · exact hres _ (DS.burnt_pend _) (DS.burnt_sure _) i
  · obtain ⟨h50, hS⟩ := DS.writeE_ne hwe
    rw [if_neg hwe] at hput
    refine main _ (s.sure k) 50 (by rw [hput]) (by rw [hput]; exact h50) ?_ (fun i => ?_) (Or.inr ⟨0, by omega, (torn_zero _ _).symm⟩) (fun h => absurd h (by decide)) (Or.inr rfl)
    · rcases hS k (bytesM (newM q ws)) with h | h <;> rw [h]
      · exact hn
      · rw [DS.burnt_n]; exact hn
    · rcases hS k (bytesM (newM q ws)) with h | h <;> rw [h]
      · exact asIs s hp rfl i
      · exact asIs _ (by rw [DS.burnt_pend]; exact hp) (DS.burnt_sure _) i
/-! ### what stands between saves -/
structure LInv (s : DS) (bs : List (List UInt8)) (B : Nat) : Prop where
  n : s.n = 194
  down : s.down = false
  pend : s.pend = fun _ => none
  len : ∀ i, i < 194 → (s.sure i).length = 128
  on : OnS s.sure (layAll bs)
  top : s.looked.2 ≤ B
  head : s.looked.1 1 = 0
  tail : s.looked.1 2 = (layAll bs).length
theorem OnS.pre {f : Nat → List UInt8} {L LX : List UInt8} (h : OnS f LX) (hL : ∃ Y, LX = L ++ Y) : OnS f L := by
  obtain ⟨Y, rfl⟩ := hL
  intro p hp
  rw [h p (by rw [List.length_append]; omega), List.getElem?_append_left hp]
/-- what is laid and not sure is lost, or some of it: the log is as it was -/
theorem lost_crash {s sC sD : DS} {bs : List (List UInt8)} {B : Nat} (h : LInv s bs B) (hL : (layAll bs).length ≤ 24576) (hn : sC.n = 194) (hs : sC.sure = s.sure) (hK : Keeps sC (layAll bs)) (keep : List Int) (tear z : Int) (hD : (sC.crashS keep tear z).upS = sD) : LInv sD bs B := by
  obtain ⟨c1, c2, c3, c4⟩ := crash_up sC keep tear z
  rw [hD] at c1 c2 c3 c4
  have hlow : ∀ i, i < 2 → sD.sure i = s.sure i := by
    intro i hi
    rw [c4 i]
    cases hp : sC.pend i with
    | none => rw [hs]
    | some b => have := (hK i b hp).1; omega
  have hlk : sD.looked = s.looked := by rw [looked_lk c3, looked_lk h.pend]; exact lk_congr hlow
  refine ⟨by rw [c1]; exact hn, c2, c3, fun i hi => ?_, fun p hp => ?_, by rw [hlk]; exact h.top, by rw [hlk]; exact h.head, by rw [hlk]; exact h.tail⟩
  · rw [c4 i]
    have h0 := h.len i hi
    cases hp : sC.pend i with
    | none => rw [hs]; exact h0
    | some b =>
      simp only
      have hb := (hK i b hp).2.2.1
      rcases resC_torn keep tear z i b (sC.sure i) with e | ⟨a, ha, e⟩ <;> rw [e]
      · exact hb
      · rw [hs, List.length_append, List.length_take, List.length_drop, h0, hb]; omega
  · have h0 := h.on p hp
    have hl0 := h.len (2 + p / 128) (by omega)
    rw [c4 (2 + p / 128)]
    cases hq : sC.pend (2 + p / 128) with
    | none => simp only; rw [hs]; exact h0
    | some b =>
      simp only
      obtain ⟨_, _, hbl, hb⟩ := hK _ b hq
      have hb2 := hb (p % 128) (by omega) (by omega)
      rw [show 128 * (2 + p / 128 - 2) + p % 128 = p by omega] at hb2
      rcases resC_torn keep tear z ((2 + p / 128 : Nat) : Int) b (sC.sure (2 + p / 128)) with e | ⟨a, ha, e⟩ <;> rw [e]
      · exact hb2
      · rw [hs]
        by_cases hpa : p % 128 < a
        · rw [List.getElem?_append_left (by rw [List.length_take, hbl]; omega), List.getElem?_take, if_pos hpa]; exact hb2
        · have hla : (b.take a).length = a := by rw [List.length_take, hbl]; omega
          rw [List.getElem?_append_right (by rw [hla]; omega), hla, List.getElem?_drop, show a + (p % 128 - a) = p % 128 by omega]; exact h0
theorem LInv.mono {s : DS} {bs : List (List UInt8)} {B B' : Nat} (h : LInv s bs B) (hB : B ≤ B') : LInv s bs B' := ⟨h.n, h.down, h.pend, h.len, h.on, Nat.le_trans h.top hB, h.head, h.tail⟩
/-- what is pending is made sure -/
theorem flushed_spec {s sC : DS} {bs : List (List UInt8)} {B : Nat} (h : LInv s bs B) (hn : sC.n = 194) (hs : sC.sure = s.sure) (hK : Keeps sC (layAll bs)) {LX : List UInt8} (hO : OnS sC.readB LX) (h0 : sC.flushE = 0) :
    sC.flushS.n = 194 ∧ sC.flushS.down = false ∧ sC.flushS.pend = (fun _ => none) ∧ (∀ i, i < 194 → (sC.flushS.sure i).length = 128) ∧ (∀ i, i < 2 → sC.flushS.sure i = s.sure i) ∧ OnS sC.flushS.sure LX := by
  obtain ⟨f1, f2⟩ := DS.flushE_zero h0
  rw [f1]
  have e : sC.burnt.flushed.sure = sC.readB := by
    funext i
    show (sC.burnt.pend i).getD (sC.burnt.sure i) = _
    rw [DS.burnt_pend, DS.burnt_sure]; rfl
  refine ⟨?_, f2, rfl, fun i hi => ?_, fun i hi => ?_, by rw [e]; exact hO⟩
  · show sC.burnt.n = 194
    rw [DS.burnt_n]; exact hn
  · rw [e]
    unfold DS.readB
    cases hp : sC.pend i with
    | none => rw [hs]; exact h.len i hi
    | some b => exact (hK i b hp).2.2.1
  · rw [e]
    unfold DS.readB
    cases hp : sC.pend i with
    | none => rw [hs]; rfl
    | some b => have := (hK i b hp).1; omega
theorem noted_crash {s s2 sD : DS} {bs gr : List (List UInt8)} {B : Nat} (h : LInv s bs B) (hB : B + 2 < 256) (hT : (layAll (bs ++ gr)).length ≤ 24576) (hn : s2.n = 194) (hp : s2.pend = fun _ => none) (hlen : ∀ i, i < 194 → (s2.sure i).length = 128) (hlow : ∀ i, i < 2 → s2.sure i = s.sure i) (hO : OnS s2.sure (layAll (bs ++ gr)))
    (keep : List Int) (tear z : Int) (hD : ((s2.putR [0, (layAll (bs ++ gr)).length]).2.crashS keep tear z).upS = sD) :
    (LInv sD (bs ++ gr) (B + 2) ∨ LInv sD bs (B + 2)) ∧ ((s2.putR [0, (layAll (bs ++ gr)).length]).1.2 = 0 → LInv sD (bs ++ gr) (B + 2)) := by
  have hlk : s2.looked = s.looked := by rw [looked_lk hp, looked_lk h.pend]; exact lk_congr hlow
  obtain ⟨r1, r2, r3, r4, r5, r6, r7, r8, _⟩ := put_crash hn hp hlen (by rw [hlk]; exact h.top) hB [0, (layAll (bs ++ gr)).length] (by
    intro x hx
    simp at hx
    rcases hx with rfl | rfl <;> omega) keep tear z sD hD
  have hOD : OnS sD.sure (layAll (bs ++ gr)) := fun p hpp => by rw [r5 (2 + p / 128) (by omega)]; exact hO p hpp
  have new : (∀ i, i < 7 → sD.looked.1 i = newM (nextQ s2.looked) [0, (layAll (bs ++ gr)).length] i) → LInv sD (bs ++ gr) (B + 2) := fun hm => ⟨r1, r2, r3, r4, hOD, r6, hm 1 (by omega), hm 2 (by omega)⟩
  refine ⟨?_, fun h0 => new (r8 h0)⟩
  rcases r7 with hm | hm
  · exact Or.inl (new hm)
  · refine Or.inr ⟨r1, r2, r3, r4, hOD.pre ?_, r6, by rw [hm, hlk]; exact h.head, by rw [hm, hlk]; exact h.tail⟩
    unfold layAll
    rw [layFrom_append]
    exact layFrom_prefix gr _
/-! ### reading frames -/
theorem rd_on {s : DS} {L : List UInt8} (h : OnS s.readB L) (a n : Nat) (ha : a + n ≤ L.length) : s.rd a n = (L.drop a).take n := by
  apply List.ext_getElem?
  intro i
  rw [List.getElem?_take]
  by_cases hi : i < n
  · rw [if_pos hi, List.getElem?_drop, ← h (a + i) (by omega)]
    unfold DS.rd
    rw [List.getElem?_map, List.getElem?_range hi]
    simp only [Option.map_some, DS.rdB]
    have hx := h (a + i) (by omega)
    rw [List.getElem?_eq_getElem (by omega : a + i < L.length)] at hx
    rw [List.getD_eq_getElem?_getD, hx]; rfl
  · rw [if_neg hi, List.getElem?_eq_none (by rw [DS.rd_length]; omega)]
/-- where the frames begin -/
def posP (bs : List (List UInt8)) (k : Nat) : Nat := (layAll (bs.take k)).length
theorem lay_split (bs : List (List UInt8)) (k : Nat) (hk : k < bs.length) : ∃ Y, layAll bs = layAll (bs.take k) ++ (frameB (posP bs k) bs[k] ++ Y) := by
  have e : bs = bs.take k ++ (bs[k] :: bs.drop (k + 1)) := by rw [← List.drop_eq_getElem_cons hk, List.take_append_drop]
  obtain ⟨Y, hY⟩ := layFrom_prefix (bs.drop (k + 1)) (layB (layAll (bs.take k)) bs[k])
  refine ⟨Y, ?_⟩
  have e2 : layAll bs = layFrom (layFrom [] (bs.take k)) (bs[k] :: bs.drop (k + 1)) := by
    conv => lhs; unfold layAll; rw [e]
    rw [layFrom_append]
  rw [e2, show layFrom (layFrom [] (bs.take k)) (bs[k] :: bs.drop (k + 1)) = layFrom (layB (layAll (bs.take k)) bs[k]) (bs.drop (k + 1)) from rfl, hY, layB, List.append_assoc]; rfl
theorem posP_succ (bs : List (List UInt8)) (k : Nat) (hk : k < bs.length) : posP bs (k + 1) = posP bs k + (padN (posP bs k) bs[k].length + (9 + bs[k].length)) := by
  unfold posP
  rw [List.take_succ_eq_append_getElem hk]
  unfold layAll
  rw [layFrom_append]
  show (layB (layFrom [] (bs.take k)) bs[k]).length = _
  unfold layB
  rw [List.length_append, frameB_length]
theorem posP_le (bs : List (List UInt8)) (k : Nat) (hk : k < bs.length) : posP bs (k + 1) ≤ (layAll bs).length := by
  obtain ⟨Y, h⟩ := lay_split bs k hk
  rw [posP_succ bs k hk, h, List.length_append, List.length_append, frameB_length]
  show _ ≤ posP bs k + _
  omega
theorem posP_all (bs : List (List UInt8)) : posP bs bs.length = (layAll bs).length := by unfold posP; rw [List.take_length]
/-- what is read where a frame begins -/
theorem frame_pad {s : DS} {bs : List (List UInt8)} (h : OnS s.readB (layAll bs)) (k : Nat) (hk : k < bs.length) (h9 : 9 ≤ padN (posP bs k) bs[k].length) : s.rd (posP bs k) 9 = List.replicate 9 0 := by
  obtain ⟨Y, hY⟩ := lay_split bs k hk
  have hle := posP_le bs k hk
  rw [posP_succ bs k hk] at hle
  rw [rd_on h _ _ (by omega), hY, show posP bs k = (layAll (bs.take k)).length from rfl, List.drop_left]
  unfold frameB
  rw [List.append_assoc, List.take_append_of_le_length (by rw [List.length_replicate]; exact h9), List.take_replicate, Nat.min_eq_left (show 9 ≤ padN (layAll (bs.take k)).length bs[k].length from h9)]
theorem frame_head {s : DS} {bs : List (List UInt8)} (h : OnS s.readB (layAll bs)) (k : Nat) (hk : k < bs.length) :
    s.rd (posP bs k + padN (posP bs k) bs[k].length) 9 = hdrB (posP bs k + padN (posP bs k) bs[k].length) bs[k] ∧ s.rd (posP bs k + padN (posP bs k) bs[k].length + 9) bs[k].length = bs[k] := by
  obtain ⟨Y, hY⟩ := lay_split bs k hk
  have hle := posP_le bs k hk
  rw [posP_succ bs k hk] at hle
  have hdrop : (layAll bs).drop (posP bs k + padN (posP bs k) bs[k].length) = hdrB (posP bs k + padN (posP bs k) bs[k].length) bs[k] ++ (bs[k] ++ Y) := by
    rw [hY, ← List.drop_drop]
    conv => lhs; rw [show posP bs k = (layAll (bs.take k)).length from rfl]
    rw [List.drop_left]
    unfold frameB
    rw [List.append_assoc]
    have hr : (List.replicate (padN (posP bs k) bs[k].length) (0 : UInt8)).length = padN (posP bs k) bs[k].length := List.length_replicate
    show List.drop (padN (posP bs k) bs[k].length) (List.replicate (padN (posP bs k) bs[k].length) 0 ++ (hdrB (posP bs k + padN (posP bs k) bs[k].length) bs[k] ++ bs[k] ++ Y)) = _
    rw [List.drop_left' hr, List.append_assoc]
  constructor
  · rw [rd_on h _ _ (by omega), hdrop, List.take_left' (hdrB_length _ _)]
  · rw [rd_on h _ _ (by omega), ← List.drop_drop, hdrop, List.drop_left' (hdrB_length _ _), List.take_left]
theorem hdr_len (a : Nat) (b : List UInt8) (hb : b.length < 4294967296) : numU (hdrB a b) 0 4 = b.length := by
  have := numU_bytes (hdrB a b) 0 b.length 4 (fun j hj => by
    match j, hj with
    | 0, _ => exact byteOf_toNat _ 0
    | 1, _ => exact byteOf_toNat _ 1
    | 2, _ => exact byteOf_toNat _ 2
    | 3, _ => exact byteOf_toNat _ 3)
  rw [this]
  exact Nat.mod_eq_of_lt (by simpa using hb)
theorem hdr_seal (a : Nat) (b : List UInt8) : numU ((hdrB a b).drop 4) 0 4 = sealN a 1 b := by
  have := numU_bytes ((hdrB a b).drop 4) 0 (sealN a 1 b) 4 (fun j hj => by
    match j, hj with
    | 0, _ => exact byteOf_toNat _ 0
    | 1, _ => exact byteOf_toNat _ 1
    | 2, _ => exact byteOf_toNat _ 2
    | 3, _ => exact byteOf_toNat _ 3)
  rw [this]
  exact Nat.mod_eq_of_lt (by have := sealN_lt a 1 b; simpa using this)
theorem hdr_kind (a : Nat) (b : List UInt8) : (hdrB a b).getD 8 0 = 1 := rfl
end Go.Proofs.Ythghflfgldcmbaa
