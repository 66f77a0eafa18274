/- Plain law of the log: what is laid, what is read, what a crash leaves. -/
import Derived.Test.YthghflfgldcmbaaRApp
import Derived.Test.YthghflfgldcmbaaMPlain
import Derived.Test.YthghflfgldcmbaaDPend
namespace Go.Proofs.Ythghflfgldcmbaa
set_option maxRecDepth 4000
set_option linter.unusedVariables false
set_option linter.unusedSimpArgs false
open Go Go.RowKit
/-! ### frames -/
def padN (T n : Nat) : Nat := if 2048 - T % 2048 < 9 + n then 2048 - T % 2048 else 0
def hdrB (a : Nat) (b : List UInt8) : List UInt8 := d4 b.length ++ (d4 (sealN a 1 b) ++ [1])
theorem hdrB_length (a : Nat) (b : List UInt8) : (hdrB a b).length = 9 := rfl
def frameB (T : Nat) (b : List UInt8) : List UInt8 := List.replicate (padN T b.length) 0 ++ (hdrB (T + padN T b.length) b ++ b)
theorem frameB_length (T : Nat) (b : List UInt8) : (frameB T b).length = padN T b.length + (9 + b.length) := by
  unfold frameB
  rw [List.length_append, List.length_append, List.length_replicate, hdrB_length]
def layB (L : List UInt8) (b : List UInt8) : List UInt8 := L ++ frameB L.length b
def layFrom (L : List UInt8) (bs : List (List UInt8)) : List UInt8 := bs.foldl layB L
def layAll (bs : List (List UInt8)) : List UInt8 := layFrom [] bs
theorem layFrom_append (L : List UInt8) (xs bs : List (List UInt8)) : layFrom L (xs ++ bs) = layFrom (layFrom L xs) bs := by unfold layFrom; rw [List.foldl_append]
theorem layFrom_prefix : ∀ (bs : List (List UInt8)) (L : List UInt8), ∃ Y, layFrom L bs = L ++ Y
  | [], L => ⟨[], by simp [layFrom]⟩
  | b :: bs, L => by
    obtain ⟨Y, h⟩ := layFrom_prefix bs (layB L b)
    refine ⟨frameB L.length b ++ Y, ?_⟩
    rw [show layFrom L (b :: bs) = layFrom (layB L b) bs from rfl, h, layB, List.append_assoc]
/-! ### room -/
/-- so many frames of no more than 309 bytes need so much -/
def Roomy (T k : Nat) : Prop := ∃ q c, 6 * q + c ≤ k ∧ 2048 * q ≤ T ∧ T ≤ 2048 * (q + 1) ∧ T ≤ 2048 * q + 309 * c
theorem Roomy.zero : Roomy 0 0 := ⟨0, 0, by omega, by omega, by omega, by omega⟩
theorem Roomy.fits {T k n : Nat} (h : Roomy T k) (hk : k < 64) (hn : n ≤ 300) : T + (padN T n + (9 + n)) ≤ 24576 := by
  obtain ⟨q, c, h1, h2, h3, h4⟩ := h
  unfold padN
  split <;> omega
theorem Roomy.next {T k n : Nat} (h : Roomy T k) (hn : n ≤ 300) : Roomy (T + (padN T n + (9 + n))) (k + 1) := by
  obtain ⟨q, c, h1, h2, h3, h4⟩ := h
  by_cases he : T = 2048 * (q + 1)
  · have hp : padN T n = 0 := by unfold padN; rw [if_neg (by omega)]
    rw [hp]
    exact ⟨q + 1, 1, by omega, by omega, by omega, by omega⟩
  · have hm : T % 2048 = T - 2048 * q := by omega
    unfold padN
    rw [hm]
    by_cases hp : 2048 - (T - 2048 * q) < 9 + n
    · rw [if_pos hp]
      exact ⟨q + 1, 1, by omega, by omega, by omega, by omega⟩
    · rw [if_neg hp]
      exact ⟨q, c + 1, by omega, by omega, by omega, by omega⟩
theorem Roomy.all : ∀ (bs : List (List UInt8)) (L : List UInt8) (k : Nat), Roomy L.length k → (∀ b ∈ bs, b.length ≤ 300) → Roomy (layFrom L bs).length (k + bs.length)
  | [], L, k, h, _ => h
  | b :: bs, L, k, h, hb => by
    have h1 : Roomy (layB L b).length (k + 1) := by
      unfold layB
      rw [List.length_append, frameB_length]
      exact h.next (hb b (by simp))
    have := Roomy.all bs (layB L b) (k + 1) h1 (fun x hx => hb x (by simp [hx]))
    rw [show layFrom L (b :: bs) = layFrom (layB L b) bs from rfl, List.length_cons, show k + (bs.length + 1) = k + 1 + bs.length by omega]
    exact this
/-! ### the log on the sectors -/
/-- a log's bytes stand on sectors -/
def OnS (f : Nat → List UInt8) (L : List UInt8) : Prop := ∀ p, p < L.length → (f (2 + p / 128))[p % 128]? = L[p]?
/-- what is pending is of the ring, and leaves the log as it was -/
def Keeps (s : DS) (L : List UInt8) : Prop := ∀ i b, s.pend i = some b → 2 ≤ i ∧ i < 194 ∧ b.length = 128 ∧ ∀ j, j < 128 → 128 * (i - 2) + j < L.length → b[j]? = L[128 * (i - 2) + j]?
theorem padTo_at (l : List UInt8) (j : Nat) (h : j < l.length) : (padTo l)[j]? = l[j]? := by
  unfold padTo
  rw [List.getElem?_append_left h]
theorem DS.burnt_pend (s : DS) : s.burnt.pend = s.pend := by unfold DS.burnt; split; rfl; split <;> rfl
theorem DS.burnt_sure (s : DS) : s.burnt.sure = s.sure := by unfold DS.burnt; split; rfl; split <;> rfl
theorem DS.burnt_down {s : DS} (h : s.burns = true) : s.burnt.down = s.down := by
  have hf : s.fuse ≠ 0 := by unfold DS.burns at h; exact of_decide_eq_true h
  unfold DS.burnt
  split
  · rfl
  · first | rfl | (rw [if_neg hf]; rfl)
theorem DS.writeE_zero {s : DS} (h : s.writeE = 0) : s.down = false ∧ s.burns = true := by
  unfold DS.writeE at h
  cases hd : s.down <;> cases hb : s.burns <;> simp [hd, hb] at h ⊢
theorem DS.writeS_ok {s : DS} (h : s.writeE = 0) (i : Nat) (b : List UInt8) : s.writeS i b = s.burnt.put i b := by
  obtain ⟨h1, h2⟩ := DS.writeE_zero h
  unfold DS.writeS
  rw [h1, h2]; rfl
theorem DS.writeE_ne {s : DS} (h : s.writeE ≠ 0) : s.writeE = 50 ∧ ∀ i b, s.writeS i b = s ∨ s.writeS i b = s.burnt := by
  unfold DS.writeE at h ⊢
  unfold DS.writeS
  cases hd : s.down <;> cases hb : s.burns <;> simp [hd, hb] at h ⊢
theorem DS.put_readB (s : DS) (i : Nat) (b : List UInt8) (j : Nat) : (s.put i b).readB j = if j = i then b else s.readB j := by
  unfold DS.readB DS.put
  simp only
  split <;> rfl
theorem Keeps.same {s s' : DS} {L : List UInt8} (h : Keeps s L) (hp : s'.pend = s.pend) : Keeps s' L := by
  intro i b hb
  rw [hp] at hb
  exact h i b hb
theorem Keeps.put {s : DS} {L LX : List UInt8} {k : Nat} (h : Keeps s L) (hk : k < 192) (hL : ∃ Y, LX = L ++ Y) : Keeps (s.put (2 + k) (padTo ((LX.drop (128 * k)).take 128))) L := by
  intro i b hb
  unfold DS.put at hb
  simp only at hb
  split at hb
  · rename_i hi
    injection hb with hb
    subst hb hi
    refine ⟨by omega, by omega, padTo_length _ (by rw [List.length_take]; omega), fun j hj hlt => ?_⟩
    obtain ⟨Y, rfl⟩ := hL
    rw [show 2 + k - 2 = k by omega] at hlt ⊢
    rw [padTo_at _ _ (by rw [List.length_take, List.length_drop, List.length_append]; omega), List.getElem?_take, if_pos hj, List.getElem?_drop, List.getElem?_append_left hlt]
  · exact h i b hb
theorem chunks_spec (L LX : List UInt8) (hL : ∃ Y, LX = L ++ Y) (hX : LX.length ≤ 24576) : ∀ (m : Nat) (s : DS) (k : Nat), LX.length - 128 * k ≤ m → 128 * k ≤ LX.length → s.n = 194 → s.down = false → Keeps s L →
    (∀ p, p < 128 * k → (s.readB (2 + p / 128))[p % 128]? = LX[p]?) → ∀ s' z, s.chunks k (LX.drop (128 * k)) = (s', z) →
    s'.n = 194 ∧ s'.sure = s.sure ∧ Keeps s' L ∧ (z = 0 ∨ z = 50) ∧ (z = 0 → s'.down = false ∧ OnS s'.readB LX)
  | m, s, k, hm, hk, hn, hd, hK, hOn, s', z, hc => by
    by_cases hnil : LX.drop (128 * k) = []
    · rw [hnil, DS.chunks_nil] at hc
      injection hc with e1 e2
      subst e1 e2
      have hlen : LX.length ≤ 128 * k := by
        have := congrArg List.length hnil
        rw [List.length_drop, List.length_nil] at this
        omega
      exact ⟨hn, rfl, hK, Or.inl rfl, fun _ => ⟨hd, fun p hp => hOn p (by omega)⟩⟩
    · have hlt : 128 * k < LX.length := by
        rcases Nat.lt_or_ge (128 * k) LX.length with h | h
        · exact h
        · exact absurd (List.drop_eq_nil_of_le h) hnil
      by_cases hw : s.writeE = 0
      · have hS := DS.writeS_ok hw (2 + k) (padTo ((LX.drop (128 * k)).take 128))
        obtain ⟨hw1, hw2⟩ := DS.writeE_zero hw
        have kn : (s.burnt.put (2 + k) (padTo ((LX.drop (128 * k)).take 128))).n = 194 := by
          show s.burnt.n = 194
          rw [s.burnt_n]; exact hn
        have kd : (s.burnt.put (2 + k) (padTo ((LX.drop (128 * k)).take 128))).down = false := by
          show s.burnt.down = false
          rw [DS.burnt_down hw2]; exact hd
        have ks : (s.burnt.put (2 + k) (padTo ((LX.drop (128 * k)).take 128))).sure = s.sure := s.burnt_sure
        have kK : Keeps (s.burnt.put (2 + k) (padTo ((LX.drop (128 * k)).take 128))) L := (hK.same s.burnt_pend).put (by omega) hL
        have kO : ∀ p, p < 128 * (k + 1) → p < LX.length → ((s.burnt.put (2 + k) (padTo ((LX.drop (128 * k)).take 128))).readB (2 + p / 128))[p % 128]? = LX[p]? := by
          intro p hp hpl
          rw [DS.put_readB]
          by_cases hpk : p / 128 = k
          · rw [if_pos (by rw [hpk]), padTo_at _ _ (by rw [List.length_take, List.length_drop]; omega), List.getElem?_take, if_pos (by omega), List.getElem?_drop]
            congr 1
            omega
          · rw [if_neg (by omega)]
            have hb : s.burnt.readB (2 + p / 128) = s.readB (2 + p / 128) := by unfold DS.readB; rw [s.burnt_pend, s.burnt_sure]
            rw [hb]
            exact hOn p (by omega)
        by_cases hl : (LX.drop (128 * k)).length < 128
        · rw [DS.chunks_last s k _ hnil hw hl, hS] at hc
          injection hc with e1 e2
          subst e1 e2
          rw [List.length_drop] at hl
          exact ⟨kn, ks, kK, Or.inl rfl, fun _ => ⟨kd, fun p hp => kO p (by omega) hp⟩⟩
        · rw [DS.chunks_more s k _ hnil hw hl, hS, List.drop_drop, show 128 * k + 128 = 128 * (k + 1) by omega] at hc
          rw [List.length_drop] at hl
          match m, hm with
          | 0, hm => omega
          | m + 1, hm =>
            obtain ⟨r1, r2, r3, r4, r5⟩ := chunks_spec L LX hL hX m _ (k + 1) (by omega) (by omega) kn kd kK (fun p hp => kO p hp (by omega)) s' z hc
            exact ⟨r1, r2.trans ks, r3, r4, r5⟩
      · rw [DS.chunks_err s k _ hnil hw] at hc
        injection hc with e1 e2
        obtain ⟨h50, hS⟩ := DS.writeE_ne hw
        subst e1 e2
        rcases hS (2 + k) (padTo ((LX.drop (128 * k)).take 128)) with h | h <;> rw [h]
        · exact ⟨hn, rfl, hK, Or.inr h50, fun h => absurd h hw⟩
        · exact ⟨by rw [s.burnt_n]; exact hn, s.burnt_sure, hK.same s.burnt_pend, Or.inr h50, fun h => absurd h hw⟩
end Go.Proofs.Ythghflfgldcmbaa
