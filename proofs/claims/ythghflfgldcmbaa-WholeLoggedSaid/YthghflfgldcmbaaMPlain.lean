/- What is had of marks, whatever is torn: plain. -/
import Derived.Test.YthghflfgldcmbaaMPut
import Derived.Test.YthghflfgldcmbaaDPend
namespace Go.Proofs.Ythghflfgldcmbaa
set_option maxRecDepth 4000
set_option linter.unusedVariables false
set_option linter.unusedSimpArgs false
open Go Go.RowKit
/-! ### numbers and bytes -/
theorem numU_bytes (b : List UInt8) (o n : Nat) : ∀ k, (∀ j, j < k → (b.getD (o + j) 0).toNat = n / 2 ^ (8 * j) % 256) → numU b o k = n % 2 ^ (8 * k)
  | 0, _ => by simp [numU, Nat.mod_one]
  | k + 1, h => by
    unfold numU
    rw [numU_bytes b o n k (fun j hj => h j (by omega)), h k (by omega)]
    have e : 2 ^ (8 * (k + 1)) = 2 ^ (8 * k) * 256 := by rw [show 8 * (k + 1) = 8 * k + 8 by omega, Nat.pow_add]
    rw [e, Nat.mod_mul, Nat.mul_comm (2 ^ (8 * k)) (n / 2 ^ (8 * k) % 256)]
theorem numU_ge (b : List UInt8) (o : Nat) : ∀ k j, j < k → (b.getD (o + j) 0).toNat * 2 ^ (8 * j) ≤ numU b o k
  | 0, j, h => by omega
  | k + 1, j, h => by
    unfold numU
    by_cases hj : j = k
    · subst hj; omega
    · have := numU_ge b o k j (by omega)
      omega
theorem numU_low (b : List UInt8) (o : Nat) : ∀ k, numU b o (k + 1) % 256 = (b.getD o 0).toNat
  | 0 => by
    have := (b.getD o 0).toNat_lt
    simp [numU]
  | k + 1 => by
    rw [numU]
    have e : 2 ^ (8 * (k + 1)) = 256 * 2 ^ (8 * k) := by rw [show 8 * (k + 1) = 8 + 8 * k by omega, Nat.pow_add]
    rw [e, show (b.getD (o + (k + 1)) 0).toNat * (256 * 2 ^ (8 * k)) = 256 * ((b.getD (o + (k + 1)) 0).toNat * 2 ^ (8 * k)) by rw [Nat.mul_left_comm], Nat.add_mul_mod_self_left]
    exact numU_low b o k
/-- eight bytes are a number below 256 -/
def Sm (b : List UInt8) (o v : Nat) : Prop := ∀ j, j < 8 → (b.getD (o + j) 0).toNat = if j = 0 then v else 0
theorem Sm.num {b : List UInt8} {o v : Nat} (h : Sm b o v) (hv : v < 256) : numU b o 8 = v := by
  have := numU_bytes b o v 8 (fun j hj => by
    rw [h j hj]
    split
    · rename_i h0; subst h0; simp; omega
    · rename_i h0
      have : 256 ≤ 2 ^ (8 * j) := by
        have : (2 : Nat) ^ 8 ≤ 2 ^ (8 * j) := Nat.pow_le_pow_right (by omega) (by omega)
        simpa using this
      rw [Nat.div_eq_of_lt (by omega)])
  rw [this, Nat.mod_eq_of_lt]
  omega
theorem Sm.of {b : List UInt8} {o : Nat} (h : numU b o 8 < 256) : Sm b o (numU b o 8) := by
  intro j hj
  split
  · rename_i h0
    subst h0
    have := numU_low b o 7
    rw [Nat.mod_eq_of_lt h] at this
    rw [this]; rfl
  · rename_i h0
    have h1 := numU_ge b o 8 j hj
    have h2 : 256 ≤ 2 ^ (8 * j) := by
      have : (2 : Nat) ^ 8 ≤ 2 ^ (8 * j) := Nat.pow_le_pow_right (by omega) (by omega)
      simpa using this
    rcases Nat.eq_zero_or_pos (b.getD (o + j) 0).toNat with h3 | h3
    · exact h3
    · have : 1 * 256 ≤ (b.getD (o + j) 0).toNat * 2 ^ (8 * j) := Nat.mul_le_mul h3 h2
      omega
/-! ### a mark's sector -/
theorem getD_eq {b : List UInt8} {i : Nat} {x : UInt8} (h : b[i]? = some x) : b.getD i 0 = x := by rw [List.getD_eq_getElem?_getD, h]; rfl
theorem byteOf_toNat (n j : Nat) : (byteOf n j).toNat = n / 2 ^ (8 * j) % 256 := by unfold byteOf; rw [UInt8.toNat_ofNat']
theorem bytesM_num (M : Nat → Nat) {k i : Nat} (hk : k < 2) (hi : i < 7) (hM : M i < 18446744073709551616) : numU (bytesM M) (56 * k + 8 * i) 8 = M i := by
  rw [numU_bytes (bytesM M) (56 * k + 8 * i) (M i) 8 (fun j hj => by rw [getD_eq (bytesM_at M hk hi hj), byteOf_toNat])]
  exact Nat.mod_eq_of_lt hM
theorem bytesM_take (M : Nat → Nat) : (bytesM M).take 56 = halfM M := by unfold bytesM; rw [List.take_left' (halfM_length M)]
theorem bytesM_half2 (M : Nat → Nat) : ((bytesM M).drop 56).take 56 = halfM M := by
  unfold bytesM
  rw [List.drop_left' (halfM_length M), List.take_left' (halfM_length M)]
theorem bytesM_rest (M : Nat → Nat) : (bytesM M).drop 112 = List.replicate 16 0 := by
  unfold bytesM
  rw [← List.append_assoc, List.drop_left' (by rw [List.length_append, halfM_length])]
theorem bytesM_read (M : Nat → Nat) (h0 : 0 < M 0) (hM0 : M 0 < 18446744073709551616) : readM (bytesM M) = (numsM (bytesM M), true) := by
  have h1 : halvesB (bytesM M) = true := by unfold halvesB; rw [bytesM_take, bytesM_half2]; simp
  have h2 : restB (bytesM M) = true := by unfold restB; rw [bytesM_rest]; decide
  have h3 : numU (bytesM M) 0 8 = M 0 := bytesM_num M (k := 0) (i := 0) (by omega) (by omega) hM0
  unfold readM
  rw [h1, h2, h3, decide_eq_true h0]; rfl
theorem bytesM_nums (M : Nat → Nat) {i : Nat} (hi : i < 7) (hM : M i < 18446744073709551616) : numsM (bytesM M) i = M i := by
  have := bytesM_num M (k := 0) (i := i) (by omega) hi hM
  unfold numsM
  rwa [Nat.mul_zero, Nat.zero_add] at this
/-! ### which mark is had -/
theorem look_cases (b0 b1 : List UInt8) : (look2 b0 b1).2 = max (max (max (max 0 (numU b0 0 8)) (numU b0 56 8)) (numU b1 0 8)) (numU b1 56 8) := rfl
def okM (b : List UInt8) (k : Nat) : Prop := (readM b).2 = true ∧ 0 < (readM b).1 0 ∧ (readM b).1 0 % 2 = k
theorem look_sel (b0 b1 : List UInt8) :
    (okM b1 1 ∧ (¬ okM b0 0 ∨ (readM b0).1 0 < (readM b1).1 0) ∧ (look2 b0 b1).1 = (readM b1).1) ∨
    (okM b0 0 ∧ (¬ okM b1 1 ∨ (readM b1).1 0 ≤ (readM b0).1 0) ∧ (look2 b0 b1).1 = (readM b0).1) ∨
    (¬ okM b0 0 ∧ ¬ okM b1 1 ∧ (look2 b0 b1).1 = zeroM) := by
  unfold look2 lookS
  by_cases h0 : okM b0 0
  · have c0 : (readM b0).2 = true ∧ (zeroM, 0).1 0 < (readM b0).1 0 ∧ (readM b0).1 0 % 2 = 0 := h0
    simp only [if_pos c0]
    by_cases h1 : okM b1 1 ∧ (readM b0).1 0 < (readM b1).1 0
    · left
      exact ⟨h1.1, Or.inr h1.2, if_pos ⟨h1.1.1, h1.2, h1.1.2.2⟩⟩
    · right; left
      refine ⟨h0, ?_, ?_⟩
      · by_cases h2 : okM b1 1
        · right
          exact Nat.not_lt.1 fun h => h1 ⟨h2, h⟩
        · exact Or.inl h2
      · rw [if_neg]
        rintro ⟨a, b, c⟩
        exact h1 ⟨⟨a, Nat.lt_of_le_of_lt (Nat.zero_le _) b, c⟩, b⟩
  · have c0 : ¬ ((readM b0).2 = true ∧ (zeroM, 0).1 0 < (readM b0).1 0 ∧ (readM b0).1 0 % 2 = 0) := h0
    simp only [if_neg c0]
    by_cases h1 : okM b1 1
    · left
      exact ⟨h1, Or.inl h0, if_pos h1⟩
    · right; right
      exact ⟨h0, h1, if_neg h1⟩
/-- the sectors, by their numbers -/
def lk (f : Nat → List UInt8) : (Nat → Nat) × Nat := look2 (f 0) (f 1)
def upd (f : Nat → List UInt8) (k : Nat) (b : List UInt8) : Nat → List UInt8 := fun i => if i = k then b else f i
theorem lk_home {f : Nat → List UInt8} (h : 0 < (lk f).1 0) : okM (f ((lk f).1 0 % 2)) ((lk f).1 0 % 2) ∧ (lk f).1 = (readM (f ((lk f).1 0 % 2))).1 := by
  rcases look_sel (f 0) (f 1) with ⟨h1, h2, h3⟩ | ⟨h1, h2, h3⟩ | ⟨h1, h2, h3⟩
  · have e : (lk f).1 = (readM (f 1)).1 := h3
    have p : (lk f).1 0 % 2 = 1 := by rw [e]; exact h1.2.2
    rw [p]; exact ⟨h1, e⟩
  · have e : (lk f).1 = (readM (f 0)).1 := h3
    have p : (lk f).1 0 % 2 = 0 := by rw [e]; exact h1.2.2
    rw [p]; exact ⟨h1, e⟩
  · have e : (lk f).1 = zeroM := h3
    rw [e] at h
    exact absurd h (by decide)
/-- the other sector turns to one that has a greater mark -/
theorem lk_new {f : Nat → List UInt8} {k : Nat} {b : List UInt8} (hk : k < 2) (h : 0 < (lk f).1 0) (hp : (lk f).1 0 % 2 ≠ k) (hb : okM b k) (hg : (lk f).1 0 < (readM b).1 0) : (lk (upd f k b)).1 = (readM b).1 := by
  obtain ⟨h1, h2⟩ := lk_home h
  rcases (show k = 0 ∨ k = 1 by omega) with rfl | rfl
  · have p : (lk f).1 0 % 2 = 1 := by omega
    rw [p] at h1 h2
    rw [h2] at hg
    have e0 : upd f 0 b 0 = b := rfl
    have e1 : upd f 0 b 1 = f 1 := rfl
    unfold lk
    rw [e0, e1]
    rcases look_sel b (f 1) with ⟨a, c, d⟩ | ⟨a, c, d⟩ | ⟨a, c, d⟩
    · rcases c with c | c
      · exact absurd hb c
      · omega
    · exact d
    · exact absurd hb a
  · have p : (lk f).1 0 % 2 = 0 := by omega
    rw [p] at h1 h2
    rw [h2] at hg
    have e0 : upd f 1 b 0 = f 0 := rfl
    have e1 : upd f 1 b 1 = b := rfl
    unfold lk
    rw [e0, e1]
    rcases look_sel (f 0) b with ⟨a, c, d⟩ | ⟨a, c, d⟩ | ⟨a, c, d⟩
    · exact d
    · rcases c with c | c
      · exact absurd hb c
      · omega
    · exact absurd hb c
/-- .. or to one that has none -/
theorem lk_old {f : Nat → List UInt8} {k : Nat} {b : List UInt8} (hk : k < 2) (h : 0 < (lk f).1 0) (hp : (lk f).1 0 % 2 ≠ k) (hb : ¬ okM b k) : (lk (upd f k b)).1 = (lk f).1 := by
  obtain ⟨h1, h2⟩ := lk_home h
  rcases (show k = 0 ∨ k = 1 by omega) with rfl | rfl
  · have p : (lk f).1 0 % 2 = 1 := by omega
    rw [p] at h1 h2
    have e0 : upd f 0 b 0 = b := rfl
    have e1 : upd f 0 b 1 = f 1 := rfl
    rw [h2]
    unfold lk
    rw [e0, e1]
    rcases look_sel b (f 1) with ⟨a, c, d⟩ | ⟨a, c, d⟩ | ⟨a, c, d⟩
    · exact d
    · exact absurd a hb
    · exact absurd h1 c
  · have p : (lk f).1 0 % 2 = 0 := by omega
    rw [p] at h1 h2
    have e0 : upd f 1 b 0 = f 0 := rfl
    have e1 : upd f 1 b 1 = b := rfl
    rw [h2]
    unfold lk
    rw [e0, e1]
    rcases look_sel (f 0) b with ⟨a, c, d⟩ | ⟨a, c, d⟩ | ⟨a, c, d⟩
    · exact absurd a hb
    · exact d
    · exact absurd h1 a
theorem lk_top (f : Nat → List UInt8) (T : Nat) : (lk f).2 ≤ T ↔ ∀ k, k < 2 → numU (f k) 0 8 ≤ T ∧ numU (f k) 56 8 ≤ T := by
  unfold lk
  rw [look_cases]
  constructor
  · intro h k hk
    rcases (show k = 0 ∨ k = 1 by omega) with rfl | rfl <;> constructor <;> omega
  · intro h
    have h0 := h 0 (by omega)
    have h1 := h 1 (by omega)
    omega
/-! ### a torn sector -/
def torn (N : Nat → Nat) (b : List UInt8) (a : Nat) : List UInt8 := (bytesM N).take a ++ b.drop a
theorem torn_lt (N : Nat → Nat) (b : List UInt8) {a j : Nat} (ha : a ≤ 128) (h : j < a) : (torn N b a).getD j 0 = (bytesM N).getD j 0 := by
  unfold torn
  rw [List.getD_eq_getElem?_getD, List.getElem?_append_left (by rw [List.length_take, bytesM_length]; omega), List.getElem?_take, if_pos h, ← List.getD_eq_getElem?_getD]
theorem torn_ge (N : Nat → Nat) (b : List UInt8) {a j : Nat} (ha : a ≤ 128) (h : a ≤ j) : (torn N b a).getD j 0 = b.getD j 0 := by
  unfold torn
  have hl : ((bytesM N).take a).length = a := by rw [List.length_take, bytesM_length]; omega
  rw [List.getD_eq_getElem?_getD, List.getElem?_append_right (by omega), hl, List.getElem?_drop, show a + (j - a) = j by omega, ← List.getD_eq_getElem?_getD]
theorem torn_zero (N : Nat → Nat) (b : List UInt8) : torn N b 0 = b := by simp [torn]
theorem torn_length (N : Nat → Nat) (b : List UInt8) {a : Nat} (ha : a ≤ 128) (hb : b.length = 128) : (torn N b a).length = 128 := by
  unfold torn
  rw [List.length_append, List.length_take, List.length_drop, bytesM_length, hb]; omega
theorem bytesM_sm (N : Nat → Nat) {k : Nat} (hk : k < 2) (h : N 0 < 256) : Sm (bytesM N) (56 * k) (N 0) := by
  have := bytesM_num N hk (i := 0) (by omega) (by omega)
  rw [Nat.mul_zero, Nat.add_zero] at this
  have h2 := Sm.of (b := bytesM N) (o := 56 * k) (by rw [this]; exact h)
  rwa [this] at h2
/-- the numbers that stand on a torn sector -/
theorem torn_sm (N : Nat → Nat) (b : List UInt8) {a o v : Nat} (ha : a ≤ 128) (hN : Sm (bytesM N) o (N 0)) (hb : Sm b o v) : Sm (torn N b a) o (if o < a then N 0 else v) := by
  intro j hj
  by_cases h : o + j < a
  · rw [torn_lt N b ha h, hN j hj, if_pos (show o < a by omega)]
  · rw [torn_ge N b ha (by omega), hb j hj]
    by_cases h0 : j = 0
    · subst h0
      rw [if_pos rfl, if_pos rfl, if_neg (by omega)]
    · rw [if_neg h0, if_neg h0]
/-- a torn sector has no mark, or the new one -/
theorem torn_read (N : Nat → Nat) (b : List UInt8) {a T : Nat} (ha : a ≤ 128) (ha0 : 0 < a) (hb : b.length = 128) (hN : N 0 < 256) (hT : T < N 0) (h56 : numU b 56 8 ≤ T) (hM : ∀ i, i < 7 → N i < 18446744073709551616) (hr : (readM (torn N b a)).2 = true) :
    ∀ i, i < 7 → (readM (torn N b a)).1 i = N i := by
  have hh : halvesB (torn N b a) = true ∧ (readM (torn N b a)).1 = numsM (torn N b a) := by
    unfold readM at hr ⊢
    split at hr
    · rename_i h
      rw [Bool.and_eq_true] at h
      rw [if_pos (by rw [h.1, h.2]; rfl)]
      exact ⟨h.1, rfl⟩
    · cases hr
  obtain ⟨h1, h2⟩ := hh
  have hhalf : ∀ j, j < 56 → (torn N b a).getD j 0 = (torn N b a).getD (56 + j) 0 := by
    intro j hj
    unfold halvesB at h1
    have h3 : (torn N b a).take 56 = ((torn N b a).drop 56).take 56 := by simpa using h1
    have h4 : ((torn N b a).take 56)[j]? = (((torn N b a).drop 56).take 56)[j]? := by rw [h3]
    rw [List.getElem?_take, if_pos hj, List.getElem?_take, if_pos hj, List.getElem?_drop] at h4
    rw [List.getD_eq_getElem?_getD, List.getD_eq_getElem?_getD, h4]
  have ha56 : 56 < a := by
    rcases Nat.lt_or_ge 56 a with h | h
    · exact h
    · exfalso
      have e := hhalf 0 (by omega)
      rw [torn_lt N b ha ha0, torn_ge N b ha (by omega)] at e
      have s1 := bytesM_sm N (k := 0) (by omega) hN 0 (by omega)
      have s2 := Sm.of (b := b) (o := 56) (by omega) 0 (by omega)
      rw [if_pos rfl] at s1 s2
      have e2 := congrArg UInt8.toNat e
      rw [show 56 * 0 + 0 = 0 from rfl] at s1
      omega
  intro i hi
  rw [h2]
  unfold numsM
  rw [numU_bytes (torn N b a) (8 * i) (N i) 8 (fun j hj => by
    rw [torn_lt N b ha (by omega), show 8 * i + j = 56 * 0 + 8 * i + j by omega, getD_eq (bytesM_at N (k := 0) (by omega) hi hj), byteOf_toNat])]
  exact Nat.mod_eq_of_lt (hM i hi)
end Go.Proofs.Ythghflfgldcmbaa
