/- Plain law of WholeNoted: what is had of marks, whatever is torn. -/
import Derived.Test.YtjcioelolpmokaaMPut
import Derived.Test.YtjcioelolpmokaaDPend
namespace Go.Proofs.Ytjcioelolpmokaa
set_option maxRecDepth 4000
set_option linter.unusedVariables false
set_option linter.unusedSimpArgs false
open Go Go.RowKit
/-! ### numbers and bytes -/
theorem numU_bytes (b : List UInt8) (o n : Nat) : ∀ k, (∀ j, j < k → (b.getD (o + j) 0).toNat = n / 2 ^ (8 * j) % 256) → numU b o k = n % 2 ^ (8 * k)
  | 0, _ => by simp [numU, Nat.mod_one]
  | k + 1, h => by
    unfold numU
    rw [numU_bytes b o n k (fun j hj => h j (by omega)), h k (by omega)]
    have e : 2 ^ (8 * (k + 1)) = 2 ^ (8 * k) * 256 := by rw [show 8 * (k + 1) = 8 * k + 8 by omega, Nat.pow_add]
    rw [e, Nat.mod_mul, Nat.mul_comm (2 ^ (8 * k)) (n / 2 ^ (8 * k) % 256)]
theorem numU_ge (b : List UInt8) (o : Nat) : ∀ k j, j < k → (b.getD (o + j) 0).toNat * 2 ^ (8 * j) ≤ numU b o k
  | 0, j, h => by omega
  | k + 1, j, h => by
    unfold numU
    by_cases hj : j = k
    · subst hj; omega
    · have := numU_ge b o k j (by omega)
      omega
theorem numU_low (b : List UInt8) (o : Nat) : ∀ k, numU b o (k + 1) % 256 = (b.getD o 0).toNat
  | 0 => by
    have := (b.getD o 0).toNat_lt
    simp [numU]
  | k + 1 => by
    rw [numU]
    have e : 2 ^ (8 * (k + 1)) = 256 * 2 ^ (8 * k) := by rw [show 8 * (k + 1) = 8 + 8 * k by omega, Nat.pow_add]
    rw [e, show (b.getD (o + (k + 1)) 0).toNat * (256 * 2 ^ (8 * k)) = 256 * ((b.getD (o + (k + 1)) 0).toNat * 2 ^ (8 * k)) by rw [Nat.mul_left_comm], Nat.add_mul_mod_self_left]
    exact numU_low b o k
/-- eight bytes are a number below 256 -/
def Sm (b : List UInt8) (o v : Nat) : Prop := ∀ j, j < 8 → (b.getD (o + j) 0).toNat = if j = 0 then v else 0
theorem Sm.num {b : List UInt8} {o v : Nat} (h : Sm b o v) (hv : v < 256) : numU b o 8 = v := by
  have := numU_bytes b o v 8 (fun j hj => by
    rw [h j hj]
    split
    · rename_i h0; subst h0; simp; omega
    · rename_i h0
      have : 256 ≤ 2 ^ (8 * j) := by
        have : (2 : Nat) ^ 8 ≤ 2 ^ (8 * j) := Nat.pow_le_pow_right (by omega) (by omega)
        simpa using this
      rw [Nat.div_eq_of_lt (by omega)])
  rw [this, Nat.mod_eq_of_lt]
  omega
theorem Sm.of {b : List UInt8} {o : Nat} (h : numU b o 8 < 256) : Sm b o (numU b o 8) := by
  intro j hj
  split
  · rename_i h0
    subst h0
    have := numU_low b o 7
    rw [Nat.mod_eq_of_lt h] at this
    rw [this]; rfl
  · rename_i h0
    have h1 := numU_ge b o 8 j hj
    have h2 : 256 ≤ 2 ^ (8 * j) := by
      have : (2 : Nat) ^ 8 ≤ 2 ^ (8 * j) := Nat.pow_le_pow_right (by omega) (by omega)
      simpa using this
    rcases Nat.eq_zero_or_pos (b.getD (o + j) 0).toNat with h3 | h3
    · exact h3
    · have : 1 * 256 ≤ (b.getD (o + j) 0).toNat * 2 ^ (8 * j) := Nat.mul_le_mul h3 h2
      omega
/-! ### a mark's sector -/
theorem getD_eq {b : List UInt8} {i : Nat} {x : UInt8} (h : b[i]? = some x) : b.getD i 0 = x := by rw [List.getD_eq_getElem?_getD, h]; rfl
theorem byteOf_toNat (n j : Nat) : (byteOf n j).toNat = n / 2 ^ (8 * j) % 256 := by unfold byteOf; rw [UInt8.toNat_ofNat']
theorem bytesM_num (M : Nat → Nat) {k i : Nat} (hk : k < 2) (hi : i < 7) (hM : M i < 18446744073709551616) : numU (bytesM M) (56 * k + 8 * i) 8 = M i := by
  rw [numU_bytes (bytesM M) (56 * k + 8 * i) (M i) 8 (fun j hj => by rw [getD_eq (bytesM_at M hk hi hj), byteOf_toNat])]
  exact Nat.mod_eq_of_lt hM
theorem bytesM_take (M : Nat → Nat) : (bytesM M).take 56 = halfM M := by unfold bytesM; rw [List.take_left' (halfM_length M)]
theorem bytesM_half2 (M : Nat → Nat) : ((bytesM M).drop 56).take 56 = halfM M := by
  unfold bytesM
  rw [List.drop_left' (halfM_length M), List.take_left' (halfM_length M)]
theorem bytesM_rest (M : Nat → Nat) : (bytesM M).drop 112 = List.replicate 16 0 := by
  unfold bytesM
  rw [← List.append_assoc, List.drop_left' (by rw [List.length_append, halfM_length])]
theorem bytesM_read (M : Nat → Nat) (h0 : 0 < M 0) (hM0 : M 0 < 18446744073709551616) : readM (bytesM M) = (numsM (bytesM M), true) := by
  have h1 : halvesB (bytesM M) = true := by unfold halvesB; rw [bytesM_take, bytesM_half2]; simp
  have h2 : restB (bytesM M) = true := by unfold restB; rw [bytesM_rest]; decide
  have h3 : numU (bytesM M) 0 8 = M 0 := bytesM_num M (k := 0) (i := 0) (by omega) (by omega) hM0
  unfold readM
  rw [h1, h2, h3, decide_eq_true h0]; rfl
theorem bytesM_nums (M : Nat → Nat) {i : Nat} (hi : i < 7) (hM : M i < 18446744073709551616) : numsM (bytesM M) i = M i := by
  have := bytesM_num M (k := 0) (i := i) (by omega) hi hM
  unfold numsM
  rwa [Nat.mul_zero, Nat.zero_add] at this
/-! ### which mark is had -/
theorem look_cases (b0 b1 : List UInt8) : (look2 b0 b1).2 = max (max (max (max 0 (numU b0 0 8)) (numU b0 56 8)) (numU b1 0 8)) (numU b1 56 8) := rfl
def okM (b : List UInt8) (k : Nat) : Prop := (readM b).2 = true ∧ 0 < (readM b).1 0 ∧ (readM b).1 0 % 2 = k
theorem look_sel (b0 b1 : List UInt8) :
    (okM b1 1 ∧ (¬ okM b0 0 ∨ (readM b0).1 0 < (readM b1).1 0) ∧ (look2 b0 b1).1 = (readM b1).1) ∨
    (okM b0 0 ∧ (¬ okM b1 1 ∨ (readM b1).1 0 ≤ (readM b0).1 0) ∧ (look2 b0 b1).1 = (readM b0).1) ∨
    (¬ okM b0 0 ∧ ¬ okM b1 1 ∧ (look2 b0 b1).1 = zeroM) := by
  unfold look2 lookS
  by_cases h0 : okM b0 0
  · have c0 : (readM b0).2 = true ∧ (zeroM, 0).1 0 < (readM b0).1 0 ∧ (readM b0).1 0 % 2 = 0 := h0
    simp only [if_pos c0]
    by_cases h1 : okM b1 1 ∧ (readM b0).1 0 < (readM b1).1 0
    · left
      exact ⟨h1.1, Or.inr h1.2, if_pos ⟨h1.1.1, h1.2, h1.1.2.2⟩⟩
    · right; left
      refine ⟨h0, ?_, ?_⟩
      · by_cases h2 : okM b1 1
        · right
          exact Nat.not_lt.1 fun h => h1 ⟨h2, h⟩
        · exact Or.inl h2
      · rw [if_neg]
        rintro ⟨a, b, c⟩
        exact h1 ⟨⟨a, Nat.lt_of_le_of_lt (Nat.zero_le _) b, c⟩, b⟩
  · have c0 : ¬ ((readM b0).2 = true ∧ (zeroM, 0).1 0 < (readM b0).1 0 ∧ (readM b0).1 0 % 2 = 0) := h0
    simp only [if_neg c0]
    by_cases h1 : okM b1 1
    · left
      exact ⟨h1, Or.inl h0, if_pos h1⟩
    · right; right
      exact ⟨h0, h1, if_neg h1⟩
/-- the sectors, by their numbers -/
def lk (f : Nat → List UInt8) : (Nat → Nat) × Nat := look2 (f 0) (f 1)
def upd (f : Nat → List UInt8) (k : Nat) (b : List UInt8) : Nat → List UInt8 := fun i => if i = k then b else f i
theorem lk_home {f : Nat → List UInt8} (h : 0 < (lk f).1 0) : okM (f ((lk f).1 0 % 2)) ((lk f).1 0 % 2) ∧ (lk f).1 = (readM (f ((lk f).1 0 % 2))).1 := by
  rcases look_sel (f 0) (f 1) with ⟨h1, h2, h3⟩ | ⟨h1, h2, h3⟩ | ⟨h1, h2, h3⟩
  · have e : (lk f).1 = (readM (f 1)).1 := h3
    have p : (lk f).1 0 % 2 = 1 := by rw [e]; exact h1.2.2
    rw [p]; exact ⟨h1, e⟩
  · have e : (lk f).1 = (readM (f 0)).1 := h3
    have p : (lk f).1 0 % 2 = 0 := by rw [e]; exact h1.2.2
    rw [p]; exact ⟨h1, e⟩
  · have e : (lk f).1 = zeroM := h3
    rw [e] at h
    exact absurd h (by decide)
/-- the other sector turns to one that has a greater mark -/
theorem lk_new {f : Nat → List UInt8} {k : Nat} {b : List UInt8} (hk : k < 2) (h : 0 < (lk f).1 0) (hp : (lk f).1 0 % 2 ≠ k) (hb : okM b k) (hg : (lk f).1 0 < (readM b).1 0) : (lk (upd f k b)).1 = (readM b).1 := by
  obtain ⟨h1, h2⟩ := lk_home h
  rcases (show k = 0 ∨ k = 1 by omega) with rfl | rfl
  · have p : (lk f).1 0 % 2 = 1 := by omega
    rw [p] at h1 h2
    rw [h2] at hg
    have e0 : upd f 0 b 0 = b := rfl
    have e1 : upd f 0 b 1 = f 1 := rfl
    unfold lk
    rw [e0, e1]
    rcases look_sel b (f 1) with ⟨a, c, d⟩ | ⟨a, c, d⟩ | ⟨a, c, d⟩
    · rcases c with c | c
      · exact absurd hb c
      · omega
    · exact d
    · exact absurd hb a
  · have p : (lk f).1 0 % 2 = 0 := by omega
    rw [p] at h1 h2
    rw [h2] at hg
    have e0 : upd f 1 b 0 = f 0 := rfl
    have e1 : upd f 1 b 1 = b := rfl
    unfold lk
    rw [e0, e1]
    rcases look_sel (f 0) b with ⟨a, c, d⟩ | ⟨a, c, d⟩ | ⟨a, c, d⟩
    · exact d
    · rcases c with c | c
      · exact absurd hb c
      · omega
    · exact absurd hb c
/-- .. or to one that has none -/
theorem lk_old {f : Nat → List UInt8} {k : Nat} {b : List UInt8} (hk : k < 2) (h : 0 < (lk f).1 0) (hp : (lk f).1 0 % 2 ≠ k) (hb : ¬ okM b k) : (lk (upd f k b)).1 = (lk f).1 := by
  obtain ⟨h1, h2⟩ := lk_home h
  rcases (show k = 0 ∨ k = 1 by omega) with rfl | rfl
  · have p : (lk f).1 0 % 2 = 1 := by omega
    rw [p] at h1 h2
    have e0 : upd f 0 b 0 = b := rfl
    have e1 : upd f 0 b 1 = f 1 := rfl
    rw [h2]
    unfold lk
    rw [e0, e1]
    rcases look_sel b (f 1) with ⟨a, c, d⟩ | ⟨a, c, d⟩ | ⟨a, c, d⟩
    · exact d
    · exact absurd a hb
    · exact absurd h1 c
  · have p : (lk f).1 0 % 2 = 0 := by omega
    rw [p] at h1 h2
    have e0 : upd f 1 b 0 = f 0 := rfl
    have e1 : upd f 1 b 1 = b := rfl
    rw [h2]
    unfold lk
    rw [e0, e1]
    rcases look_sel (f 0) b with ⟨a, c, d⟩ | ⟨a, c, d⟩ | ⟨a, c, d⟩
    · exact absurd a hb
    · exact d
    · exact absurd h1 a
theorem lk_top (f : Nat → List UInt8) (T : Nat) : (lk f).2 ≤ T ↔ ∀ k, k < 2 → numU (f k) 0 8 ≤ T ∧ numU (f k) 56 8 ≤ T := by
  unfold lk
  rw [look_cases]
  constructor
  · intro h k hk
    rcases (show k = 0 ∨ k = 1 by omega) with rfl | rfl <;> constructor <;> omega
  · intro h
    have h0 := h 0 (by omega)
    have h1 := h 1 (by omega)
    omega
/-! ### a torn sector -/
def torn (N : Nat → Nat) (b : List UInt8) (a : Nat) : List UInt8 := (bytesM N).take a ++ b.drop a
theorem torn_lt (N : Nat → Nat) (b : List UInt8) {a j : Nat} (ha : a ≤ 128) (h : j < a) : (torn N b a).getD j 0 = (bytesM N).getD j 0 := by
  unfold torn
  rw [List.getD_eq_getElem?_getD, List.getElem?_append_left (by rw [List.length_take, bytesM_length]; omega), List.getElem?_take, if_pos h, ← List.getD_eq_getElem?_getD]
theorem torn_ge (N : Nat → Nat) (b : List UInt8) {a j : Nat} (ha : a ≤ 128) (h : a ≤ j) : (torn N b a).getD j 0 = b.getD j 0 := by
  unfold torn
  have hl : ((bytesM N).take a).length = a := by rw [List.length_take, bytesM_length]; omega
  rw [List.getD_eq_getElem?_getD, List.getElem?_append_right (by omega), hl, List.getElem?_drop, show a + (j - a) = j by omega, ← List.getD_eq_getElem?_getD]
theorem torn_zero (N : Nat → Nat) (b : List UInt8) : torn N b 0 = b := by simp [torn]
theorem torn_length (N : Nat → Nat) (b : List UInt8) {a : Nat} (ha : a ≤ 128) (hb : b.length = 128) : (torn N b a).length = 128 := by
  unfold torn
  rw [List.length_append, List.length_take, List.length_drop, bytesM_length, hb]; omega
theorem bytesM_sm (N : Nat → Nat) {k : Nat} (hk : k < 2) (h : N 0 < 256) : Sm (bytesM N) (56 * k) (N 0) := by
  have := bytesM_num N hk (i := 0) (by omega) (by omega)
  rw [Nat.mul_zero, Nat.add_zero] at this
  have h2 := Sm.of (b := bytesM N) (o := 56 * k) (by rw [this]; exact h)
  rwa [this] at h2
/-- the numbers that stand on a torn sector -/
theorem torn_sm (N : Nat → Nat) (b : List UInt8) {a o v : Nat} (ha : a ≤ 128) (hN : Sm (bytesM N) o (N 0)) (hb : Sm b o v) : Sm (torn N b a) o (if o < a then N 0 else v) := by
  intro j hj
  by_cases h : o + j < a
  · rw [torn_lt N b ha h, hN j hj, if_pos (show o < a by omega)]
  · rw [torn_ge N b ha (by omega), hb j hj]
    by_cases h0 : j = 0
    · subst h0
      rw [if_pos rfl, if_pos rfl, if_neg (by omega)]
    · rw [if_neg h0, if_neg h0]
/-- a torn sector has no mark, or the new one -/
theorem torn_read (N : Nat → Nat) (b : List UInt8) {a T : Nat} (ha : a ≤ 128) (ha0 : 0 < a) (hb : b.length = 128) (hN : N 0 < 256) (hT : T < N 0) (h56 : numU b 56 8 ≤ T) (hM : ∀ i, i < 7 → N i < 18446744073709551616) (hr : (readM (torn N b a)).2 = true) :
    ∀ i, i < 7 → (readM (torn N b a)).1 i = N i := by
  have hh : halvesB (torn N b a) = true ∧ (readM (torn N b a)).1 = numsM (torn N b a) := by
    unfold readM at hr ⊢
    split at hr
    · rename_i h
      rw [Bool.and_eq_true] at h
      rw [if_pos (by rw [h.1, h.2]; rfl)]
      exact ⟨h.1, rfl⟩
    · cases hr
  obtain ⟨h1, h2⟩ := hh
  have hhalf : ∀ j, j < 56 → (torn N b a).getD j 0 = (torn N b a).getD (56 + j) 0 := by
    intro j hj
    unfold halvesB at h1
    have h3 : (torn N b a).take 56 = ((torn N b a).drop 56).take 56 := by simpa using h1
    have h4 : ((torn N b a).take 56)[j]? = (((torn N b a).drop 56).take 56)[j]? := by rw [h3]
    rw [List.getElem?_take, if_pos hj, List.getElem?_take, if_pos hj, List.getElem?_drop] at h4
    rw [List.getD_eq_getElem?_getD, List.getD_eq_getElem?_getD, h4]
  have ha56 : 56 < a := by
    rcases Nat.lt_or_ge 56 a with h | h
    · exact h
    · exfalso
      have e := hhalf 0 (by omega)
      rw [torn_lt N b ha ha0, torn_ge N b ha (by omega)] at e
      have s1 := bytesM_sm N (k := 0) (by omega) hN 0 (by omega)
      have s2 := Sm.of (b := b) (o := 56) (by omega) 0 (by omega)
      rw [if_pos rfl] at s1 s2
      have e2 := congrArg UInt8.toNat e
      rw [show 56 * 0 + 0 = 0 from rfl] at s1
      omega
  intro i hi
  rw [h2]
  unfold numsM
  rw [numU_bytes (torn N b a) (8 * i) (N i) 8 (fun j hj => by
    rw [torn_lt N b ha (by omega), show 8 * i + j = 56 * 0 + 8 * i + j by omega, getD_eq (bytesM_at N (k := 0) (by omega) hi hj), byteOf_toNat])]
  exact Nat.mod_eq_of_lt (hM i hi)
/-! ### a round -/
structure NInv (s : DS) (T : Nat) : Prop where
  n : s.n = 2
  down : s.down = false
  pend : s.pend = fun _ => none
  len : ∀ i, i < 2 → (s.sure i).length = 128
  top : s.looked.2 ≤ T
  pos : 0 < s.looked.1 0
  good : s.looked.1 1 = 5 ∨ s.looked.1 2 = s.looked.1 1 ^^^ 1
theorem looked_sure {s : DS} (h : s.pend = fun _ => none) : s.looked = lk s.sure := by
  unfold DS.looked lk DS.readB
  rw [h]; rfl
theorem lk_upd_same (f : Nat → List UInt8) (k : Nat) : upd f k (f k) = f := by
  funext i; unfold upd; split
  · rename_i h; rw [h]
  · rfl
theorem seq_le_top {f : Nat → List UInt8} (h : 0 < (lk f).1 0) : (lk f).1 0 ≤ (lk f).2 := by
  obtain ⟨⟨h1, _, _⟩, h2⟩ := lk_home h
  have h3 := (lk_top f (lk f).2).1 (Nat.le_refl _) ((lk f).1 0 % 2) (by omega)
  have h4 : (readM (f ((lk f).1 0 % 2))).1 0 = numU (f ((lk f).1 0 % 2)) 0 8 := by
    unfold readM at h1 ⊢
    split at h1
    · rename_i h; rw [if_pos h]; rfl
    · cases h1
  rw [← h2] at h4
  omega
theorem nextQ_spec (L : (Nat → Nat) × Nat) (h : 0 < L.1 0) : L.2 < nextQ L ∧ nextQ L ≤ L.2 + 2 ∧ nextQ L % 2 ≠ L.1 0 % 2 := by
  unfold nextQ
  split
  · rename_i h2; omega
  · rename_i h2
    have : ¬ (L.2 + 1) % 2 = L.1 0 % 2 := fun e => h2 ⟨h, e⟩
    omega
theorem newM_lt {q : Nat} {ws : List Nat} (hq : q < 18446744073709551616) (hw : ∀ x ∈ ws, x < 18446744073709551616) (i : Nat) : newM q ws i < 18446744073709551616 := by
  unfold newM
  split
  · exact hq
  · rw [List.getD_eq_getElem?_getD]
    by_cases hx : i - 1 < ws.length
    · rw [List.getElem?_eq_getElem hx]; exact hw _ (List.getElem_mem hx)
    · rw [List.getElem?_eq_none (by omega)]; exact (by decide : (0 : Nat) < 18446744073709551616)
/-- the disk behind a round: one sector is the new one, torn, or as it was -/
theorem NInv.after {s s' : DS} {T q k : Nat} {ws : List Nat} (h : NInv s T) (hT : T + 2 < 256) (hq : nextQ s.looked = q) (hk : q % 2 = k) (hw : ∀ x ∈ ws, x < 18446744073709551616) (hgood : newM q ws 2 = newM q ws 1 ^^^ 1)
    (hn : s'.n = 2) (hd : s'.down = false) (hp : s'.pend = fun _ => none) {b : List UInt8} (hs : s'.sure = upd s.sure k b) (hb : b = bytesM (newM q ws) ∨ ∃ a, a ≤ 128 ∧ b = torn (newM q ws) (s.sure k) a) :
    NInv s' (T + 2) ∧ (b = bytesM (newM q ws) → s'.looked.1 1 = newM q ws 1) ∧ (s'.looked.1 1 = newM q ws 1 ∨ s'.looked.1 1 = s.looked.1 1) := by
  have hL := looked_sure h.pend
  have hL' := looked_sure hp
  have hpos := h.pos
  have htop := h.top
  rw [hL] at hq hpos htop
  obtain ⟨q1, q2, q3⟩ := nextQ_spec (lk s.sure) hpos
  rw [hq] at q1 q2 q3
  have hst := seq_le_top hpos
  have hN0 : newM q ws 0 = q := rfl
  have hN := newM_lt (q := q) (ws := ws) (by omega) hw
  have hk2 : k < 2 := by omega
  have hold := (lk_top s.sure T).1 htop
  have hlen : ∀ i, i < 2 → (s'.sure i).length = 128 := by
    intro i hi
    rw [hs]
    unfold upd
    split
    · rcases hb with rfl | ⟨a, ha, rfl⟩
      · exact bytesM_length _
      · exact torn_length _ _ ha (h.len k hk2)
    · exact h.len i hi
  -- the numbers that stand
  have htop' : (numU b 0 8 ≤ T + 2 ∧ numU b 56 8 ≤ T + 2) → s'.looked.2 ≤ T + 2 := by
    intro hb2
    rw [hL', lk_top, hs]
    intro i hi
    unfold upd
    split
    · exact hb2
    · have := hold i hi; omega
  have hnb : numU b 0 8 ≤ T + 2 ∧ numU b 56 8 ≤ T + 2 := by
    have s0 := bytesM_sm (newM q ws) (k := 0) (by omega) (by rw [hN0]; omega)
    have s1 := bytesM_sm (newM q ws) (k := 1) (by omega) (by rw [hN0]; omega)
    rw [hN0] at s0 s1
    rw [show 56 * 0 = 0 from rfl] at s0
    rw [show 56 * 1 = 56 from rfl] at s1
    have ho := hold k hk2
    rcases hb with rfl | ⟨a, ha, rfl⟩
    · rw [s0.num (by omega), s1.num (by omega)]; omega
    · have t0 := torn_sm (newM q ws) (s.sure k) ha (by rw [hN0]; exact s0) (Sm.of (by omega : numU (s.sure k) 0 8 < 256))
      have t1 := torn_sm (newM q ws) (s.sure k) ha (by rw [hN0]; exact s1) (Sm.of (by omega : numU (s.sure k) 56 8 < 256))
      rw [hN0] at t0 t1
      rw [t0.num (by split <;> omega), t1.num (by split <;> omega)]
      constructor <;> split <;> omega
  have mk : ∀ M : Nat → Nat, s'.looked.1 = M → 0 < M 0 → (M 1 = 5 ∨ M 2 = M 1 ^^^ 1) → NInv s' (T + 2) := fun M e h1 h2 => ⟨hn, hd, hp, hlen, htop' hnb, by rw [e]; exact h1, by rw [e]; exact h2⟩
  -- the new mark is had
  have new : okM b k → (∀ i, i < 7 → (readM b).1 i = newM q ws i) → s'.looked.1 = (readM b).1 ∧ NInv s' (T + 2) := by
    intro h1 h2
    have e : s'.looked.1 = (readM b).1 := by
      rw [hL', hs]
      exact lk_new hk2 hpos (by omega) h1 (by rw [h2 0 (by omega), hN0]; omega)
    exact ⟨e, mk _ e (by rw [h2 0 (by omega), hN0]; omega) (Or.inr (by rw [h2 2 (by omega), h2 1 (by omega)]; exact hgood))⟩
  -- the old one is
  have old : s'.looked.1 = s.looked.1 → NInv s' (T + 2) := fun e => mk _ e h.pos h.good
  have full : b = bytesM (newM q ws) → NInv s' (T + 2) ∧ s'.looked.1 1 = newM q ws 1 := by
    rintro rfl
    have hr := bytesM_read (newM q ws) (by rw [hN0]; omega) (hN 0)
    have h2 : ∀ i, i < 7 → (readM (bytesM (newM q ws))).1 i = newM q ws i := fun i hi => by rw [hr]; exact bytesM_nums _ hi (hN i)
    obtain ⟨e, hI⟩ := new ⟨by rw [hr], by rw [h2 0 (by omega), hN0]; omega, by rw [h2 0 (by omega), hN0]; exact hk⟩ h2
    exact ⟨hI, by rw [e, h2 1 (by omega)]⟩
  rcases hb with hb | ⟨a, ha, hb⟩
  · obtain ⟨hI, he⟩ := full hb
    exact ⟨hI, fun _ => he, Or.inl he⟩
  · by_cases ha0 : a = 0
    · subst ha0
      rw [torn_zero] at hb
      have e : s'.looked.1 = s.looked.1 := by rw [hL', hs, hb, lk_upd_same, hL]
      exact ⟨old e, fun hb2 => (full hb2).2, Or.inr (by rw [e])⟩
    · by_cases hok : okM b k
      · have h2 : ∀ i, i < 7 → (readM b).1 i = newM q ws i := by
          rw [hb]
          exact torn_read (newM q ws) (s.sure k) (T := (lk s.sure).2) ha (by omega) (h.len k hk2) (by rw [hN0]; omega) (by rw [hN0]; omega) ((lk_top s.sure _).1 (Nat.le_refl _) k hk2).2 (fun i _ => hN i) (by rw [← hb]; exact hok.1)
        obtain ⟨e, hI⟩ := new hok h2
        have he : s'.looked.1 1 = newM q ws 1 := by rw [e, h2 1 (by omega)]
        exact ⟨hI, fun _ => he, Or.inl he⟩
      · have e : s'.looked.1 = s.looked.1 := by
          rw [hL', hs, hL]
          exact lk_old hk2 hpos (by omega) hok
        exact ⟨old e, fun hb2 => (full hb2).2, Or.inr (by rw [e])⟩
/-- a round: a number is noted, the power goes (or doesn't), and is there again -/
def keepOf (b : Bool) (l : List Int) : List Int := if b = true then l else []
def tearOf (l : List Int) : Int := match l with | [] => -1 | x :: _ => x
def DS.round (s : DS) (f : Int) (ws : List Nat) (kp : Bool) (z : Int) : DS :=
  let sB := ((s.setF s.down (max f (-1))).putR ws).2
  (sB.crashS (keepOf kp sB.pendL) (tearOf sB.pendL) z).upS
theorem pendL_none {s : DS} (h : s.pend = fun _ => none) : s.pendL = [] := by
  unfold DS.pendL
  rw [h]
  simp
theorem crash_none {s : DS} (h : s.pend = fun _ => none) (keep : List Int) (tear z : Int) : (s.crashS keep tear z).upS = { s with down := false, fuse := -1, pend := fun _ => none } := by
  unfold DS.crashS DS.turned DS.setF DS.upS
  simp only [h, if_true]
theorem pendL_one {s : DS} {k : Nat} {b : List UInt8} (hn : s.n = 2) (hk : k < 2) (h : s.pend = fun i => if i = k then some b else none) : s.pendL = [(k : Int)] := by
  unfold DS.pendL
  rw [hn, h]
  rcases (show k = 0 ∨ k = 1 by omega) with rfl | rfl <;> rfl
theorem DS.looked_setF (s : DS) (dn : Bool) (f : Int) : (s.setF dn f).looked = s.looked := rfl
theorem noted_round {s : DS} {T : Nat} (h : NInv s T) (hT : T + 2 < 256) (f : Int) (x y : Nat) (hx : x < 18446744073709551616) (hy : y < 18446744073709551616) (hxy : y = x ^^^ 1) (kp : Bool) (z : Int) :
    NInv (s.round f [x, y] kp z) (T + 2) ∧ (((s.setF s.down (max f (-1))).putR [x, y]).1.2 = 0 → (s.round f [x, y] kp z).looked.1 1 = x) ∧ ((s.round f [x, y] kp z).looked.1 1 = x ∨ (s.round f [x, y] kp z).looked.1 1 = s.looked.1 1) := by
  obtain ⟨q, hq⟩ : ∃ q, nextQ s.looked = q := ⟨_, rfl⟩
  obtain ⟨k, hk⟩ : ∃ k, q % 2 = k := ⟨_, rfl⟩
  have hk2 : k < 2 := by omega
  have hw : ∀ v ∈ [x, y], v < 18446744073709551616 := by
    intro v hv
    simp at hv
    rcases hv with rfl | rfl
    · exact hx
    · exact hy
  have hgood : newM q [x, y] 2 = newM q [x, y] 1 ^^^ 1 := hxy
  have hN1 : newM q [x, y] 1 = x := rfl
  have aft := fun (s' : DS) (b : List UInt8) => h.after (s' := s') (b := b) hT hq hk hw hgood
  rw [hN1] at aft
  have hdn := h.down
  have hpd := h.pend
  have hn := h.n
  obtain ⟨g, hg⟩ : ∃ g, max f (-1) = g := ⟨_, rfl⟩
  have hg1 : -1 ≤ g := by omega
  unfold DS.round
  rw [hg, hdn]
  obtain ⟨sA, hA⟩ : ∃ sA, s.setF false g = sA := ⟨_, rfl⟩
  rw [hA]
  have a1 : sA.n = 2 := by rw [← hA]; exact hn
  have a2 : sA.down = false := by rw [← hA]; rfl
  have a3 : sA.pend = fun _ => none := by rw [← hA]; exact hpd
  have a4 : sA.sure = s.sure := by rw [← hA]; rfl
  have a5 : sA.fuse = g := by rw [← hA]; rfl
  have a6 : nextQ sA.looked = q := by rw [← hA, DS.looked_setF, hq]
  have hput : sA.putR [x, y] = if sA.writeE = 0 then (if (sA.writeS k (bytesM (newM q [x, y]))).flushE = 0 then ((newM q [x, y], 0), (sA.writeS k (bytesM (newM q [x, y]))).flushS) else ((zeroM, (sA.writeS k (bytesM (newM q [x, y]))).flushE), (sA.writeS k (bytesM (newM q [x, y]))).flushS)) else ((zeroM, sA.writeE), sA.writeS k (bytesM (newM q [x, y]))) := by
    unfold DS.putR; simp only [a6, hk]
  obtain ⟨B, hB⟩ : ∃ B, bytesM (newM q [x, y]) = B := ⟨_, rfl⟩
  rw [hB] at hput
  -- whatever is left, when the new one is sure
  have done_ : ∀ s2 : DS, s2.n = 2 → s2.pend = (fun _ => none) → s2.sure = upd s.sure k B → sA.putR [x, y] = ((newM q [x, y], 0), s2) → ∀ keep tear, NInv ((s2.crashS keep tear z).upS) (T + 2) ∧ ((sA.putR [x, y]).1.2 = 0 → ((s2.crashS keep tear z).upS).looked.1 1 = x) ∧ (((s2.crashS keep tear z).upS).looked.1 1 = x ∨ ((s2.crashS keep tear z).upS).looked.1 1 = s.looked.1 1) := by
    intro s2 b1 b2 b3 b4 keep tear
    rw [crash_none b2]
    obtain ⟨c1, c2, c3⟩ := aft { s2 with down := false, fuse := -1, pend := fun _ => none } B b1 rfl rfl b3 (Or.inl hB.symm)
    exact ⟨c1, fun _ => c2 hB.symm, c3⟩
  have hwr : sA.writeE = if sA.burns = true then 0 else 50 := by unfold DS.writeE; rw [a2]; rfl
  have hws : sA.writeS k B = if sA.burns = true then sA.burnt.put k B else sA.burnt := by unfold DS.writeS; rw [a2]; rfl
  rcases (show g = -1 ∨ g = 0 ∨ 0 < g by omega) with g0 | g0 | g0
  · have hb : sA.burns = true := by unfold DS.burns; rw [a5, g0]; rfl
    have hbt : sA.burnt = sA := by unfold DS.burnt; rw [if_pos (by omega)]
    rw [hb, if_pos rfl] at hwr hws
    rw [hbt] at hws
    have hb2 : (sA.put k B).burns = true := by unfold DS.burns DS.put; simp only [a5, g0]; rfl
    have hbt2 : (sA.put k B).burnt = sA.put k B := by unfold DS.burnt DS.put; simp only [a5]; rw [if_pos (by omega)]
    have hfe : (sA.put k B).flushE = 0 := by unfold DS.flushE; rw [show (sA.put k B).down = false from a2, hb2]; rfl
    have hfs : (sA.put k B).flushS = (sA.put k B).flushed := by unfold DS.flushS; rw [show (sA.put k B).down = false from a2, hb2, hbt2]; rfl
    rw [hwr, if_pos rfl, hws, hfe, if_pos rfl, hfs] at hput
    have hp2 : (sA.putR [x, y]).2 = (sA.put k B).flushed := by rw [hput]
    simp only [hp2]
    refine done_ (sA.put k B).flushed a1 rfl ?_ hput _ _
    funext i
    show ((if i = k then some B else sA.pend i).getD (sA.sure i)) = upd s.sure k B i
    unfold upd
    rw [a3, a4]
    split <;> rfl
  · have hb : sA.burns = false := by unfold DS.burns; rw [a5, g0]; rfl
    have hbt : sA.burnt = sA.setF true (-1) := by unfold DS.burnt; rw [if_neg (by omega), if_pos (by omega)]
    rw [hb, if_neg (by decide)] at hwr hws
    rw [hwr, if_neg (by decide), hws, hbt] at hput
    have hp2 : (sA.putR [x, y]).2 = sA.setF true (-1) := by rw [hput]
    simp only [hp2]
    rw [crash_none (show (sA.setF true (-1)).pend = fun _ => none from a3)]
    obtain ⟨c1, c2, c3⟩ := aft { sA.setF true (-1) with down := false, fuse := -1, pend := fun _ => none } (s.sure k) a1 rfl rfl (by rw [lk_upd_same]; exact a4) (Or.inr ⟨0, by omega, (torn_zero _ _).symm⟩)
    refine ⟨c1, fun h => ?_, c3⟩
    rw [hput] at h
    exact absurd (show (50 : Int) = 0 from h) (by decide)
  · have hb : sA.burns = true := by unfold DS.burns; rw [a5]; exact decide_eq_true (by omega)
    have hbt : sA.burnt = sA.setF false (g - 1) := by unfold DS.burnt; rw [if_neg (by omega), if_neg (by omega), a2, a5]
    rw [hb, if_pos rfl] at hwr hws
    rw [hbt] at hws
    obtain ⟨s1, hs1⟩ : ∃ s1, (sA.setF false (g - 1)).put k B = s1 := ⟨_, rfl⟩
    rw [hs1] at hws
    have d1 : s1.n = 2 := by rw [← hs1]; exact a1
    have d2 : s1.down = false := by rw [← hs1]; rfl
    have d3 : s1.pend = fun i => if i = k then some B else none := by
      rw [← hs1]
      funext i
      show (if i = k then some B else sA.pend i) = _
      rw [a3]
    have d4 : s1.sure = s.sure := by rw [← hs1]; exact a4
    have d5 : s1.fuse = g - 1 := by rw [← hs1]; rfl
    rw [hwr, if_pos rfl, hws] at hput
    by_cases g1 : g = 1
    · have hb2 : s1.burns = false := by unfold DS.burns; rw [d5, g1]; rfl
      have hbt2 : s1.burnt = s1.setF true (-1) := by unfold DS.burnt; rw [if_neg (by omega), if_pos (by omega)]
      have hfe : s1.flushE = 50 := by unfold DS.flushE; rw [d2, hb2]; rfl
      have hfs : s1.flushS = s1.setF true (-1) := by unfold DS.flushS; rw [d2, hb2, hbt2]; rfl
      rw [hfe, if_neg (by decide), hfs] at hput
      have hp2 : (sA.putR [x, y]).2 = s1.setF true (-1) := by rw [hput]
      simp only [hp2]
      have hpl : (s1.setF true (-1)).pendL = [(k : Int)] := pendL_one d1 hk2 d3
      rw [hpl]
      obtain ⟨keep, hkeep⟩ : ∃ keep, keepOf kp [(k : Int)] = keep := ⟨_, rfl⟩
      have htear : tearOf [(k : Int)] = k := rfl
      rw [hkeep, htear]
      have hsure : ∃ b, ((s1.setF true (-1)).crashS keep k z).upS.sure = upd s.sure k b ∧ (b = B ∨ ∃ a, a ≤ 128 ∧ b = torn (newM q [x, y]) (s.sure k) a) := by
        refine ⟨resC keep k z k B (s.sure k), ?_, ?_⟩
        · funext i
          show (match (s1.pend i) with | none => s1.sure i | some b => resC keep k z i b (s1.sure i)) = upd s.sure k _ i
          unfold upd
          rw [d3, d4]
          by_cases hi : i = k
          · subst hi; simp
          · simp only [if_neg hi]
        · unfold resC
          split
          · exact Or.inl rfl
          · rw [if_pos rfl]
            exact Or.inr ⟨atc z, by unfold atc; omega, by unfold torn; rw [hB]⟩
      obtain ⟨b, hs2, hbb⟩ := hsure
      obtain ⟨c1, c2, c3⟩ := aft ((s1.setF true (-1)).crashS keep k z).upS b d1 rfl rfl hs2 (by rcases hbb with h | h; exact Or.inl (h.trans hB.symm); exact Or.inr h)
      refine ⟨c1, fun h => ?_, c3⟩
      rw [hput] at h
      exact absurd (show (50 : Int) = 0 from h) (by decide)
    · have hb2 : s1.burns = true := by unfold DS.burns; rw [d5]; exact decide_eq_true (by omega)
      have hbt2 : s1.burnt = s1.setF false (g - 1 - 1) := by unfold DS.burnt; rw [if_neg (by omega), if_neg (by omega), d2, d5]
      have hfe : s1.flushE = 0 := by unfold DS.flushE; rw [d2, hb2]; rfl
      have hfs : s1.flushS = (s1.setF false (g - 1 - 1)).flushed := by unfold DS.flushS; rw [d2, hb2, hbt2]; rfl
      rw [hfe, if_pos rfl, hfs] at hput
      have hp2 : (sA.putR [x, y]).2 = (s1.setF false (g - 1 - 1)).flushed := by rw [hput]
      simp only [hp2]
      refine done_ (s1.setF false (g - 1 - 1)).flushed d1 rfl ?_ hput _ _
      funext i
      show ((s1.pend i).getD (s1.sure i)) = upd s.sure k B i
      unfold upd
      rw [d3, d4]
      by_cases hi : i = k
      · subst hi; simp
      · simp only [if_neg hi]; rfl
end Go.Proofs.Ytjcioelolpmokaa
