/- PLAIN: the rest of a division of polynomials, as the document reckons it, is the program's CRC-32. -/
import Derived.Test.YtiaepnlhedgicaaBurst
namespace Go.Proofs.Ytiaepnlhedgicaa
set_option linter.unusedVariables false
set_option linter.unusedSimpArgs false
def flipAt (l : List Bool) (i : Nat) : List Bool := l.set i (!(l.getD i false))
theorem flipAt_len (l : List Bool) (i : Nat) : (flipAt l i).length = l.length := by simp [flipAt]
theorem flipAt_get {l : List Bool} {i : Nat} (h : i < l.length) (j : Nat) : (flipAt l i).getD j false = (l.getD j false ^^ decide (i = j)) := by
  unfold flipAt
  rw [List.getD_eq_getElem?_getD, List.getD_eq_getElem?_getD, List.getD_eq_getElem?_getD, List.getElem?_set]
  by_cases hij : i = j
  · subst hij; simp [h]
  · simp [hij]
def powersL : List Nat := [26, 23, 22, 16, 12, 11, 10, 8, 7, 5, 4, 2, 1, 0]
def flips (k : Nat) (ps : List Nat) (l : List Bool) : List Bool := ps.foldl (fun l p => flipAt l (k + 32 - p)) l
theorem flips_len (k : Nat) (ps : List Nat) : ∀ l : List Bool, (flips k ps l).length = l.length := by
  induction ps with
  | nil => exact fun _ => rfl
  | cons p ps ih => intro l; exact (ih _).trans (flipAt_len _ _)
def hits (j : Nat) (ps : List Nat) : Bool := ps.foldr (fun p b => decide (32 - p = j) ^^ b) false
theorem flips_get (k : Nat) (ps : List Nat) : ∀ (l : List Bool), (∀ p ∈ ps, p ≤ 31) → k + 32 < l.length → ∀ j, (flips k ps l).getD (k + j) false = (l.getD (k + j) false ^^ hits j ps) := by
  induction ps with
  | nil => intro l _ _ j; simp [flips, hits]
  | cons p ps ih =>
    intro l hp hl j
    have hp0 : p ≤ 31 := hp p (by simp)
    show (flips k ps (flipAt l (k + 32 - p))).getD (k + j) false = _
    rw [ih _ (fun q hq => hp q (by simp [hq])) (by rw [flipAt_len]; exact hl), flipAt_get (by omega)]
    have : decide (k + 32 - p = k + j) = decide (32 - p = j) := by
      rw [decide_eq_decide]; omega
    rw [this]
    simp only [hits, List.foldr_cons, Bool.xor_assoc]
theorem flips_lo (k : Nat) (ps : List Nat) : ∀ (l : List Bool), (∀ p ∈ ps, p ≤ 31) → k + 32 < l.length → ∀ i, i ≤ k → (flips k ps l).getD i false = l.getD i false := by
  induction ps with
  | nil => intro l _ _ j _; rfl
  | cons p ps ih =>
    intro l hp hl j hj
    have hp0 : p ≤ 31 := hp p (by simp)
    show (flips k ps (flipAt l (k + 32 - p))).getD j false = _
    rw [ih _ (fun q hq => hp q (by simp [hq])) (by rw [flipAt_len]; exact hl) j hj, flipAt_get (by omega)]
    have : decide (k + 32 - p = j) = false := by simp; omega
    rw [this, Bool.xor_false]
def divStep (l : List Bool) (k : Nat) : List Bool := if l.getD k false = true then flips k powersL (l.set k false) else l
theorem powers_le : ∀ p ∈ powersL, p ≤ 31 := by decide
theorem hits_poly : ∀ j, j < 32 → hits (j + 1) powersL = (0xedb88320 : W32).getLsbD j := by decide
theorem hits_0 : hits 0 powersL = false := by decide
theorem hits_far (j : Nat) (h : 33 ≤ j) : hits j powersL = false := by
  have : ∀ ps : List Nat, hits j ps = false := by
    intro ps
    induction ps with
    | nil => rfl
    | cons p ps ih => simp only [hits, List.foldr_cons] at *; rw [ih]; simp; omega
  exact this _
/-- bits of which k are done, with the rest c -/
structure Divided (m l : List Bool) (n k : Nat) (c : W32) : Prop where
  len : l.length = n + 32
  lo : ∀ i, i < k → l.getD i false = false
  hi : ∀ i, l.getD (k + i) false = (c.getLsbD i ^^ m.getD (k + i) false)
theorem Divided.step {m l : List Bool} {n k : Nat} {c : W32} (h : Divided m l n k c) (hk : k < n) : Divided m (divStep l k) n (k + 1) (crcIn c (m.getD k false)) := by
  have hlow : l.getD k false = (c ^^^ bw (m.getD k false)).getLsbD 0 := by
    have := h.hi 0
    rw [Nat.add_zero] at this
    rw [this, BitVec.getLsbD_xor, bw_0]
  have hshift : ∀ i, ((c ^^^ bw (m.getD k false)) >>> 1).getLsbD i = c.getLsbD (1 + i) := by
    intro i
    rw [BitVec.getLsbD_ushiftRight, BitVec.getLsbD_xor, bw_hi, Bool.xor_false]
  unfold divStep crcIn
  rw [crcBit_eq, ← hlow]
  by_cases hb : l.getD k false = true
  · rw [if_pos hb, hb]
    have hl : k + 32 < (l.set k false).length := by rw [List.length_set, h.len]; omega
    have hset : ∀ j, (l.set k false).getD j false = if j = k then false else l.getD j false := by
      intro j
      rw [List.getD_eq_getElem?_getD, List.getElem?_set, List.getD_eq_getElem?_getD]
      by_cases hj : k = j
      · subst hj; simp [show k < l.length by rw [h.len]; omega]
      · rw [if_neg hj, if_neg (Ne.symm hj)]
    refine ⟨by rw [flips_len, List.length_set, h.len], fun i hi => ?_, fun i => ?_⟩
    · rw [flips_lo _ _ _ powers_le hl i (by omega), hset]
      split
      · rfl
      · exact h.lo i (by omega)
    · rw [Nat.add_assoc, flips_get _ _ _ powers_le hl, hset, if_neg (by omega), h.hi, BitVec.getLsbD_xor, hshift]
      have : hits (1 + i) powersL = (polyIf true).getLsbD i := by
        rcases Nat.lt_or_ge i 32 with h1 | h1
        · rw [Nat.add_comm, hits_poly i h1]; rfl
        · rw [hits_far _ (by omega), BitVec.getLsbD_of_ge _ _ h1]
      rw [this]
      cases c.getLsbD (1 + i) <;> cases m.getD (k + (1 + i)) false <;> cases (polyIf true).getLsbD i <;> rfl
  · have hb' : l.getD k false = false := by simpa using hb
    rw [if_neg hb, hb']
    refine ⟨h.len, fun i hi => ?_, fun i => ?_⟩
    · rcases Nat.lt_or_ge i k with h1 | h1
      · exact h.lo i h1
      · rw [show i = k by omega]; exact hb'
    · rw [Nat.add_assoc, h.hi, BitVec.getLsbD_xor, hshift]
      simp [polyIf]
def dividing (n : Nat) (l : List Bool) : List Bool := (List.range n).foldl divStep l
theorem dividing_succ (n : Nat) (l : List Bool) : dividing (n + 1) l = divStep (dividing n l) n := by
  simp [dividing, List.range_succ]
theorem crcBits_snoc (c : W32) (u : List Bool) (b : Bool) : crcBits c (u ++ [b]) = crcIn (crcBits c u) b := by simp [crcBits]
theorem dividing_is {m l : List Bool} {n : Nat} {c : W32} (h : Divided m l n 0 c) (hm : n ≤ m.length) : ∀ k, k ≤ n → Divided m (dividing k l) n k (crcBits c (m.take k)) := by
  intro k
  induction k with
  | zero => intro _; simpa [dividing, crcBits] using h
  | succ k ih =>
    intro hk
    rw [dividing_succ, List.take_succ_eq_append_getElem (show k < m.length by omega), crcBits_snoc]
    have := (ih (by omega)).step (by omega)
    rwa [List.getD_eq_getElem?_getD, List.getElem?_eq_getElem (by omega)] at this
/-- the first 32 turned about -/
def turned : Nat → List Bool → List Bool
  | 0, l => l
  | k + 1, l => flipAt (turned k l) k
theorem turned_len (k : Nat) (l : List Bool) : (turned k l).length = l.length := by
  induction k with
  | zero => rfl
  | succ k ih => rw [turned, flipAt_len, ih]
theorem turned_get (k : Nat) (l : List Bool) (h : k ≤ l.length) (i : Nat) : (turned k l).getD i false = (decide (i < k) ^^ l.getD i false) := by
  induction k with
  | zero => simp [turned]
  | succ k ih =>
    rw [turned, flipAt_get (by rw [turned_len]; omega), ih (by omega)]
    rcases Nat.lt_trichotomy i k with h1 | h1 | h1
    · simp [h1, show i < k + 1 by omega, show ¬ k = i by omega]
    · subst h1; simp
    · simp [show ¬ i < k by omega, show ¬ i < k + 1 by omega, show ¬ k = i by omega]
/-- the document's bits at the beginning -/
def bits32 (m : List Bool) : List Bool := m ++ List.replicate 32 false
theorem bits32_get (m : List Bool) (i : Nat) : (bits32 m).getD i false = m.getD i false := by
  rw [bits32, List.getD_eq_getElem?_getD, List.getD_eq_getElem?_getD]
  rcases Nat.lt_or_ge i m.length with h | h
  · rw [List.getElem?_append_left h]
  · rw [List.getElem?_append_right h, List.getElem?_eq_none h, List.getElem?_replicate]
    split <;> rfl
theorem divided_start (m : List Bool) : Divided m (turned 32 (bits32 m)) m.length 0 (~~~0) := by
  refine ⟨by rw [turned_len]; simp [bits32], fun i hi => absurd hi (by omega), fun i => ?_⟩
  rw [turned_get _ _ (by simp [bits32]), bits32_get, Nat.zero_add, BitVec.getLsbD_not]
  simp
/-- the rest's bits, put together -/
def gather (l : List Bool) (top : Nat) : Nat → W32
  | 0 => 0
  | j + 1 => gather l top j * 2 + bw (!(l.getD (top - 1 - j) false))
theorem shift_more (x : W32) (j : Nat) (hj : j < 32) : x >>> (31 - j) = (x >>> (32 - j)) * 2 + bw (x.getLsbD (31 - j)) := by
  apply BitVec.eq_of_toNat_eq
  have hx := x.isLt
  have hb : x.getLsbD (31 - j) = decide (x.toNat / 2 ^ (31 - j) % 2 = 1) := by
    rw [← BitVec.testBit_toNat, Nat.testBit_eq_decide_div_mod_eq]
  have hp : 2 ^ (32 - j) = 2 ^ (31 - j) * 2 := by rw [← Nat.pow_succ]; congr 1; omega
  have hle : x.toNat / 2 ^ (31 - j) ≤ x.toNat := Nat.div_le_self _ _
  rw [hb, BitVec.toNat_add, BitVec.toNat_mul, BitVec.toNat_ushiftRight, BitVec.toNat_ushiftRight, Nat.shiftRight_eq_div_pow, Nat.shiftRight_eq_div_pow, hp, ← Nat.div_div_eq_div_mul]
  have h2 : (2 : W32).toNat = 2 := rfl
  rw [h2]
  generalize x.toNat / 2 ^ (31 - j) = y at *
  have hbw : (bw (decide (y % 2 = 1))).toNat = y % 2 := by
    rcases Nat.mod_two_eq_zero_or_one y with h | h <;> rw [h] <;> rfl
  rw [hbw]
  omega
theorem gather_is {m l : List Bool} {c : W32} (h : Divided m l m.length m.length c) : ∀ j, j ≤ 32 → gather l (m.length + 32) j = (~~~c) >>> (32 - j) := by
  intro j
  induction j with
  | zero =>
    intro _
    apply BitVec.eq_of_getLsbD_eq
    intro i hi
    rw [BitVec.getLsbD_ushiftRight, BitVec.getLsbD_of_ge (~~~c) _ (by omega)]
    simp [gather]
  | succ j ih =>
    intro hj
    rw [gather, ih (by omega), show 32 - (j + 1) = 31 - j by omega, shift_more _ _ (by omega)]
    congr 2
    have := h.hi (31 - j)
    rw [show m.length + 32 - 1 - j = m.length + (31 - j) by omega, this, List.getD_eq_getElem?_getD, List.getElem?_eq_none (by omega), BitVec.getLsbD_not]
    simp [show 31 - j < 32 by omega]
theorem poly_crc (bs : List UInt8) : gather (dividing (bitsOf bs).length (turned 32 (bits32 (bitsOf bs)))) ((bitsOf bs).length + 32) 32 = crc bs := by
  have h := dividing_is (divided_start (bitsOf bs)) (Nat.le_refl _) _ (Nat.le_refl _)
  rw [List.take_length] at h
  rw [gather_is h 32 (Nat.le_refl _), crc, crcFrom_bits]
  simp
end Go.Proofs.Ytiaepnlhedgicaa
