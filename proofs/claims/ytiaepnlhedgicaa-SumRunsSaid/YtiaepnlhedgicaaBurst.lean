/- PLAIN: CRC-32 bit by bit: it is a fold over the bits; a step can be undone; up to 32 bits in a row that are changed are seen. -/
import Derived.Test.YtiaepnlhedgicaaSha
namespace Go.Proofs.Ytiaepnlhedgicaa
set_option linter.unusedVariables false
set_option linter.unusedSimpArgs false
def bw (b : Bool) : W32 := if b then 1 else 0
def polyIf (b : Bool) : W32 := if b then 0xedb88320 else 0
theorem and1 (c : W32) : (c &&& 1 = 1) ↔ c.getLsbD 0 = true := by
  constructor
  · intro h
    have := congrArg (fun x : W32 => x.getLsbD 0) h
    simpa using this
  · intro h
    apply BitVec.eq_of_getLsbD_eq
    intro i hi
    rcases Nat.eq_zero_or_pos i with rfl | hp
    · simp [h]
    · have : (1 : W32).getLsbD i = false := by simp [BitVec.getLsbD_one]; omega
      simp [this]
      omega
theorem crcBit_eq (c : W32) : crcBit c = (c >>> 1) ^^^ polyIf (c.getLsbD 0) := by
  unfold crcBit polyIf
  by_cases h : c &&& 1 = 1
  · rw [if_pos h, if_pos ((and1 c).1 h)]
  · rw [if_neg h, if_neg (fun e => h ((and1 c).2 e))]; simp
theorem bw_hi (b : Bool) (i : Nat) : (bw b).getLsbD (1 + i) = false := by
  cases b
  · simp [bw]
  · show BitVec.getLsbD (1#32) (1 + i) = false
    rw [BitVec.getLsbD_one]; simp
theorem bw_0 (b : Bool) : (bw b).getLsbD 0 = b := by cases b <;> simp [bw]
theorem crcBit_split (c y : W32) (b : Bool) (hy : y.getLsbD 31 = false) : crcBit (c ^^^ (y <<< 1 ^^^ bw b)) = crcBit (c ^^^ bw b) ^^^ y := by
  rw [crcBit_eq, crcBit_eq]
  have h0 : (c ^^^ (y <<< 1 ^^^ bw b)).getLsbD 0 = (c ^^^ bw b).getLsbD 0 := by simp
  rw [h0]
  generalize polyIf _ = P
  apply BitVec.eq_of_getLsbD_eq
  intro i hi
  simp only [BitVec.getLsbD_xor, BitVec.getLsbD_ushiftRight, BitVec.getLsbD_shiftLeft]
  rcases Nat.lt_or_ge (1 + i) 32 with h | h
  · have : ¬ (1 + i < 1) := by omega
    simp only [h, this, decide_true, decide_false, Bool.not_false, Bool.true_and, Nat.add_sub_cancel_left]
    cases c.getLsbD (1 + i) <;> cases y.getLsbD i <;> cases (bw b).getLsbD (1 + i) <;> cases P.getLsbD i <;> rfl
  · have hi' : i = 31 := by omega
    subst hi'
    have hy' : y[31] = false := by simpa using hy
    simp [hy']
theorem crcBit_inj {c d : W32} (h : crcBit c = crcBit d) : c = d := by
  rw [crcBit_eq, crcBit_eq] at h
  have top : ∀ e : W32, ((e >>> 1) ^^^ polyIf (e.getLsbD 0)).getLsbD 31 = e.getLsbD 0 := by
    intro e
    rw [BitVec.getLsbD_xor, BitVec.getLsbD_ushiftRight]
    have : e.getLsbD (1 + 31) = false := BitVec.getLsbD_of_ge _ _ (by omega)
    rw [this]
    cases e.getLsbD 0 <;> decide
  have h0 : c.getLsbD 0 = d.getLsbD 0 := by rw [← top c, h, top d]
  rw [h0] at h
  have h1 : c >>> 1 = d >>> 1 := by
    have := congrArg (fun x => x ^^^ polyIf (d.getLsbD 0)) h
    simpa [BitVec.xor_assoc] using this
  apply BitVec.eq_of_getLsbD_eq
  intro i hi
  cases i with
  | zero => exact h0
  | succ i =>
    have := congrArg (fun x : W32 => x.getLsbD i) h1
    simpa [BitVec.getLsbD_ushiftRight, Nat.add_comm] using this
theorem crcTimes_inj (n : Nat) : ∀ {c d : W32}, crcTimes n c = crcTimes n d → c = d := by
  induction n with
  | zero => exact fun h => h
  | succ n ih => exact fun h => crcBit_inj (ih h)
/-- a step with one bit of the text -/
def crcIn (c : W32) (b : Bool) : W32 := crcBit (c ^^^ bw b)
def crcBits (c : W32) (u : List Bool) : W32 := u.foldl crcIn c
def wordOf : List Bool → W32
  | [] => 0
  | b :: u => wordOf u <<< 1 ^^^ bw b
theorem wordOf_bit : ∀ (u : List Bool) (i : Nat), i < 32 → (wordOf u).getLsbD i = u.getD i false := by
  intro u
  induction u with
  | nil => intro i hi; simp [wordOf]
  | cons b u ih =>
    intro i hi
    cases i with
    | zero =>
      have := bw_0 b
      simp only [BitVec.getLsbD_eq_getElem (show 0 < 32 by omega)] at this
      simp [wordOf, this]
    | succ i =>
      have hb : (bw b).getLsbD (i + 1) = false := by rw [Nat.add_comm]; exact bw_hi b i
      have h1 := ih i (by omega)
      rw [wordOf, BitVec.getLsbD_xor, hb, BitVec.getLsbD_shiftLeft]
      simp only [hi, decide_true, Bool.true_and, Bool.xor_false, Nat.add_sub_cancel, h1, List.getD_cons_succ]
      simp
theorem crcBits_word : ∀ (u : List Bool) (c : W32), u.length ≤ 32 → crcBits c u = crcTimes u.length (c ^^^ wordOf u) := by
  intro u
  induction u with
  | nil => intro c _; simp [crcBits, crcTimes, wordOf]
  | cons b u ih =>
    intro c h
    simp only [List.length_cons] at h
    show crcBits (crcIn c b) u = crcTimes u.length (crcBit (c ^^^ (wordOf u <<< 1 ^^^ bw b)))
    rw [ih _ (by omega), crcBit_split _ _ _ (by rw [wordOf_bit _ _ (by omega), List.getD_eq_getElem?_getD, List.getElem?_eq_none (by omega)]; rfl)]
    rfl
def bits8 (x : UInt8) : List Bool := (List.range 8).map fun i => x.toBitVec.getLsbD i
theorem bits8_len (x : UInt8) : (bits8 x).length = 8 := by simp [bits8]
theorem bits8_get (x : UInt8) (i : Nat) : (bits8 x).getD i false = x.toBitVec.getLsbD i := by
  rw [List.getD_eq_getElem?_getD]
  simp only [bits8, List.getElem?_map]
  rcases Nat.lt_or_ge i 8 with h | h
  · rw [List.getElem?_range h]; rfl
  · rw [List.getElem?_eq_none (by simpa using h), BitVec.getLsbD_of_ge _ _ h]; rfl
theorem wordOf_bits8 (x : UInt8) : wordOf (bits8 x) = w8 x := by
  apply BitVec.eq_of_getLsbD_eq
  intro i hi
  rw [wordOf_bit _ _ hi, bits8_get]
  simp [w8, BitVec.getLsbD_setWidth, hi]
theorem crcByte_bits (c : W32) (x : UInt8) : crcByte c x = crcBits c (bits8 x) := by
  rw [crcBits_word _ _ (by rw [bits8_len]; omega), wordOf_bits8, bits8_len]; rfl
def bitsOf (l : List UInt8) : List Bool := l.flatMap bits8
theorem bitsOf_len (l : List UInt8) : (bitsOf l).length = 8 * l.length := by
  induction l with
  | nil => rfl
  | cons x l ih => simp only [bitsOf, List.flatMap_cons, List.length_append, bits8_len, List.length_cons]; simp only [bitsOf] at ih; omega
theorem crcFrom_bits : ∀ (l : List UInt8) (c : W32), crcFrom c l = crcBits c (bitsOf l) := by
  intro l
  induction l with
  | nil => intro c; rfl
  | cons x l ih =>
    intro c
    show crcFrom (crcByte c x) l = _
    rw [ih, crcByte_bits]
    simp [crcBits, bitsOf]
theorem crcBits_inj (u : List Bool) : ∀ {c d : W32}, crcBits c u = crcBits d u → c = d := by
  induction u with
  | nil => exact fun h => h
  | cons b u ih =>
    intro c d h
    have := crcBit_inj (ih (c := crcIn c b) (d := crcIn d b) h)
    have := congrArg (fun x => x ^^^ bw b) this
    simpa [BitVec.xor_assoc] using this
theorem crcBits_short {c : W32} {u v : List Bool} (hl : u.length = v.length) (h32 : u.length ≤ 32) (h : crcBits c u = crcBits c v) : u = v := by
  rw [crcBits_word _ _ h32, crcBits_word _ _ (by omega), ← hl] at h
  have := crcTimes_inj _ h
  have hw : wordOf u = wordOf v := by
    have := congrArg (fun x => c ^^^ x) this
    simpa [← BitVec.xor_assoc] using this
  apply List.ext_getElem hl
  intro i h1 h2
  have := congrArg (fun x : W32 => x.getLsbD i) hw
  have : (wordOf u).getLsbD i = (wordOf v).getLsbD i := this
  rw [wordOf_bit _ _ (by omega), wordOf_bit _ _ (by omega)] at this
  simpa [List.getD_eq_getElem?_getD, h1, h2] using this
/-- bits that differ in a window of 32 at most have other sums -/
theorem crcBits_window {c : W32} {p u v s : List Bool} (hl : u.length = v.length) (h32 : u.length ≤ 32) (h : crcBits c (p ++ u ++ s) = crcBits c (p ++ v ++ s)) : u = v := by
  simp only [crcBits, List.foldl_append] at h
  exact crcBits_short hl h32 (crcBits_inj s h)
theorem bitsOf_inj : ∀ {l m : List UInt8}, bitsOf l = bitsOf m → l.length = m.length → l = m := by
  intro l
  induction l with
  | nil => intro m _ h; simpa using h.symm
  | cons x l ih =>
    intro m h hl
    cases m with
    | nil => simp at hl
    | cons y m =>
      simp only [bitsOf, List.flatMap_cons] at h
      obtain ⟨h1, h2⟩ := List.append_inj h (by rw [bits8_len, bits8_len])
      have hxy : x = y := by
        have : w8 x = w8 y := by rw [← wordOf_bits8, h1, wordOf_bits8]
        have h8 : x.toBitVec = y.toBitVec := by
          apply BitVec.eq_of_getLsbD_eq
          intro i hi
          rw [← bits8_get, h1, bits8_get]
        cases x; cases y; simp at h8; rw [h8]
      rw [hxy, ih h2 (by simpa using hl)]
theorem crc_bits (b : List UInt8) : crc b = ~~~(crcBits (~~~0) (bitsOf b)) := by rw [crc, crcFrom_bits]
theorem split3 {α : Type} (l : List α) (at_ n : Nat) : l = l.take at_ ++ (l.drop at_).take n ++ (l.drop at_).drop n := by
  rw [List.append_assoc, List.take_append_drop, List.take_append_drop]
theorem burst {b c : List UInt8} {at_ : Nat} (hl : b.length = c.length) (hs : ∀ i, i < at_ ∨ at_ + 32 ≤ i → (bitsOf b).getD i false = (bitsOf c).getD i false) : crc b = crc c ↔ b = c := by
  constructor
  · intro h
    have hlb : (bitsOf b).length = (bitsOf c).length := by rw [bitsOf_len, bitsOf_len, hl]
    rw [crc_bits, crc_bits] at h
    have h := congrArg (fun x : W32 => ~~~x) h
    simp only [BitVec.not_not] at h
    have hg : ∀ i (h1 : i < (bitsOf b).length) (h2 : i < (bitsOf c).length), i < at_ ∨ at_ + 32 ≤ i → (bitsOf b)[i] = (bitsOf c)[i] := by
      intro i h1 h2 h3
      have := hs i h3
      rwa [List.getD_eq_getElem?_getD, List.getD_eq_getElem?_getD, List.getElem?_eq_getElem h1, List.getElem?_eq_getElem h2] at this
    have hp : (bitsOf b).take at_ = (bitsOf c).take at_ := by
      apply List.ext_getElem (by simp [hlb])
      intro i h1 h2
      simp only [List.length_take] at h1 h2
      rw [List.getElem_take, List.getElem_take]
      exact hg i (by omega) (by omega) (Or.inl (by omega))
    have hq : ((bitsOf b).drop at_).drop 32 = ((bitsOf c).drop at_).drop 32 := by
      apply List.ext_getElem (by simp [hlb])
      intro i h1 h2
      simp only [List.length_drop] at h1 h2
      simp only [List.getElem_drop]
      exact hg _ (by omega) (by omega) (Or.inr (by omega))
    rw [split3 (bitsOf b) at_ 32, split3 (bitsOf c) at_ 32, hp, hq] at h
    have hu := crcBits_window (by simp [hlb]) (by simp; omega) h
    apply bitsOf_inj _ hl
    rw [split3 (bitsOf b) at_ 32, split3 (bitsOf c) at_ 32, hp, hq, hu]
  · rintro rfl; rfl
end Go.Proofs.Ytiaepnlhedgicaa
