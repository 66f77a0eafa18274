/- WireWrites, in plain Lean: what is written is read again. -/
import Derived.Test.YtdaiondcaecklaaRef4
import Derived.Test.YtdaiondcaecklaaOpenP
import Derived.Test.YtdaiondcaecklaaOnePlain
namespace Go.Proofs.Ytdaiondcaecklaa
set_option linter.unusedVariables false
set_option linter.unusedSimpArgs false
open Go
theorem drop_at {α : Type} {b : List α} {i : Nat} {x : α} {t : List α} (h : b.drop i = x :: t) : i < b.length ∧ b[i]? = some x ∧ b.drop (i + 1) = t := by
  have hl : i < b.length := by
    rcases Nat.lt_or_ge i b.length with h' | h'
    · exact h'
    · rw [List.drop_eq_nil_of_le h'] at h; cases h
  rw [List.drop_eq_getElem_cons hl] at h
  injection h with h1 h2
  exact ⟨hl, by rw [List.getElem?_eq_getElem hl, h1], h2⟩
theorem byte_read {b : List UInt8} {i : Nat} {x : UInt8} {t : List UInt8} (h : b.drop i = x :: t) : (⟨b, i, 0⟩ : Rd).byte = (x.toNat, ⟨b, i + 1, 0⟩) := by
  obtain ⟨h1, h2, _⟩ := drop_at h
  unfold Rd.byte
  rw [if_pos rfl, if_pos h1]
  simp only [List.getD_eq_getElem?_getD, h2, Option.getD_some]
theorem numGo_read {b t : List UInt8} : ∀ (f k n y i : Nat), k + f = 10 → (k = 0 ∨ y ≠ 0) → y < 2 ^ (64 - 7 * k) → 0 < f → b.drop i = numB y ++ t → Rd.numGo f k n ⟨b, i, 0⟩ = (n + y * 2 ^ (7 * k), ⟨b, i + (numB y).length, 0⟩)
  | 0, _, _, _, _, _, _, _, hf, _ => absurd hf (Nat.lt_irrefl _)
  | f + 1, k, n, y, i, hk, h0, hy, _, h => by
    have h9 : k = 9 → y < 2 := by rintro rfl; simpa using hy
    unfold Rd.numGo
    by_cases hs : y < 128
    · rw [numB_small hs] at h ⊢
      have hb := byte_read (t := t) (by simpa using h)
      have hx : (UInt8.ofNat y).toNat = y := by simp; omega
      rw [hb]
      simp only [hx]
      rw [if_neg (by simp), if_neg (by omega), if_pos hs, Nat.mod_eq_of_lt hs]
      simp
    · rw [numB_big hs] at h ⊢
      have hx : (UInt8.ofNat (y % 128 + 128)).toNat = y % 128 + 128 := by
        rw [UInt8.toNat_ofNat']; omega
      generalize UInt8.ofNat (y % 128 + 128) = d at *
      have hb := byte_read (t := numB (y / 128) ++ t) (by simpa using h)
      rw [hb]
      simp only [hx]
      have hk8 : k ≤ 8 := by
        rcases Nat.lt_or_ge 8 k with h' | h'
        · have := h9 (by omega); omega
        · exact h'
      rw [if_neg (by simp), if_neg (by omega), if_neg (by omega)]
      have hp : 2 ^ (64 - 7 * k) = 128 * 2 ^ (64 - 7 * (k + 1)) := by
        rw [show 64 - 7 * k = 7 + (64 - 7 * (k + 1)) by omega, Nat.pow_add]
      have := numGo_read (t := t) f (k + 1) (n + (y % 128 + 128) % 128 * 2 ^ (7 * k)) (y / 128) (i + 1) (by omega) (Or.inr (by omega))
        (by rw [Nat.div_lt_iff_lt_mul (by omega), Nat.mul_comm, ← hp]; exact hy) (by omega) (drop_at h).2.2
      rw [this]
      have e : n + (y % 128 + 128) % 128 * 2 ^ (7 * k) + y / 128 * 2 ^ (7 * (k + 1)) = n + y * 2 ^ (7 * k) := by
        rw [show 7 * (k + 1) = 7 + 7 * k by omega, Nat.pow_add, ← Nat.mul_assoc, Nat.add_assoc, ← Nat.add_mul]
        congr 2; omega
      rw [e]
      simp; omega
theorem num_read {b t : List UInt8} {n most i : Nat} (hn : n < 18446744073709551616) (hle : n ≤ most) (h : b.drop i = numB n ++ t) : Rd.num most ⟨b, i, 0⟩ = (n, ⟨b, i + (numB n).length, 0⟩) := by
  have hg := numGo_read (t := t) 10 0 0 n i rfl (Or.inl rfl) (by simpa using hn) (by omega) h
  unfold Rd.num
  rw [hg]
  simp
  omega
theorem take_read {b x t : List UInt8} {i n : Nat} (hn : n = x.length) (h : b.drop i = x ++ t) (hi : i ≤ b.length) : Rd.takeL n ⟨b, i, 0⟩ = (x, ⟨b, i + x.length, 0⟩) := by
  subst hn
  have hl := congrArg List.length h
  simp only [List.length_drop, List.length_append] at hl
  unfold Rd.takeL
  rw [if_pos rfl, if_pos (show i + x.length ≤ b.length by omega)]
  simp only [h, List.take_left']
theorem drop_drop_at {b x t : List UInt8} {i : Nat} (h : b.drop i = x ++ t) : b.drop (i + x.length) = t := by
  rw [← List.drop_drop, h, List.drop_left']; rfl
theorem text_read {b x t : List UInt8} {i : Nat} (h : b.drop i = (numB x.length ++ x) ++ t) (hi : i ≤ b.length) (hx : x.length ≤ 4096) : Rd.text ⟨b, i, 0⟩ = (x, ⟨b, i + (numB x.length ++ x).length, 0⟩) := by
  rw [List.append_assoc] at h
  unfold Rd.text
  have hl := congrArg List.length h
  simp only [List.length_drop, List.length_append] at hl
  rw [num_read (by omega) hx h]
  simp only
  rw [take_read rfl (drop_drop_at h) (by omega)]
  simp; omega
theorem sum_read {b x t : List UInt8} {i : Nat} (h : b.drop i = x ++ t) (hi : i ≤ b.length) (hx : x.length = 32) : Rd.sum ⟨b, i, 0⟩ = x ∧ (Rd.takeL 32 ⟨b, i, 0⟩).2 = ⟨b, i + x.length, 0⟩ := by
  have ht := take_read (n := 32) hx.symm h hi
  unfold Rd.sum
  rw [ht]
  simp [hx]
theorem zag_zig (n : Int) (h1 : -9223372036854775808 ≤ n) (h2 : n ≤ 9223372036854775807) : zagI (zigN n) = n := by
  unfold zigN zagI
  split <;> split <;> omega
theorem low4_fix4 {n : Nat} (h : n < 4294967296) : low4 (fix4 n) = n := by
  have e : ∀ m, (UInt8.ofNat m).toNat = m % 256 := fun m => by simp
  simp only [fix4, low4, e]
  omega
/-- a part's bytes -/
def Prt.out (q : Prt) : List UInt8 :=
  if q.kind = 0 then q.bs else if q.kind = 1 then numB q.n else if q.kind = 2 then numB (zigN (RowKit.wrap64 q.n)) else if q.kind = 3 then fix4 (q.n % 4294967296)
  else if q.kind = 4 then numB q.bs.length ++ q.bs else if q.kind = 5 then q.sum else []
def outAll (ps : List Prt) : List UInt8 := ps.flatMap Prt.out
theorem wrap_i64_bd (n : Int) : -9223372036854775808 ≤ RowKit.wrap64 n ∧ RowKit.wrap64 n ≤ 9223372036854775807 := by
  unfold RowKit.wrap64; omega
theorem out_len {w : World} {q : Prt} (h : q.Ok w) (hb : q.bs.length ≤ 500) : q.out.length ≤ 520 := by
  have h1 := numB_len h.n
  have hw := wrap_i64_bd q.n
  have h2 := numB_len (zigN_lt hw.1 hw.2)
  have h3 := numB_len (n := q.bs.length) (by omega)
  have h4 := h.sum
  unfold Prt.out
  repeat' split
  all_goals first | omega | (simp [fix4]; done) | (simp; omega)
theorem outAll_len {w : World} : ∀ (ps : List Prt), (∀ q ∈ ps, q.Ok w ∧ q.bs.length ≤ 500) → (outAll ps).length ≤ 520 * ps.length
  | [], _ => by simp [outAll]
  | q :: ps, h => by
    have h1 := out_len (h q (by simp)).1 (h q (by simp)).2
    have h2 := outAll_len ps fun q hq => h q (by simp [hq])
    unfold outAll at h2 ⊢
    simp only [List.flatMap_cons, List.length_append, List.length_cons]; omega
theorem outAll_succ (ps : List Prt) (i : Nat) (h : i < ps.length) : outAll (ps.take (i + 1)) = outAll (ps.take i) ++ ps[i].out := by
  unfold outAll
  rw [List.take_succ_eq_append_getElem h, List.flatMap_append, List.flatMap_cons, List.flatMap_nil, List.append_nil]
theorem outAll_at (ps : List Prt) (i : Nat) (h : i < ps.length) : (outAll ps).drop (outAll (ps.take i)).length = ps[i].out ++ outAll (ps.drop (i + 1)) := by
  have e : outAll ps = outAll (ps.take i) ++ (ps[i].out ++ outAll (ps.drop (i + 1))) := by
    unfold outAll
    conv => lhs; rw [← List.take_append_drop i ps, List.drop_eq_getElem_cons h, List.flatMap_append, List.flatMap_cons]
  rw [e, List.drop_left']; rfl
theorem outAll_le (ps : List Prt) (i : Nat) : (outAll (ps.take i)).length ≤ (outAll ps).length := by
  unfold outAll
  conv => rhs; rw [← List.take_append_drop i ps, List.flatMap_append]
  rw [List.length_append]; omega
end Go.Proofs.Ytdaiondcaecklaa
