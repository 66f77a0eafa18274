/- The walks of a reader's Int, Count, Text, Fixed and Sum. -/
import Derived.Test.YtcnbnhncncgkaaaRNum
import Derived.Laws.BytesArg
import Derived.Laws.CopyRow
import Derived.Laws.Tables
import Derived.Lib.SlBuf
namespace Go.Proofs.Ytcnbnhncncgkaaa
set_option linter.unusedVariables false
set_option linter.unusedSimpArgs false
open Go Go.RowKit
theorem Rd.numGo_lt : ∀ (f k n : Nat) (s : Rd), k + f = 10 → n < 2 ^ (7 * k) → (Rd.numGo f k n s).1 < 18446744073709551616
  | 0, _, _, _, _, _ => by simp [Rd.numGo]
  | f + 1, k, n, s, hk, hn => by
    unfold Rd.numGo
    split
    · simp
    · split
      · simp
      · rename_i hbad
        have hb : k ≤ 8 ∨ s.byte.1 % 128 ≤ 1 := by
          rcases Nat.lt_or_ge k 9 with h | h
          · exact Or.inl (by omega)
          · refine Or.inr ?_
            have : ¬ 1 < s.byte.1 := fun h1 => hbad (Or.inl ⟨by omega, h1⟩)
            omega
        split
        · exact sum_lt k n _ (by omega) hn hb
        · exact Rd.numGo_lt f (k + 1) _ _ (by omega) (shl_sum k n _ hn (by omega))
theorem Rd.num_le (m : Nat) (s : Rd) : (s.num m).1 ≤ m := by
  unfold Rd.num
  split
  · simp
  · split
    · simp
    · omega
theorem Rd.num_lt (m : Nat) (s : Rd) : (s.num m).1 < 18446744073709551616 := by
  unfold Rd.num
  split
  · simp
  · split
    · simp
    · exact Rd.numGo_lt 10 0 0 s rfl (by simp)
def Rd.takeL (n : Nat) (s : Rd) : List UInt8 × Rd :=
  if s.err = 0 then (if s.at_ + n ≤ s.b.length then ((s.b.drop s.at_).take n, { s with at_ := s.at_ + n }) else ([], { s with err := 6 })) else ([], s)
def zagI (n : Nat) : Int := if n % 2 = 0 then ((n / 2 : Nat) : Int) else -((n / 2 : Nat) : Int) - 1
theorem u64_and_one (n : Nat) (hn : n < 18446744073709551616) : bits .and .u64 (n : Int) 1 = ((n % 2 : Nat) : Int) := by
  have := and_nat_u64 n 1 hn (by omega)
  rw [Nat.and_one_is_mod] at this
  exact this
theorem xor_ones64 (a : Nat) (ha : a < 9223372036854775808) : bits .xor .i64 (a : Int) (-1) = -(a : Int) - 1 := by
  show IntKind.i64.wrap ((BitVec.ofInt 64 (a : Int) ^^^ BitVec.ofInt 64 (-1)).toNat : Int) = _
  have e1 : BitVec.ofInt 64 (-1) = BitVec.allOnes 64 := by decide
  have e2 : (BitVec.ofInt 64 (a : Int)).toNat = a := by
    rw [BitVec.ofInt_natCast, BitVec.toNat_ofNat]; exact Nat.mod_eq_of_lt (by omega)
  rw [e1, BitVec.xor_allOnes, BitVec.toNat_not, e2, IntKind.wrap_i64]
  omega
theorem xor_zero64 (a : Nat) (ha : a < 9223372036854775808) : bits .xor .i64 (a : Int) 0 = (a : Int) := by
  show IntKind.i64.wrap ((BitVec.ofInt 64 (a : Int) ^^^ BitVec.ofInt 64 0).toNat : Int) = _
  have e1 : BitVec.ofInt 64 0 = 0#64 := by decide
  have e2 : (BitVec.ofInt 64 (a : Int)).toNat = a := by
    rw [BitVec.ofInt_natCast, BitVec.toNat_ofNat]; exact Nat.mod_eq_of_lt (by omega)
  rw [e1, BitVec.xor_zero, e2, IntKind.wrap_i64]
  omega
theorem zag_any (n : Nat) (w : World) (hn : n < 18446744073709551616) : Calls Try.prog 22 #[.int .u64 n] w fun e w' => e = .returned (.int .i64 (zagI n)) ∧ w = w' := by
  have ha := u64_and_one n hn
  have x0 := xor_zero64 (n / 2) (by omega)
  have x1 := xor_ones64 (n / 2) (by omega)
  rcases (show n % 2 = 0 ∨ n % 2 = 1 by omega) with h | h
  · have hz : zagI n = ((n / 2 : Nat) : Int) := if_pos h
    have HZ := Lib.hid hz
    rw [h] at ha
    clear hz h x1
    go_enter Try.func22, Try.ntmps22
    go_wp2_with fail
    go_ret
    exact ⟨ret_int (by rw [HZ.out]; exact x0), rfl⟩
  · have hz : zagI n = -((n / 2 : Nat) : Int) - 1 := if_neg (by omega)
    have HZ := Lib.hid hz
    rw [h] at ha
    clear hz h x0
    go_enter Try.func22, Try.ntmps22
    go_wp2_with fail
    go_ret
    exact ⟨ret_int (by rw [HZ.out]; exact x1), rfl⟩
theorem conv_bytes (w : World) (b o c : Nat) (l : List UInt8) (h : ∀ i, i < l.length → w.cell? ⟨b, o + i, none⟩ = some (.int .u8 ((l.getD i 0).toNat : Int))) :
    (convert 27 9 (.slice (some ⟨b, o, none⟩) l.length c)).run Try.prog w = .ok (.string (strOf l)) w :=
  conv_str Try.underlying27 Try.underlying5 Try.underlying9 w b o c l h
section
variable {W : World} {r g c : Nat} {s : Rd} {F : Nat → Prop}
theorem rnum_any (h : rA r s W F) (most : Nat) (hm : most < 18446744073709551616) : Calls Try.prog 23 #[.pointer (some ⟨r, 0, none⟩), .int .u64 most] W fun e' W' => e' = .returned (.int .u64 (s.num most).1) ∧ Next F W W' (rA r (s.num most).2) := by
  obtain ⟨g, c, h, rfl⟩ := h
  exact (rnum_rep h most hm).mono fun _ _ ⟨h1, h2, h3⟩ => ⟨h1, rnext h2 h3⟩
theorem rint_any (h : rA r s W F) : Calls Try.prog 14 #[.pointer (some ⟨r, 0, none⟩)] W fun e' W' => e' = .returned (.int .i64 (zagI (s.num 18446744073709551615).1)) ∧ Next F W W' (rA r (s.num 18446744073709551615).2) := by
  obtain ⟨g, c, h, rfl⟩ := h
  have hl := s.num_lt 18446744073709551615
  have hN := rnum_rep h 18446744073709551615 (by omega)
  generalize (s.num 18446744073709551615).1 = n at *
  generalize (s.num 18446744073709551615).2 = s2 at *
  go_enter Try.func14, Try.ntmps14
  go_wp2_with fail
  refine hN.mono ?_
  rintro e w2 ⟨rfl, h2, ht⟩
  clear hN
  go_wp2_with fail
  refine (zag_any n _ hl).mono ?_
  rintro e w3 ⟨rfl, rfl⟩
  go_wp2_with fail
  go_ret
  exact ⟨rfl, rnext h2 ht⟩
theorem take_bytes (h : RRep W r g c s) (n o : Nat) (hn : o + n ≤ s.b.length) : ∀ i, i < ((s.b.drop o).take n).length → W.cell? ⟨g, o + i, none⟩ = some (.int .u8 ((((s.b.drop o).take n).getD i 0).toNat : Int)) := by
  intro i hi
  have hl : ((s.b.drop o).take n).length = n := by simp; omega
  rw [hl] at hi
  rw [h.byte (o + i) (by omega)]
  congr 3
  rw [List.getD_eq_getElem?_getD, List.getD_eq_getElem?_getD, List.getElem?_take, if_pos hi, List.getElem?_drop]
def Rd.text (s : Rd) : List UInt8 × Rd := (s.num 4096).2.takeL (s.num 4096).1
theorem rtext_any (h : rA r s W F) : Calls Try.prog 15 #[.pointer (some ⟨r, 0, none⟩)] W fun e' W' => e' = .returned (.string (strOf s.text.1)) ∧ Next F W W' (rA r s.text.2) := by
  obtain ⟨g, c, h, rfl⟩ := h
  unfold Rd.text
  have hl := s.num_le 4096
  have hN := rnum_rep h 4096 (by omega)
  generalize (s.num 4096).1 = n at *
  generalize (s.num 4096).2 = s2 at *
  clear h
  by_cases he : s2.err = 0
  · by_cases hb : s2.at_ + n ≤ s2.b.length
    · have ht0 : s2.takeL n = ((s2.b.drop s2.at_).take n, { s2 with at_ := s2.at_ + n }) := by unfold Rd.takeL; rw [if_pos he, if_pos hb]
      rw [ht0]
      clear ht0
      have hlen : ((s2.b.drop s2.at_).take n).length = n := by simp; omega
      have HL := Lib.hid hlen
      have HE := Lib.hid he
      clear hlen he
      by_cases hn0 : n = 0
      · subst hn0
        go_enter Try.func15, Try.ntmps15
        go_wp2_with fail
        refine hN.mono ?_
        rintro e w2 ⟨rfl, h2, ht⟩
        clear hN
        go_wp2_with fail
        refine (take_zero h2 HE.out).mono ?_
        rintro e w3 ⟨⟨o, c', rfl⟩, h3, ht3⟩
        have hcv := conv_bytes w3 g o c' [] (fun i hi => absurd hi (by simp))
        simp only [List.length_nil] at hcv
        clear h2
        go_wp2_with fail
        go_ret
        exact ⟨rfl, rnext h3 (ht.trans ht3 (fun _ h _ => h))⟩
      · go_enter Try.func15, Try.ntmps15
        go_wp2_with fail
        refine hN.mono ?_
        rintro e w2 ⟨rfl, h2, ht⟩
        clear hN
        go_wp2_with fail
        refine (take_some h2 HE.out n (by omega) hb).mono ?_
        rintro e w3 ⟨rfl, h3, ht3⟩
        have hcv := conv_bytes w3 g s2.at_ (c - s2.at_) ((s2.b.drop s2.at_).take n) (take_bytes h3 n s2.at_ hb)
        rw [HL.out] at hcv
        clear h2
        go_wp2_with fail
        go_ret
        exact ⟨rfl, rnext h3 (ht.trans ht3 (fun _ h _ => h))⟩
    · have ht0 : s2.takeL n = ([], { s2 with err := 6 }) := by unfold Rd.takeL; rw [if_pos he, if_neg hb]
      rw [ht0]
      clear ht0
      have HE := Lib.hid he
      clear he
      go_enter Try.func15, Try.ntmps15
      go_wp2_with fail
      refine hN.mono ?_
      rintro e w2 ⟨rfl, h2, ht⟩
      clear hN
      go_wp2_with fail
      refine (take_short h2 HE.out n (by omega) (by omega)).mono ?_
      rintro e w3 ⟨rfl, h3, ht3⟩
      have hcv := run_convert_bytes_nil (P := Try.prog) w3 27 5 Try.underlying27 Try.underlying5 0 0 9 Try.underlying9
      clear h2
      go_wp2_with fail
      go_ret
      exact ⟨rfl, rnext h3 (ht.trans ht3 (fun _ h _ => h))⟩
  · have ht0 : s2.takeL n = ([], s2) := if_neg he
    rw [ht0]
    clear ht0
    go_enter Try.func15, Try.ntmps15
    go_wp2_with fail
    refine hN.mono ?_
    rintro e w2 ⟨rfl, h2, ht⟩
    clear hN
    go_wp2_with fail
    refine (take_err h2 he n).mono ?_
    rintro e w3 ⟨rfl, rfl⟩
    have hcv := run_convert_bytes_nil (P := Try.prog) w2 27 5 Try.underlying27 Try.underlying5 0 0 9 Try.underlying9
    clear he
    go_wp2_with fail
    go_ret
    exact ⟨rfl, rnext h2 ht⟩
end
end Go.Proofs.Ytcnbnhncncgkaaa
