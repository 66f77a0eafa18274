/- cron: a field. -/
import Derived.Test.YtnbdcdeidhhgoaaDoorCPart
import Derived.Test.YtnbdcdeidhhgoaaDoorCRefT
import Derived.Test.YtnbdcdeidhhgoaaDoorCDates
namespace Go.Proofs.YtnbdcdeidhhgoaaDoor
set_option maxRecDepth 4000
set_option linter.unusedVariables false
set_option linter.unusedSimpArgs false
open Go Go.RowKit
theorem partS_err {L H : Nat} {x : List UInt8} {e : Int} (h : partS L H x = .error e) : e = 1 ∨ e = 8 := by
  unfold partS at h
  split at h
  · rename_i e' hs
    injection h with h
    subst h
    unfold stepS at hs
    split at hs
    · split at hs
      · injection hs with hs; exact Or.inr hs.symm
      · split at hs
        · injection hs with hs; exact Or.inl hs.symm
        · cases hs
    · cases hs
  · split at h
    · injection h with h; exact Or.inr h.symm
    · split at h
      · injection h with h; exact Or.inl h.symm
      · cases h
theorem hasP_nil (n : Nat) : hasP [] n = false := rfl
theorem hasP_snoc (q : List Prt) (p : Prt) (n : Nat) : hasP (q ++ [p]) n = (hasP q n || p.has n) := by simp [hasP]
theorem or_has {M m : Nat} {q : List Prt} {p : Prt} (h1 : ∀ i, M.testBit i = hasP q i) (h2 : ∀ i, m.testBit i = p.has i) : ∀ i, (M ||| m).testBit i = hasP (q ++ [p]) i := by
  intro i
  rw [Nat.testBit_or, h1, h2, hasP_snoc]
def FieldR (r : Except Int (List Prt)) (w : World) (e : Ending) (w' : World) : Prop :=
  (match r with
  | .error c => e = .returned (.tuple #[.int .u64 0, .int .i64 c])
  | .ok q => ∃ m : Nat, e = .returned (.tuple #[.int .u64 m, .int .i64 0]) ∧ m < 18446744073709551616 ∧ ∀ i, m.testBit i = hasP q i) ∧ Ext w w'
theorem part_str (w : World) (x : List UInt8) (L H : Nat) (hL : L ≤ 1) (hH : H ≤ 59) (hLH : L ≤ H) (hs : x.length ≤ 100000) (hm : MX w) :
    Calls Tryd.prog 33 #[.agg #[.int .i64 L, .int .i64 H], strV x] w fun e w' => PartR (partS L H x) w e w' := by
  have h := part_any w (strOf x) L H hL hH hLH (by rw [strOf_size]; exact hs) hm
  rw [tl_strOf] at h
  exact h
def FRel (w : World) (b : Nat) (L H : Nat) (ps : List (List UInt8)) (p : Option Addr) (c : Nat) (m k : Value) (wr : World) : Prop :=
  ∃ (i M : Nat) (q : List Prt), k = .int .i64 i ∧ m = .int .u64 M ∧ i ≤ ps.length ∧ M < 18446744073709551616 ∧ partsS L H (ps.take i) = .ok q ∧ (∀ j, M.testBit j = hasP q j) ∧ Has w wr [tRow (.slice p ps.length c) ps, blkA b 76 #[.int .i64 L, .int .i64 H]]
theorem parts_round {L H : Nat} {ps : List (List UInt8)} {i : Nat} {q : List Prt} (hi : i < ps.length) (h : partsS L H (ps.take i) = .ok q) :
    (∀ e, partS L H ps[i] = .error e → partsS L H ps = .error e) ∧ (∀ p, partS L H ps[i] = .ok p → partsS L H (ps.take (i + 1)) = .ok (q ++ [p])) := by
  have h1 : ps = ps.take i ++ ps[i] :: ps.drop (i + 1) := by rw [← List.drop_eq_getElem_cons, List.take_append_drop]
  constructor
  · intro e he
    rw [h1, partsS_snoc h, he]
  · intro p hp
    rw [List.take_succ_eq_append_getElem hi, partsS_snoc h, hp]
    rfl
theorem take_len {α : Type} (l : List α) : l.take l.length = l := List.take_of_length_le (Nat.le_refl _)
set_option maxHeartbeats 1000000 in
theorem field_any (w : World) (x : List UInt8) (L H : Nat) (hL : L ≤ 1) (hH : H ≤ 59) (hLH : L ≤ H) (hs : x.length ≤ 1000) (hm : MX w) :
    Calls Tryd.prog 21 #[.agg #[.int .i64 L, .int .i64 H], strV x] w fun e w' => FieldR (fieldS L H x) w e w' := by
  have H1 := (Has.nil (Ext.refl w)).new .nil 76 #[.int .i64 L, .int .i64 H]
  have hsp := split_any (w.alloc (.cells #[.int .i64 L, .int .i64 H] 76)) (strOf x) 44 (by rw [strOf_size]; omega) (hm.ext H1.base)
  rw [tl_strOf] at hsp
  have hll := splitL_len 44 x
  have hle := splitL_le 44 x
  unfold fieldS
  generalize splitL 44 x = ps at *
  obtain ⟨R, hR⟩ : ∃ R, partsS L H ps = R := ⟨_, rfl⟩
  rw [hR]
  have HR := Lib.hid hR
  clear hR
  go_enter Tryd.func21, Tryd.ntmps21
  go_wp2_with fail
  refine hsp.mono ?_
  rintro e w2 ⟨v, rfl, hown, hE⟩
  clear hsp
  obtain ⟨p, c, rfl⟩ := ownsRow_slice hown
  have H2 : Has w w2 [tRow (.slice p ps.length c) ps, blkA w.heap.size 76 #[.int .i64 L, .int .i64 H]] := Has.fresh H1 (.cons (blkA_loc _ _ _) .nil) hE hown
  clear hown hE H1
  obtain ⟨b, hb⟩ : ∃ b, w.heap.size = b := ⟨_, rfl⟩
  rw [hb] at H2 ⊢
  clear hb
  go_wp2_with fail
  go_loopw [6, 14] (fun m k wr => FRel w b L H ps p c m k wr) (fun _ k _ => ((ps.length : Int) + 1 - intOf k).toNat)
  case atStart => exact ⟨0, 0, [], rfl, rfl, by omega, by decide, rfl, fun j => by rw [Nat.zero_testBit]; rfl, H2⟩
  case round =>
    clear H2
    obtain ⟨i, M, q, rfl, rfl, hi, hM, hq, hMq, hH2⟩ := hrel
    have LL : Locs [tRow (.slice p ps.length c) ps, blkA b 76 #[.int .i64 L, .int .i64 H]] := .cons (tRow_loc _ _) (.cons (blkA_loc _ _ _) .nil)
    by_cases hlt : (i : Int) < ps.length
    · have hin : i < ps.length := by omega
      obtain ⟨hbad, hok⟩ := parts_round hin hq
      obtain ⟨g, rfl, hc⟩ := row_at hH2.row0 (show (ps.map strV)[i]? = some (strV ps[i]) by rw [List.getElem?_map, List.getElem?_eq_getElem hin]; rfl)
      have hx := hle _ (List.getElem_mem hin)
      generalize ps[i] = y at *
      have hblk := hH2.swap.blk0
      have b0 : wr.cell? ⟨b, 0, none⟩ = some (.int .i64 L) := cell_of_row _ _ 0 _ _ _ hblk
      have b1 : wr.cell? ⟨b, 1, none⟩ = some (.int .i64 H) := cell_of_row _ _ 1 _ _ _ hblk
      have hp := part_str wr y L H hL hH hLH (by omega) (hm.ext hH2.base)
      have HB := Lib.hid hbad
      have HO := Lib.hid hok
      clear hbad hok hq hblk
      go_wp2_with fail
      refine hp.mono ?_
      rintro e w3 ⟨hr, hE⟩
      clear hp b0 b1 hc
      have hH3 := hH2.ext LL hE
      clear hH2
      cases hpy : partS L H y with
      | error e' =>
        rw [hpy] at hr
        have e1 := HB.out e' hpy
        have e2 := HR.out
        rw [e1] at e2
        subst e2
        simp only [] at hr
        subst hr
        rcases partS_err hpy with rfl | rfl
        · go_wp2_with fail
          go_ret2
          exact ⟨rfl, hH3.base⟩
        · go_wp2_with fail
          go_ret2
          exact ⟨rfl, hH3.base⟩
      | ok pp =>
        rw [hpy] at hr
        have HQ := Lib.hid (HO.out pp hpy)
        obtain ⟨m, rfl, hm2, hmt⟩ := hr
        have HT := Lib.hid (or_has hMq hmt)
        clear hMq hmt
        go_wp2_with fail
        rw [or_nat_u64 M m hM hm2]
        exact ⟨⟨i + 1, M ||| m, q ++ [pp], by go_num, rfl, by omega, Nat.or_lt_two_pow (n := 64) hM hm2, HQ.out, HT.out, hH3⟩, by simp [intOf]; omega⟩
    · have hin : i = ps.length := by omega
      subst hin
      rw [take_len, HR.out] at hq
      subst hq
      go_wp2_with fail
      go_ret2
      exact ⟨⟨M, rfl, hM, hMq⟩, hH2.base⟩
/-- the bits of a set of numbers -/
def bitsOf (f : Nat → Bool) : Nat → Nat
  | 0 => 0
  | k + 1 => bitsOf f k ||| (if f k = true then 2 ^ k else 0)
theorem bitsOf_test (f : Nat → Bool) : ∀ k i, (bitsOf f k).testBit i = (decide (i < k) && f i)
  | 0, i => by simp [bitsOf]
  | k + 1, i => by
    rw [bitsOf, Nat.testBit_or, bitsOf_test f k i]
    by_cases h : f k = true
    · rw [if_pos h, Nat.testBit_two_pow]
      by_cases e : k = i
      · subst e; simp [h]
      · have : (decide (i < k + 1)) = decide (i < k) := by rw [Bool.eq_iff_iff]; simp; omega
        simp [e, this]
    · rw [if_neg h]
      have hf : f k = false := by simpa using h
      by_cases e : k = i
      · subst e; simp [hf]
      · have : (decide (i < k + 1)) = decide (i < k) := by rw [Bool.eq_iff_iff]; simp; omega
        simp [this]
def mask (q : List Prt) : Nat := bitsOf (hasP q) 64
theorem bitsOf_lt (f : Nat → Bool) : ∀ k, k ≤ 64 → bitsOf f k < 18446744073709551616
  | 0, _ => by simp [bitsOf]
  | k + 1, h => by
    rw [bitsOf]
    refine Nat.or_lt_two_pow (n := 64) (bitsOf_lt f k (by omega)) ?_
    split
    · exact Nat.pow_lt_pow_right (by omega) (by omega)
    · decide
theorem mask_lt (q : List Prt) : mask q < 18446744073709551616 := bitsOf_lt _ 64 (Nat.le_refl _)
theorem mask_eq {q : List Prt} {m : Nat} (hm : m < 18446744073709551616) (h : ∀ i, m.testBit i = hasP q i) : m = mask q := by
  apply Nat.eq_of_testBit_eq
  intro i
  rw [mask, bitsOf_test, ← h]
  by_cases hi : i < 64
  · simp [hi]
  · rw [Nat.testBit_lt_two_pow (Nat.lt_of_lt_of_le (n := m) (m := 2 ^ 64) hm (Nat.pow_le_pow_right (by omega) (by omega)))]; simp
theorem partsS_hi {L H : Nat} : ∀ {l : List (List UInt8)} {q : List Prt}, partsS L H l = .ok q → ∀ p ∈ q, L ≤ p.f ∧ p.t ≤ H ∧ 1 ≤ p.s ∧ p.s ≤ 99 ∧ p.f ≤ p.t
  | [], q, h => by injection h with h; subst h; simp
  | x :: l, q, h => by
    rw [partsS] at h
    cases hx : partS L H x with
    | error e => rw [hx] at h; cases h
    | ok p =>
      rw [hx] at h
      simp only [] at h
      cases hl : partsS L H l with
      | error e => rw [hl] at h; cases h
      | ok q' =>
        rw [hl] at h
        injection h with h
        subst h
        intro p' hp'
        rcases List.mem_cons.1 hp' with rfl | hp'
        · have := partS_ok hx; omega
        · exact partsS_hi hl p' hp'
theorem mask_has {L H : Nat} {x : List UInt8} {q : List Prt} (hH : H ≤ 59) (h : fieldS L H x = .ok q) (i : Nat) : (mask q).testBit i = hasP q i := by
  rw [mask, bitsOf_test]
  by_cases hi : i < 64
  · simp [hi]
  · have : hasP q i = false := by
      unfold hasP
      rw [List.any_eq_false]
      intro p hp
      have := partsS_hi h p hp
      unfold Prt.has
      simp; omega
    rw [this]; simp
def fieldV (r : Except Int (List Prt)) : Value :=
  match r with
  | .error c => .tuple #[.int .u64 0, .int .i64 c]
  | .ok q => .tuple #[.int .u64 (mask q), .int .i64 0]
theorem field_fix (w : World) (x : List UInt8) (L H : Nat) (hL : L ≤ 1) (hH : H ≤ 59) (hLH : L ≤ H) (hs : x.length ≤ 1000) (hm : MX w) :
    Calls Tryd.prog 21 #[.agg #[.int .i64 L, .int .i64 H], strV x] w fun e w' => e = .returned (fieldV (fieldS L H x)) ∧ Ext w w' := by
  refine (field_any w x L H hL hH hLH hs hm).mono ?_
  rintro e w' ⟨h, hE⟩
  refine ⟨?_, hE⟩
  cases hf : fieldS L H x with
  | error c => rw [hf] at h; exact h
  | ok q =>
    rw [hf] at h
    obtain ⟨m, h1, h2, h3⟩ := h
    rw [mask_eq h2 h3] at h1
    exact h1
end Go.Proofs.YtnbdcdeidhhgoaaDoor
