/- cron: a part of a field. -/
import Derived.Test.YtnbdcdeidhhgoaaDoorCPlain
import Derived.Test.YtnbdcdeidhhgoaaDoorSep
namespace Go.Proofs.YtnbdcdeidhhgoaaDoor
set_option maxRecDepth 4000
set_option linter.unusedVariables false
set_option linter.unusedSimpArgs false
open Go Go.RowKit
def PartR (r : Except Int Prt) (w : World) (e : Ending) (w' : World) : Prop :=
  (match r with
  | .error c => e = .returned (.tuple #[.int .u64 0, .int .i64 c])
  | .ok p => ∃ m : Nat, e = .returned (.tuple #[.int .u64 m, .int .i64 0]) ∧ m < 18446744073709551616 ∧ ∀ i, m.testBit i = p.has i) ∧ Ext w w'
theorem mod_gap {F S i j : Nat} (hi : F ≤ i) (hj : F ≤ j) (h1 : (i - F) % S = 0) (h2 : (j - F) % S = 0) (hl : j ≤ i) (hs : i < j + S) : i = j := by
  have d1 := Nat.dvd_of_mod_eq_zero h1
  have d2 := Nat.dvd_of_mod_eq_zero h2
  have d3 := Nat.dvd_sub d1 d2
  have := Nat.eq_zero_of_dvd_of_lt d3 (by omega)
  omega
theorem step_has {F S j M : Nat} (hS : 1 ≤ S) (hFj : F ≤ j) (hj : (j - F) % S = 0) (hM : ∀ i, M.testBit i = decide (F ≤ i ∧ i < j ∧ (i - F) % S = 0)) :
    ∀ i, (M ||| 2 ^ j).testBit i = decide (F ≤ i ∧ i < j + S ∧ (i - F) % S = 0) := by
  intro i
  rw [Nat.testBit_or, hM i, Nat.testBit_two_pow]
  rw [Bool.eq_iff_iff]
  simp only [Bool.or_eq_true, decide_eq_true_eq]
  constructor
  · rintro (⟨a, b, c⟩ | rfl)
    · exact ⟨a, by omega, c⟩
    · exact ⟨hFj, by omega, hj⟩
  · rintro ⟨a, b, c⟩
    by_cases h : i < j
    · exact Or.inl ⟨a, h, c⟩
    · exact Or.inr (mod_gap a hFj c hj (by omega) b).symm
theorem end_has {F S T j M : Nat} (hFj : F ≤ j) (hj : (j - F) % S = 0) (h1 : T < j) (h2 : j ≤ T + S) (hM : ∀ i, M.testBit i = decide (F ≤ i ∧ i < j ∧ (i - F) % S = 0)) :
    ∀ i, M.testBit i = (Prt.mk F T S).has i := by
  intro i
  rw [hM i]
  unfold Prt.has
  rw [Bool.eq_iff_iff]
  simp only [decide_eq_true_eq]
  constructor
  · rintro ⟨a, b, c⟩
    refine ⟨a, ?_, c⟩
    rcases Nat.lt_or_ge T i with h | h
    · have := mod_gap hFj a hj c (by omega) (by omega); omega
    · exact h
  · rintro ⟨a, b, c⟩
    exact ⟨a, by omega, c⟩
theorem or_two_lt {M j : Nat} (h : M < 18446744073709551616) (hj : j < 64) : M ||| 2 ^ j < 18446744073709551616 :=
  Nat.or_lt_two_pow (n := 64) h (Nat.pow_lt_pow_right (by omega) hj)
theorem or_bit (M j : Nat) (hM : M < 18446744073709551616) (hj : j < 64) : bits .or .u64 (M : Int) (IntKind.u64.wrap (2 ^ j)) = ((M ||| 2 ^ j : Nat) : Int) := by
  have hp : 2 ^ j < 18446744073709551616 := Nat.pow_lt_pow_right (a := 2) (n := 64) (by omega) hj
  have e : IntKind.u64.wrap ((2 : Int) ^ j) = ((2 ^ j : Nat) : Int) := by
    have h0 : ((2 : Int) ^ j) = ((2 ^ j : Nat) : Int) := by simp
    rw [h0]
    have h1 : ((2 ^ j : Nat) : Int) < ((18446744073709551616 : Nat) : Int) := Int.ofNat_lt.2 hp
    exact IntWalk.u64_in _ ⟨Int.natCast_nonneg _, Int.le_sub_one_of_lt h1⟩
  rw [e]
  exact or_nat_u64 M (2 ^ j) hM hp
def LoopR (F S T : Nat) (m n : Value) : Prop :=
  ∃ j M : Nat, m = .int .u64 M ∧ n = .int .i64 j ∧ F ≤ j ∧ (j - F) % S = 0 ∧ j ≤ T + S ∧ M < 18446744073709551616 ∧ ∀ i, M.testBit i = decide (F ≤ i ∧ i < j ∧ (i - F) % S = 0)
theorem num_str (w : World) (x : List UInt8) :
    Calls Tryd.prog 54 #[strV x] w fun e w' => e = .returned (.tuple #[.int .i64 ((num x).getD 0 : Nat), .bool (num x).isSome]) ∧ w = w' := by
  have h := number_any w (strOf x)
  rw [tl_strOf] at h
  exact h
theorem cut_str (w : World) (x : List UInt8) (c : UInt8) (hs : x.length ≤ 100000) (hm : MX w) :
    Calls Tryd.prog 53 #[strV x, .string ⟨#[c]⟩] w fun e w' => e = .returned (.tuple #[strV (cutAt c x).1, strV (cutAt c x).2.1, .bool (cutAt c x).2.2]) ∧ Ext w w' := by
  have h := cut_any w (strOf x) c (by rw [strOf_size]; exact hs) hm
  rw [tl_strOf] at h
  exact h
set_option maxHeartbeats 2000000 in
theorem part_any (w : World) (s : ByteArray) (L H : Nat) (hL : L ≤ 1) (hH : H ≤ 59) (hLH : L ≤ H) (hs : s.size ≤ 100000) (hm : MX w) :
    Calls Tryd.prog 33 #[.agg #[.int .i64 L, .int .i64 H], .string s] w fun e w' => PartR (partS L H (tl s)) w e w' := by
  have hE1 : Ext w _ := ext_alloc w (.cells #[.int .i64 L, .int .i64 H] 76)
  have hk := cut_any (w.alloc (.cells #[.int .i64 L, .int .i64 H] 76)) s 47 hs (hm.ext hE1)
  have hle := cutAt_le 47 (tl s)
  obtain ⟨P, hP⟩ : ∃ P, partS L H (tl s) = P := ⟨_, rfl⟩
  rw [hP]
  unfold partS stepS at hP
  obtain ⟨⟨h, x, st⟩, hA⟩ : ∃ A, cutAt 47 (tl s) = A := ⟨_, rfl⟩
  rw [hA] at hP hk hle
  simp only [] at hP hk hle
  clear hA
  rw [tl_length] at hle
  go_enter Tryd.func33, Tryd.ntmps33
  go_wp2_with fail
  refine hk.mono ?_
  rintro e w1 ⟨rfl, hE⟩
  clear hk
  have b0 : w1.cell? ⟨w.heap.size, 0, none⟩ = some (.int .i64 L) := (hE.cell _ _ (by simp)).trans (cell_box _ _ 0)
  have b1 : w1.cell? ⟨w.heap.size, 1, none⟩ = some (.int .i64 H) := (hE.cell _ _ (by simp)).trans (cell_box _ _ 1)
  have hE2 := hE1.trans hE
  clear hE hE1
  cases st with
  | true =>
    simp only [if_true] at hP
    have hn := num_str w1 x
    cases hx : num x with
    | none =>
      rw [hx] at hn hP
      simp only [Option.getD_none, Option.isSome_none] at hn hP
      subst hP
      go_wp2_with fail
      refine hn.mono ?_
      rintro e w2 ⟨rfl, rfl⟩
      clear hn
      go_wp2_with fail
      go_ret2
      exact ⟨rfl, hE2⟩
    | some k =>
      rw [hx] at hn hP
      have hk99 := num_le hx
      simp only [Option.getD_some, Option.isSome_some] at hn hP
      by_cases hk0 : k = 0
      · subst hk0
        rw [if_pos rfl] at hP
        simp only [] at hP
        subst hP
        go_wp2_with fail
        refine hn.mono ?_
        rintro e w2 ⟨rfl, rfl⟩
        clear hn
        go_wp2_with fail
        go_ret2
        exact ⟨rfl, hE2⟩
      · rw [if_neg hk0] at hP
        simp only [] at hP
        have hkb : ((k : Int) == 0) = false := by rw [beq_eq_false_iff_ne]; omega
        go_wp2_with fail
        refine hn.mono ?_
        rintro e w2 ⟨rfl, rfl⟩
        clear hn
        go_wp2_with fail
        have hX : ∀ n, Ext w (w1.drewN n) ∧ MX (w1.drewN n) ∧ (w1.drewN n).cell? ⟨w.heap.size, 0, none⟩ = some (.int .i64 L) ∧ (w1.drewN n).cell? ⟨w.heap.size, 1, none⟩ = some (.int .i64 H) := fun n => ⟨hE2.drewN n, hm.ext (hE2.drewN n), b0, b1⟩
        go_quiet (fail)
        obtain ⟨hE3, hm3, c0, c1⟩ := hX nq
        generalize w1.drewN nq = w3 at *
        clear hX hE2 b0 b1
        rw [show strV h = .string (strOf h) from rfl]
        by_cases hh : h = [42]
        · subst hh
          have ht : ((strOf [42]).toList == [42]) = true := by rw [strOf_toList]; rfl
          have hr : rangeS L H true [42] = some (L, H) := by unfold rangeS; rw [if_pos rfl]
          rw [hr] at hP
          clear hr
          simp only [] at hP
          rw [if_neg (by omega)] at hP
          subst hP
          go_wp2_with fail
          go_loop [19, 20] (fun m n => LoopR L k H m n) (fun _ n => (((H + 1 : Nat) : Int) - intOf n).toNat)
          case atStart => exact ⟨L, 0, rfl, rfl, Nat.le_refl _, by rw [Nat.sub_self, Nat.zero_mod], by omega, by decide, fun i => by rw [Nat.zero_testBit]; exact (decide_eq_false (by omega)).symm⟩
          case round =>
            obtain ⟨j, M, rfl, rfl, hFj, hj, hjT, hM, hMt⟩ := hrel
            by_cases hlt : (j : Int) ≤ (H : Nat)
            · have HM2 := Lib.hid (step_has (by omega) hFj hj hMt)
              have HML := Lib.hid (or_two_lt (j := j) hM (by omega))
              have HJ : Hid ((j + k - L) % k = 0) := Lib.hid (by rw [show j + k - L = j - L + k by omega, Nat.add_mod_right]; exact hj)
              clear hMt hj
              go_wp2_with fail
              rw [or_bit M j hM (by omega)]
              exact ⟨⟨j + k, _, rfl, by go_num, by omega, HJ.out, by omega, HML.out, HM2.out⟩, by simp [intOf]; omega⟩
            · have HM2 := Lib.hid (end_has (S := k) (T := H) hFj hj (by omega) hjT hMt)
              clear hMt hj
              go_wp2_with fail
              go_ret2
              exact ⟨⟨M, rfl, hM, HM2.out⟩, hE3⟩
        · have ht : ((strOf h).toList == [42]) = false := by rw [strOf_toList]; simpa using hh
          have hk := cut_str w3 h 45 (by omega) hm3
          unfold rangeS at hP
          rw [if_neg hh] at hP
          clear hh
          obtain ⟨⟨g, y, d⟩, hA⟩ : ∃ A, cutAt 45 h = A := ⟨_, rfl⟩
          rw [hA] at hP hk
          simp only [] at hP hk
          clear hA
          go_wp2_with fail
          refine hk.mono ?_
          rintro e w4 ⟨rfl, hE⟩
          clear hk
          replace c0 := (hE.cell _ _ (World.block_lt_of_cell? w3 _ c0)).trans c0
          replace c1 := (hE.cell _ _ (World.block_lt_of_cell? w3 _ c1)).trans c1
          have hE4 := hE3.trans hE
          clear hE hE3 hm3 ht
          have hn := num_str w4 g
          cases hg : num g with
          | none =>
            rw [hg] at hn hP
            simp only [Option.getD_none, Option.isSome_none] at hn hP
            subst hP
            go_wp2_with fail
            refine hn.mono ?_
            rintro e w2 ⟨rfl, rfl⟩
            clear hn
            go_wp2_with fail
            go_ret2
            exact ⟨rfl, hE4⟩
          | some F =>
            rw [hg] at hn hP
            have hF99 := num_le hg
            simp only [Option.getD_some, Option.isSome_some] at hn hP
            cases d with
            | true =>
              simp only [if_true] at hP
              have hn2 := num_str w4 y
              cases hy : num y with
              | none =>
                rw [hy] at hn2 hP
                simp only [Option.getD_none, Option.isSome_none, Option.map_none] at hn2 hP
                subst hP
                go_wp2_with fail
                refine hn.mono ?_
                rintro e w2 ⟨rfl, rfl⟩
                clear hn
                go_wp2_with fail
                refine hn2.mono ?_
                rintro e w2 ⟨rfl, rfl⟩
                clear hn2
                go_wp2_with fail
                go_ret2
                exact ⟨rfl, hE4⟩
              | some T =>
                rw [hy] at hn2 hP
                have hT99 := num_le hy
                simp only [Option.getD_some, Option.isSome_some, Option.map_some] at hn2 hP
                by_cases r1 : F < L
                · first
                  | (exfalso; omega)
                  | (have i1 : ((F : Nat) : Int) < L := by omega
                     rw [if_pos (Or.inl r1)] at hP
                     subst hP
                     go_wp2_with fail
                     refine hn.mono ?_
                     rintro e w2 ⟨rfl, rfl⟩
                     clear hn
                     go_wp2_with fail
                     try
                       refine hn2.mono ?_
                       rintro e w2 ⟨rfl, rfl⟩
                       clear hn2
                       go_wp2_with fail
                     go_ret2
                     exact ⟨rfl, hE4⟩)
                by_cases r2 : H < T
                · first
                  | (exfalso; omega)
                  | (have i1 : ¬ ((F : Nat) : Int) < L := by omega
                     have i2 : (H : Int) < (T : Nat) := by omega
                     rw [if_pos (Or.inr (Or.inl r2))] at hP
                     subst hP
                     go_wp2_with fail
                     refine hn.mono ?_
                     rintro e w2 ⟨rfl, rfl⟩
                     clear hn
                     go_wp2_with fail
                     try
                       refine hn2.mono ?_
                       rintro e w2 ⟨rfl, rfl⟩
                       clear hn2
                       go_wp2_with fail
                     go_ret2
                     exact ⟨rfl, hE4⟩)
                by_cases r3 : T < F
                · first
                  | (exfalso; omega)
                  | (have i1 : ¬ ((F : Nat) : Int) < L := by omega
                     have i2 : ¬ (H : Int) < (T : Nat) := by omega
                     have i3 : ((T : Nat) : Int) < (F : Nat) := by omega
                     rw [if_pos (Or.inr (Or.inr r3))] at hP
                     subst hP
                     go_wp2_with fail
                     refine hn.mono ?_
                     rintro e w2 ⟨rfl, rfl⟩
                     clear hn
                     go_wp2_with fail
                     try
                       refine hn2.mono ?_
                       rintro e w2 ⟨rfl, rfl⟩
                       clear hn2
                       go_wp2_with fail
                     go_ret2
                     exact ⟨rfl, hE4⟩)
                rw [if_neg (by omega)] at hP
                subst hP
                have i1 : ¬ ((F : Nat) : Int) < L := by omega
                have i2 : ¬ (H : Int) < (T : Nat) := by omega
                have i3 : ¬ ((T : Nat) : Int) < (F : Nat) := by omega
                go_wp2_with fail
                refine hn.mono ?_
                rintro e w2 ⟨rfl, rfl⟩
                clear hn
                go_wp2_with fail
                try
                  refine hn2.mono ?_
                  rintro e w2 ⟨rfl, rfl⟩
                  clear hn2
                  go_wp2_with fail
                have hE3 := hE4
                go_loop [19, 20] (fun m n => LoopR F k T m n) (fun _ n => (((T + 1 : Nat) : Int) - intOf n).toNat)
                case atStart => exact ⟨F, 0, rfl, rfl, Nat.le_refl _, by rw [Nat.sub_self, Nat.zero_mod], by omega, by decide, fun i => by rw [Nat.zero_testBit]; exact (decide_eq_false (by omega)).symm⟩
                case round =>
                  obtain ⟨j, M, rfl, rfl, hFj, hj, hjT, hM, hMt⟩ := hrel
                  by_cases hlt : (j : Int) ≤ (T : Nat)
                  · have HM2 := Lib.hid (step_has (by omega) hFj hj hMt)
                    have HML := Lib.hid (or_two_lt (j := j) hM (by omega))
                    have HJ : Hid ((j + k - F) % k = 0) := Lib.hid (by rw [show j + k - F = j - F + k by omega, Nat.add_mod_right]; exact hj)
                    clear hMt hj
                    go_wp2_with fail
                    rw [or_bit M j hM (by omega)]
                    exact ⟨⟨j + k, _, rfl, by go_num, by omega, HJ.out, by omega, HML.out, HM2.out⟩, by simp [intOf]; omega⟩
                  · have HM2 := Lib.hid (end_has (S := k) (T := T) hFj hj (by omega) hjT hMt)
                    clear hMt hj
                    go_wp2_with fail
                    go_ret2
                    exact ⟨⟨M, rfl, hM, HM2.out⟩, hE3⟩
            | false =>
              rw [if_neg (by decide)] at hP
              simp only [if_true] at hP
              by_cases r1 : F < L
              · first
                | (exfalso; omega)
                | (have i1 : ((F : Nat) : Int) < L := by omega
                   rw [if_pos (Or.inl r1)] at hP
                   subst hP
                   go_wp2_with fail
                   refine hn.mono ?_
                   rintro e w2 ⟨rfl, rfl⟩
                   clear hn
                   go_wp2_with fail
                   try
                     refine hn2.mono ?_
                     rintro e w2 ⟨rfl, rfl⟩
                     clear hn2
                     go_wp2_with fail
                   go_ret2
                   exact ⟨rfl, hE4⟩)
              by_cases r2 : H < H
              · first
                | (exfalso; omega)
                | (have i1 : ¬ ((F : Nat) : Int) < L := by omega
                   have i2 : (H : Int) < (H : Nat) := by omega
                   rw [if_pos (Or.inr (Or.inl r2))] at hP
                   subst hP
                   go_wp2_with fail
                   refine hn.mono ?_
                   rintro e w2 ⟨rfl, rfl⟩
                   clear hn
                   go_wp2_with fail
                   try
                     refine hn2.mono ?_
                     rintro e w2 ⟨rfl, rfl⟩
                     clear hn2
                     go_wp2_with fail
                   go_ret2
                   exact ⟨rfl, hE4⟩)
              by_cases r3 : H < F
              · first
                | (exfalso; omega)
                | (have i1 : ¬ ((F : Nat) : Int) < L := by omega
                   have i2 : ¬ (H : Int) < (H : Nat) := by omega
                   have i3 : ((H : Nat) : Int) < (F : Nat) := by omega
                   rw [if_pos (Or.inr (Or.inr r3))] at hP
                   subst hP
                   go_wp2_with fail
                   refine hn.mono ?_
                   rintro e w2 ⟨rfl, rfl⟩
                   clear hn
                   go_wp2_with fail
                   try
                     refine hn2.mono ?_
                     rintro e w2 ⟨rfl, rfl⟩
                     clear hn2
                     go_wp2_with fail
                   go_ret2
                   exact ⟨rfl, hE4⟩)
              rw [if_neg (by omega)] at hP
              subst hP
              have i1 : ¬ ((F : Nat) : Int) < L := by omega
              have i2 : ¬ (H : Int) < (H : Nat) := by omega
              have i3 : ¬ ((H : Nat) : Int) < (F : Nat) := by omega
              go_wp2_with fail
              refine hn.mono ?_
              rintro e w2 ⟨rfl, rfl⟩
              clear hn
              go_wp2_with fail
              try
                refine hn2.mono ?_
                rintro e w2 ⟨rfl, rfl⟩
                clear hn2
                go_wp2_with fail
              have hE3 := hE4
              go_loop [19, 20] (fun m n => LoopR F k H m n) (fun _ n => (((H + 1 : Nat) : Int) - intOf n).toNat)
              case atStart => exact ⟨F, 0, rfl, rfl, Nat.le_refl _, by rw [Nat.sub_self, Nat.zero_mod], by omega, by decide, fun i => by rw [Nat.zero_testBit]; exact (decide_eq_false (by omega)).symm⟩
              case round =>
                obtain ⟨j, M, rfl, rfl, hFj, hj, hjT, hM, hMt⟩ := hrel
                by_cases hlt : (j : Int) ≤ (H : Nat)
                · have HM2 := Lib.hid (step_has (by omega) hFj hj hMt)
                  have HML := Lib.hid (or_two_lt (j := j) hM (by omega))
                  have HJ : Hid ((j + k - F) % k = 0) := Lib.hid (by rw [show j + k - F = j - F + k by omega, Nat.add_mod_right]; exact hj)
                  clear hMt hj
                  go_wp2_with fail
                  rw [or_bit M j hM (by omega)]
                  exact ⟨⟨j + k, _, rfl, by go_num, by omega, HJ.out, by omega, HML.out, HM2.out⟩, by simp [intOf]; omega⟩
                · have HM2 := Lib.hid (end_has (S := k) (T := H) hFj hj (by omega) hjT hMt)
                  clear hMt hj
                  go_wp2_with fail
                  go_ret2
                  exact ⟨⟨M, rfl, hM, HM2.out⟩, hE3⟩
  | false =>
    rw [if_neg (by decide)] at hP
    simp only [] at hP
    go_wp2_with fail
    have hX : ∀ n, Ext w (w1.drewN n) ∧ MX (w1.drewN n) ∧ (w1.drewN n).cell? ⟨w.heap.size, 0, none⟩ = some (.int .i64 L) ∧ (w1.drewN n).cell? ⟨w.heap.size, 1, none⟩ = some (.int .i64 H) := fun n => ⟨hE2.drewN n, hm.ext (hE2.drewN n), b0, b1⟩
    go_quiet (fail)
    obtain ⟨hE3, hm3, c0, c1⟩ := hX nq
    generalize w1.drewN nq = w3 at *
    clear hX hE2 b0 b1
    rw [show strV h = .string (strOf h) from rfl]
    by_cases hh : h = [42]
    · subst hh
      have ht : ((strOf [42]).toList == [42]) = true := by rw [strOf_toList]; rfl
      have hr : rangeS L H false [42] = some (L, H) := by unfold rangeS; rw [if_pos rfl]
      rw [hr] at hP
      clear hr
      simp only [] at hP
      rw [if_neg (by omega)] at hP
      subst hP
      go_wp2_with fail
      go_loop [19, 20] (fun m n => LoopR L 1 H m n) (fun _ n => (((H + 1 : Nat) : Int) - intOf n).toNat)
      case atStart => exact ⟨L, 0, rfl, rfl, Nat.le_refl _, by rw [Nat.sub_self, Nat.zero_mod], by omega, by decide, fun i => by rw [Nat.zero_testBit]; exact (decide_eq_false (by omega)).symm⟩
      case round =>
        obtain ⟨j, M, rfl, rfl, hFj, hj, hjT, hM, hMt⟩ := hrel
        by_cases hlt : (j : Int) ≤ (H : Nat)
        · have HM2 := Lib.hid (step_has (by omega) hFj hj hMt)
          have HML := Lib.hid (or_two_lt (j := j) hM (by omega))
          have HJ : Hid ((j + 1 - L) % 1 = 0) := Lib.hid (by rw [show j + 1 - L = j - L + 1 by omega, Nat.add_mod_right]; exact hj)
          clear hMt hj
          go_wp2_with fail
          rw [or_bit M j hM (by omega)]
          exact ⟨⟨j + 1, _, rfl, by go_num, by omega, HJ.out, by omega, HML.out, HM2.out⟩, by simp [intOf]; omega⟩
        · have HM2 := Lib.hid (end_has (S := 1) (T := H) hFj hj (by omega) hjT hMt)
          clear hMt hj
          go_wp2_with fail
          go_ret2
          exact ⟨⟨M, rfl, hM, HM2.out⟩, hE3⟩
    · have ht : ((strOf h).toList == [42]) = false := by rw [strOf_toList]; simpa using hh
      have hk := cut_str w3 h 45 (by omega) hm3
      unfold rangeS at hP
      rw [if_neg hh] at hP
      clear hh
      obtain ⟨⟨g, y, d⟩, hA⟩ : ∃ A, cutAt 45 h = A := ⟨_, rfl⟩
      rw [hA] at hP hk
      simp only [] at hP hk
      clear hA
      go_wp2_with fail
      refine hk.mono ?_
      rintro e w4 ⟨rfl, hE⟩
      clear hk
      replace c0 := (hE.cell _ _ (World.block_lt_of_cell? w3 _ c0)).trans c0
      replace c1 := (hE.cell _ _ (World.block_lt_of_cell? w3 _ c1)).trans c1
      have hE4 := hE3.trans hE
      clear hE hE3 hm3 ht
      have hn := num_str w4 g
      cases hg : num g with
      | none =>
        rw [hg] at hn hP
        simp only [Option.getD_none, Option.isSome_none] at hn hP
        subst hP
        go_wp2_with fail
        refine hn.mono ?_
        rintro e w2 ⟨rfl, rfl⟩
        clear hn
        go_wp2_with fail
        go_ret2
        exact ⟨rfl, hE4⟩
      | some F =>
        rw [hg] at hn hP
        have hF99 := num_le hg
        simp only [Option.getD_some, Option.isSome_some] at hn hP
        cases d with
        | true =>
          simp only [if_true] at hP
          have hn2 := num_str w4 y
          cases hy : num y with
          | none =>
            rw [hy] at hn2 hP
            simp only [Option.getD_none, Option.isSome_none, Option.map_none] at hn2 hP
            subst hP
            go_wp2_with fail
            refine hn.mono ?_
            rintro e w2 ⟨rfl, rfl⟩
            clear hn
            go_wp2_with fail
            refine hn2.mono ?_
            rintro e w2 ⟨rfl, rfl⟩
            clear hn2
            go_wp2_with fail
            go_ret2
            exact ⟨rfl, hE4⟩
          | some T =>
            rw [hy] at hn2 hP
            have hT99 := num_le hy
            simp only [Option.getD_some, Option.isSome_some, Option.map_some] at hn2 hP
            by_cases r1 : F < L
            · first
              | (exfalso; omega)
              | (have i1 : ((F : Nat) : Int) < L := by omega
                 rw [if_pos (Or.inl r1)] at hP
                 subst hP
                 go_wp2_with fail
                 refine hn.mono ?_
                 rintro e w2 ⟨rfl, rfl⟩
                 clear hn
                 go_wp2_with fail
                 try
                   refine hn2.mono ?_
                   rintro e w2 ⟨rfl, rfl⟩
                   clear hn2
                   go_wp2_with fail
                 go_ret2
                 exact ⟨rfl, hE4⟩)
            by_cases r2 : H < T
            · first
              | (exfalso; omega)
              | (have i1 : ¬ ((F : Nat) : Int) < L := by omega
                 have i2 : (H : Int) < (T : Nat) := by omega
                 rw [if_pos (Or.inr (Or.inl r2))] at hP
                 subst hP
                 go_wp2_with fail
                 refine hn.mono ?_
                 rintro e w2 ⟨rfl, rfl⟩
                 clear hn
                 go_wp2_with fail
                 try
                   refine hn2.mono ?_
                   rintro e w2 ⟨rfl, rfl⟩
                   clear hn2
                   go_wp2_with fail
                 go_ret2
                 exact ⟨rfl, hE4⟩)
            by_cases r3 : T < F
            · first
              | (exfalso; omega)
              | (have i1 : ¬ ((F : Nat) : Int) < L := by omega
                 have i2 : ¬ (H : Int) < (T : Nat) := by omega
                 have i3 : ((T : Nat) : Int) < (F : Nat) := by omega
                 rw [if_pos (Or.inr (Or.inr r3))] at hP
                 subst hP
                 go_wp2_with fail
                 refine hn.mono ?_
                 rintro e w2 ⟨rfl, rfl⟩
                 clear hn
                 go_wp2_with fail
                 try
                   refine hn2.mono ?_
                   rintro e w2 ⟨rfl, rfl⟩
                   clear hn2
                   go_wp2_with fail
                 go_ret2
                 exact ⟨rfl, hE4⟩)
            rw [if_neg (by omega)] at hP
            subst hP
            have i1 : ¬ ((F : Nat) : Int) < L := by omega
            have i2 : ¬ (H : Int) < (T : Nat) := by omega
            have i3 : ¬ ((T : Nat) : Int) < (F : Nat) := by omega
            go_wp2_with fail
            refine hn.mono ?_
            rintro e w2 ⟨rfl, rfl⟩
            clear hn
            go_wp2_with fail
            try
              refine hn2.mono ?_
              rintro e w2 ⟨rfl, rfl⟩
              clear hn2
              go_wp2_with fail
            have hE3 := hE4
            go_loop [19, 20] (fun m n => LoopR F 1 T m n) (fun _ n => (((T + 1 : Nat) : Int) - intOf n).toNat)
            case atStart => exact ⟨F, 0, rfl, rfl, Nat.le_refl _, by rw [Nat.sub_self, Nat.zero_mod], by omega, by decide, fun i => by rw [Nat.zero_testBit]; exact (decide_eq_false (by omega)).symm⟩
            case round =>
              obtain ⟨j, M, rfl, rfl, hFj, hj, hjT, hM, hMt⟩ := hrel
              by_cases hlt : (j : Int) ≤ (T : Nat)
              · have HM2 := Lib.hid (step_has (by omega) hFj hj hMt)
                have HML := Lib.hid (or_two_lt (j := j) hM (by omega))
                have HJ : Hid ((j + 1 - F) % 1 = 0) := Lib.hid (by rw [show j + 1 - F = j - F + 1 by omega, Nat.add_mod_right]; exact hj)
                clear hMt hj
                go_wp2_with fail
                rw [or_bit M j hM (by omega)]
                exact ⟨⟨j + 1, _, rfl, by go_num, by omega, HJ.out, by omega, HML.out, HM2.out⟩, by simp [intOf]; omega⟩
              · have HM2 := Lib.hid (end_has (S := 1) (T := T) hFj hj (by omega) hjT hMt)
                clear hMt hj
                go_wp2_with fail
                go_ret2
                exact ⟨⟨M, rfl, hM, HM2.out⟩, hE3⟩
        | false =>
          rw [if_neg (by decide)] at hP
          simp only [Bool.false_eq_true, if_false] at hP
          by_cases r1 : F < L
          · first
            | (exfalso; omega)
            | (have i1 : ((F : Nat) : Int) < L := by omega
               rw [if_pos (Or.inl r1)] at hP
               subst hP
               go_wp2_with fail
               refine hn.mono ?_
               rintro e w2 ⟨rfl, rfl⟩
               clear hn
               go_wp2_with fail
               try
                 refine hn2.mono ?_
                 rintro e w2 ⟨rfl, rfl⟩
                 clear hn2
                 go_wp2_with fail
               go_ret2
               exact ⟨rfl, hE4⟩)
          by_cases r2 : H < F
          · first
            | (exfalso; omega)
            | (have i1 : ¬ ((F : Nat) : Int) < L := by omega
               have i2 : (H : Int) < (F : Nat) := by omega
               rw [if_pos (Or.inr (Or.inl r2))] at hP
               subst hP
               go_wp2_with fail
               refine hn.mono ?_
               rintro e w2 ⟨rfl, rfl⟩
               clear hn
               go_wp2_with fail
               try
                 refine hn2.mono ?_
                 rintro e w2 ⟨rfl, rfl⟩
                 clear hn2
                 go_wp2_with fail
               go_ret2
               exact ⟨rfl, hE4⟩)
          by_cases r3 : F < F
          · first
            | (exfalso; omega)
            | (have i1 : ¬ ((F : Nat) : Int) < L := by omega
               have i2 : ¬ (H : Int) < (F : Nat) := by omega
               have i3 : ((F : Nat) : Int) < (F : Nat) := by omega
               rw [if_pos (Or.inr (Or.inr r3))] at hP
               subst hP
               go_wp2_with fail
               refine hn.mono ?_
               rintro e w2 ⟨rfl, rfl⟩
               clear hn
               go_wp2_with fail
               try
                 refine hn2.mono ?_
                 rintro e w2 ⟨rfl, rfl⟩
                 clear hn2
                 go_wp2_with fail
               go_ret2
               exact ⟨rfl, hE4⟩)
          rw [if_neg (by omega)] at hP
          subst hP
          have i1 : ¬ ((F : Nat) : Int) < L := by omega
          have i2 : ¬ (H : Int) < (F : Nat) := by omega
          have i3 : ¬ ((F : Nat) : Int) < (F : Nat) := by omega
          go_wp2_with fail
          refine hn.mono ?_
          rintro e w2 ⟨rfl, rfl⟩
          clear hn
          go_wp2_with fail
          try
            refine hn2.mono ?_
            rintro e w2 ⟨rfl, rfl⟩
            clear hn2
            go_wp2_with fail
          have hE3 := hE4
          go_loop [19, 20] (fun m n => LoopR F 1 F m n) (fun _ n => (((F + 1 : Nat) : Int) - intOf n).toNat)
          case atStart => exact ⟨F, 0, rfl, rfl, Nat.le_refl _, by rw [Nat.sub_self, Nat.zero_mod], by omega, by decide, fun i => by rw [Nat.zero_testBit]; exact (decide_eq_false (by omega)).symm⟩
          case round =>
            obtain ⟨j, M, rfl, rfl, hFj, hj, hjT, hM, hMt⟩ := hrel
            by_cases hlt : (j : Int) ≤ (F : Nat)
            · have HM2 := Lib.hid (step_has (by omega) hFj hj hMt)
              have HML := Lib.hid (or_two_lt (j := j) hM (by omega))
              have HJ : Hid ((j + 1 - F) % 1 = 0) := Lib.hid (by rw [show j + 1 - F = j - F + 1 by omega, Nat.add_mod_right]; exact hj)
              clear hMt hj
              go_wp2_with fail
              rw [or_bit M j hM (by omega)]
              exact ⟨⟨j + 1, _, rfl, by go_num, by omega, HJ.out, by omega, HML.out, HM2.out⟩, by simp [intOf]; omega⟩
            · have HM2 := Lib.hid (end_has (S := 1) (T := F) hFj hj (by omega) hjT hMt)
              clear hMt hj
              go_wp2_with fail
              go_ret2
              exact ⟨⟨M, rfl, hM, HM2.out⟩, hE3⟩
end Go.Proofs.YtnbdcdeidhhgoaaDoor
