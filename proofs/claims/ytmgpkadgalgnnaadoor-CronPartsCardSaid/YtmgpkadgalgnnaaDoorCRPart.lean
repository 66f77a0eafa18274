/- cron: a part of a field, the document's. -/
import Derived.Test.YtmgpkadgalgnnaaDoorCParse
namespace Go.Proofs.YtmgpkadgalgnnaaDoor
set_option maxRecDepth 4000
set_option linter.unusedVariables false
set_option linter.unusedSimpArgs false
open Go Go.RowKit
def numsTo (p : Prt) (j : Nat) : List Nat := (List.range j).filter fun n => p.has n
theorem numsTo_succ (p : Prt) (j : Nat) : numsTo p (j + 1) = numsTo p j ++ (if p.has j = true then [j] else []) := by
  unfold numsTo
  rw [List.range_succ, List.filter_append]
  congr 1
  by_cases h : p.has j = true
  · rw [if_pos h]; simp [h]
  · rw [if_neg h]; simp [h]
theorem numsTo_from (p : Prt) : numsTo p p.f = [] := by
  unfold numsTo
  rw [List.filter_eq_nil_iff]
  intro a ha
  unfold Prt.has
  simp at ha ⊢
  omega
theorem numsTo_len (p : Prt) (j : Nat) : (numsTo p j).length ≤ j := by
  unfold numsTo
  refine Nat.le_trans (List.length_filter_le _ _) ?_
  rw [List.length_range]; exact Nat.le_refl _
theorem numsTo_mem {p : Prt} {j n : Nat} (hj : p.t < j) : n ∈ numsTo p j ↔ p.has n = true := by
  unfold numsTo
  rw [List.mem_filter, List.mem_range]
  constructor
  · exact fun h => h.2
  · intro h
    refine ⟨?_, h⟩
    unfold Prt.has at h
    simp at h
    omega
def nV (n : Nat) : Value := .int .i64 n
def nRow (v : Value) (l : List Nat) : Asr := rowA 3 1 v l.length (l.map nV)
theorem nRow_loc (v : Value) (l : List Nat) : Loc (nRow v l) := rowA_loc _ _ _ _ _
theorem intInfo' : (Tryd.prog.info? 3).map (fun i => (i.zero, i.size, i.bytes)) = some (some (.int .i64 0), 1, 8) := by kernel_rfl
def RPartR (r : Except Int Prt) (w : World) (e : Ending) (w' : World) : Prop :=
  match r with
  | .error c => e = .returned (.tuple #[.slice none 0 0, .int .i64 c]) ∧ Ext w w'
  | .ok p => ∃ v, e = .returned (.tuple #[v, .int .i64 0]) ∧ Has w w' [nRow v (numsTo p (p.t + 1))]
theorem refnum_str (w : World) (x : List UInt8) (hs : x.length ≤ 1000) :
    Calls Tryd.prog 35 #[strV x] w fun e w' => e = .returned (.int .i64 (numR (num x))) ∧ Ext w w' := by
  have h := refnum_any w (strOf x) (by rw [strOf_size]; exact hs)
  rw [tl_strOf] at h
  exact h
theorem first_str (w : World) (x : List UInt8) (c : UInt8) (hs : x.length ≤ 1000) :
    Calls Tryd.prog 34 #[strV x, .int .u8 c.toNat] w fun e w' => e = .returned (.tuple #[strV (cutAt c x).1, strV (cutAt c x).2.1, .bool (cutAt c x).2.2]) ∧ Ext w w' := by
  have h := first_any w (strOf x) c (by rw [strOf_size]; omega)
  rw [tl_strOf] at h
  exact h
def NRel (w : World) (p : Prt) (v vj : Value) (wr : World) : Prop :=
  ∃ j : Nat, vj = .int .i64 j ∧ p.f ≤ j ∧ j ≤ p.t + 1 ∧ Has w wr [nRow v (numsTo p j)]
theorem nRow_snoc {w W : World} {v : Value} {l : List Nat} {n : Nat} (h : Has w W [rowA 3 1 v (l.length + 1) (l.map nV ++ [.int .i64 n])]) : Has w W [nRow v (l ++ [n])] := by
  unfold nRow
  rw [List.length_append, List.map_append]
  exact h
theorem has_mod {F T S j : Nat} (h1 : F ≤ j) (h2 : j ≤ T) : (((j : Int) - (F : Int)).tmod S == 0) = (Prt.mk F T S).has j ∧ (((j : Int) - (F : Int)) % S == 0) = (Prt.mk F T S).has j := by
  unfold Prt.has
  have e : (j : Int) - (F : Int) = ((j - F : Nat) : Int) := by omega
  rw [e, Int.tmod_eq_emod_of_nonneg (Int.natCast_nonneg _)]
  constructor
  all_goals
    rw [Bool.eq_iff_iff]
    simp only [beq_iff_eq, decide_eq_true_eq]
    omega
set_option maxHeartbeats 400000 in
/-- from the head on -/
theorem refpart_any (w : World) (s : ByteArray) (k : Nat) (hk : k < 5) (hs : s.size ≤ 1000) :
    Calls Tryd.prog 25 #[.int .i64 k, .string s] w fun e w' => RPartR (partS (lo k) (Go.Proofs.YtmgpkadgalgnnaaDoor.hi k) (tl s)) w e w' := by
  obtain ⟨i0, hi0, hz0, hz1, hz2⟩ := info_parts intInfo'
  have hfi := first_any w s 47 (by omega)
  have hle := cutAt_le 47 (tl s)
  obtain ⟨hl1, hl2, hl3⟩ := lohi k
  have hlo := fun W : World => least_any W k hk
  have hhi := fun W : World => most_any W k hk
  generalize lo k = L at *
  generalize Go.Proofs.YtmgpkadgalgnnaaDoor.hi k = H at *
  obtain ⟨P, hP⟩ : ∃ P, partS L H (tl s) = P := ⟨_, rfl⟩
  rw [hP]
  unfold partS stepS at hP
  obtain ⟨⟨h, x, st⟩, hA⟩ : ∃ A, cutAt 47 (tl s) = A := ⟨_, rfl⟩
  rw [hA] at hP hfi hle
  simp only [] at hP hfi hle
  clear hA
  rw [tl_length] at hle
  go_enter Tryd.func25, Tryd.ntmps25
  go_wp2_with fail
  refine hfi.mono ?_
  rintro e w1 ⟨rfl, hE1⟩
  clear hfi
  cases st with
  | true =>
    simp only [if_true] at hP
    have hn := refnum_str w1 x (by omega)
    cases hx : num x with
    | none =>
      rw [hx] at hn hP
      simp only [numR] at hn hP
      subst hP
      go_wp2_with fail
      refine hn.mono ?_
      rintro e w2 ⟨rfl, hE⟩
      clear hn
      go_wp2_with fail
      go_ret2
      exact ⟨rfl, hE1.trans hE⟩
    | some n =>
      rw [hx] at hn hP
      have hk99 := num_le hx
      simp only [numR] at hn hP
      by_cases hk0 : n = 0
      · subst hk0
        rw [if_pos rfl] at hP
        simp only [] at hP
        subst hP
        go_wp2_with fail
        refine hn.mono ?_
        rintro e w2 ⟨rfl, hE⟩
        clear hn
        go_wp2_with fail
        go_ret2
        exact ⟨rfl, hE1.trans hE⟩
      · rw [if_neg hk0] at hP
        simp only [] at hP
        have hkb : ((n : Int) == 0) = false := by rw [beq_eq_false_iff_ne]; omega
        have hn0 : ¬ (n : Int) < 0 := by omega
        go_wp2_with fail
        refine hn.mono ?_
        rintro e w2 ⟨rfl, hE⟩
        clear hn
        have hE2 := hE1.trans hE
        clear hE hE1
        go_wp2_with fail
        rw [show strV h = .string (strOf h) from rfl]
        by_cases hh : h = [42]
        · subst hh
          have ht : ((strOf [42]).toList == [42]) = true := by rw [strOf_toList]; rfl
          have hr : rangeS L H true [42] = some (L, H) := by unfold rangeS; rw [if_pos rfl]
          rw [hr] at hP
          clear hr
          simp only [] at hP
          rw [if_neg (by omega)] at hP
          subst hP
          have i8 : decide (H < L) = false := decide_eq_false (by omega)
          refine (hlo _).mono ?_
          rintro e w' ⟨rfl, rfl⟩
          go_wp2_with fail
          refine (hhi _).mono ?_
          rintro e w' ⟨rfl, rfl⟩
          go_wp2_with fail
          refine (hlo _).mono ?_
          rintro e w' ⟨rfl, rfl⟩
          go_wp2_with fail
          refine (hhi _).mono ?_
          rintro e w' ⟨rfl, rfl⟩
          go_wp2_with fail
          have hE3 := hE2
          clear ht
          generalize strOf [42] = zz at *
          have hS99 : n ≤ 99 ∧ 1 ≤ n := by omega
          have b0 : 0 ≤ L := by omega
          have b1 : H ≤ 59 := by omega
          have b2 : L ≤ H := by omega
          have hH0 : Has w w2 [nRow (.slice none 0 0) (numsTo ⟨L, H, n⟩ L)] := by rw [numsTo_from ⟨L, H, n⟩]; exact (Has.nil hE3).rowNil .nil 3 1
          go_loopw [15, 16] (fun v vj wr => NRel w ⟨L, H, n⟩ v vj wr) (fun _ vj _ => (((H : Nat) : Int) + 2 - intOf vj).toNat)
          case atStart => exact ⟨L, rfl, Nat.le_refl _, (by omega : L ≤ H + 1), hH0⟩
          case round =>
            clear hH0
            obtain ⟨j, rfl, hj1, hj2, hH⟩ := hrel
            replace hj1 : L ≤ j := hj1
            replace hj2 : j ≤ H + 1 := hj2
            by_cases hlt : j ≤ H
            · have i7 : (j : Int) ≤ (H : Nat) := by omega
              obtain ⟨hmod, hmod2⟩ := has_mod (S := n) hj1 hlt
              have hsu := numsTo_succ ⟨L, H, n⟩ j
              have hll := numsTo_len ⟨L, H, n⟩ j
              cases hb : Prt.has ⟨L, H, n⟩ j with
              | true =>
                rw [hb] at hmod hmod2 hsu
                rw [if_pos rfl] at hsu
                have HSU := Lib.hid hsu
                clear hsu hb
                generalize numsTo ⟨L, H, n⟩ j = l at *
                have hown := hH.row0
                have hown1 := ownsRow_ext hown (ext_alloc wr (.cells #[.int .i64 (j : Int)] 3))
                have hH1 := hH.ext (.cons (nRow_loc _ _) .nil) (ext_alloc wr (.cells #[.int .i64 (j : Int)] 3))
                have hnews := news_new wr [.int .i64 (j : Int)] 3
                have hu1 := oneC1 .i64 (j : Int)
                go_wp2_with (at_builtin; refine wpList_append_new rfl _ _ 66 rfl 3 i0 (.int .i64 0) 1 8 Tryd.underlying66 hi0 hz0 hz1 hz2 rfl (by decide) _ _ _ rfl hown1 _ 1 1 [.int .i64 (j : Int)] rfl rfl (fun h => by cases h) hnews hu1 (by unfold maxLen; omega) (by omega) ?_)
                intro v3 w3 hown3 hg3 hf3
                have hH3 := nRow_snoc (Has.grow hH1 .nil hown3 hg3 hf3)
                rw [← HSU.out] at hH3
                clear hown1 hown3 hg3 hf3 hH1 hnews hu1
                go_wp2_with fail
                exact ⟨⟨j + 1, by go_num, (by omega : L ≤ j + 1), (by omega : j + 1 ≤ H + 1), hH3⟩, by simp [intOf]; omega⟩
              | false =>
                first
                | (exfalso
                   have h1 : Prt.has ⟨L, H, 1⟩ j = true := by
                     unfold Prt.has; rw [decide_eq_true_eq]; exact ⟨hj1, hlt, Nat.mod_one _⟩
                   exact absurd (h1.symm.trans hb) (by decide))
                | (rw [hb] at hmod hmod2 hsu
                   rw [if_neg (by decide), List.append_nil] at hsu
                   have HSU := Lib.hid hsu
                   clear hsu hll hb
                   go_wp2_with fail
                   exact ⟨⟨j + 1, by go_num, (by omega : L ≤ j + 1), (by omega : j + 1 ≤ H + 1), by rw [HSU.out]; exact hH⟩, by simp [intOf]; omega⟩)
            · have hj : j = H + 1 := by omega
              have i7 : ¬ (j : Int) ≤ (H : Nat) := by omega
              have HJ := Lib.hid hj
              clear hj
              go_wp2_with fail
              go_ret2
              exact ⟨_, rfl, HJ.out ▸ hH⟩
        · have ht : ((strOf h).toList == [42]) = false := by rw [strOf_toList]; simpa using hh
          have hk := fun W => first_str W h 45 (by omega)
          unfold rangeS at hP
          rw [if_neg hh] at hP
          clear hh
          have hc1 := cutAt_le 45 h
          obtain ⟨⟨g, y, d⟩, hA⟩ : ∃ A, cutAt 45 h = A := ⟨_, rfl⟩
          rw [hA] at hP hk hc1
          simp only [] at hP hk hc1
          clear hA
          refine (hlo _).mono ?_
          rintro e w' ⟨rfl, rfl⟩
          go_wp2_with fail
          refine (hhi _).mono ?_
          rintro e w' ⟨rfl, rfl⟩
          go_wp2_with fail
          refine (hk _).mono ?_
          rintro e w4 ⟨rfl, hE⟩
          clear hk
          have hE4 := hE2.trans hE
          clear hE hE2 ht
          have hn := fun W => refnum_str W g (by omega)
          cases hg : num g with
          | none =>
            rw [hg] at hn hP
            simp only [numR] at hn hP
            subst hP
            go_wp2_with fail
            refine (hn _).mono ?_
            rintro e w5 ⟨rfl, hE⟩
            clear hn
            go_wp2_with fail
            go_ret2
            exact ⟨rfl, hE4.trans hE⟩
          | some F =>
            rw [hg] at hn hP
            have hF99 := num_le hg
            have hF0 : ¬ (F : Int) < 0 := by omega
            simp only [numR] at hn hP
            go_wp2_with fail
            refine (hn _).mono ?_
            rintro e w5 ⟨rfl, hE⟩
            clear hn
            have hE5 := hE4.trans hE
            clear hE hE4
            cases d with
            | true =>
              simp only [if_true] at hP
              have hn2 := fun W => refnum_str W y (by omega)
              cases hy : num y with
              | none =>
                rw [hy] at hn2 hP
                simp only [numR, Option.map_none] at hn2 hP
                subst hP
                go_wp2_with fail
                refine (hn2 _).mono ?_
                rintro e w6 ⟨rfl, hE⟩
                clear hn2
                go_wp2_with fail
                go_ret2
                exact ⟨rfl, hE5.trans hE⟩
              | some T =>
                rw [hy] at hn2 hP
                have hT99 := num_le hy
                have hT0 : ¬ (T : Int) < 0 := by omega
                simp only [numR, Option.map_some] at hn2 hP
                go_wp2_with fail
                refine (hn2 _).mono ?_
                rintro e w6 ⟨rfl, hE⟩
                clear hn2
                have hE6 := hE5.trans hE
                clear hE hE5
                by_cases r1 : F < L
                · first
                  | (exfalso; omega)
                  | (have i1 : ((F : Nat) : Int) < L := by omega
                     rw [if_pos (Or.inl r1)] at hP
                     subst hP
                     go_wp2_with fail
                     refine (hlo _).mono ?_
                     rintro e w' ⟨rfl, rfl⟩
                     go_wp2_with fail
                     go_ret2
                     exact ⟨rfl, hE6⟩)
                by_cases r2 : H < T
                · first
                  | (exfalso; omega)
                  | (have i1 : ¬ ((F : Nat) : Int) < L := by omega
                     have i2 : (H : Int) < (T : Nat) := by omega
                     rw [if_pos (Or.inr (Or.inl r2))] at hP
                     subst hP
                     go_wp2_with fail
                     refine (hlo _).mono ?_
                     rintro e w' ⟨rfl, rfl⟩
                     go_wp2_with fail
                     refine (hhi _).mono ?_
                     rintro e w' ⟨rfl, rfl⟩
                     go_wp2_with fail
                     go_ret2
                     exact ⟨rfl, hE6⟩)
                by_cases r3 : T < F
                · first
                  | (exfalso; omega)
                  | (have i1 : ¬ ((F : Nat) : Int) < L := by omega
                     have i2 : ¬ (H : Int) < (T : Nat) := by omega
                     have i3 : ((T : Nat) : Int) < (F : Nat) := by omega
                     rw [if_pos (Or.inr (Or.inr r3))] at hP
                     subst hP
                     go_wp2_with fail
                     refine (hlo _).mono ?_
                     rintro e w' ⟨rfl, rfl⟩
                     go_wp2_with fail
                     refine (hhi _).mono ?_
                     rintro e w' ⟨rfl, rfl⟩
                     go_wp2_with fail
                     go_ret2
                     exact ⟨rfl, hE6⟩)
                rw [if_neg (by omega)] at hP
                subst hP
                have i1 : ¬ ((F : Nat) : Int) < L := by omega
                have i2 : ¬ (H : Int) < (T : Nat) := by omega
                have i3 : ¬ ((T : Nat) : Int) < (F : Nat) := by omega
                go_wp2_with fail
                refine (hlo _).mono ?_
                rintro e w' ⟨rfl, rfl⟩
                go_wp2_with fail
                refine (hhi _).mono ?_
                rintro e w' ⟨rfl, rfl⟩
                go_wp2_with fail
                have hE3 := hE6
                have hS99 : n ≤ 99 ∧ 1 ≤ n := by omega
                have b0 : 0 ≤ F := by omega
                have b1 : T ≤ 59 := by omega
                have b2 : F ≤ T := by omega
                have hH0 : Has w w6 [nRow (.slice none 0 0) (numsTo ⟨F, T, n⟩ F)] := by rw [numsTo_from ⟨F, T, n⟩]; exact (Has.nil hE3).rowNil .nil 3 1
                go_loopw [15, 16] (fun v vj wr => NRel w ⟨F, T, n⟩ v vj wr) (fun _ vj _ => (((T : Nat) : Int) + 2 - intOf vj).toNat)
                case atStart => exact ⟨F, rfl, Nat.le_refl _, (by omega : F ≤ T + 1), hH0⟩
                case round =>
                  clear hH0
                  obtain ⟨j, rfl, hj1, hj2, hH⟩ := hrel
                  replace hj1 : F ≤ j := hj1
                  replace hj2 : j ≤ T + 1 := hj2
                  by_cases hlt : j ≤ T
                  · have i7 : (j : Int) ≤ (T : Nat) := by omega
                    obtain ⟨hmod, hmod2⟩ := has_mod (S := n) hj1 hlt
                    have hsu := numsTo_succ ⟨F, T, n⟩ j
                    have hll := numsTo_len ⟨F, T, n⟩ j
                    cases hb : Prt.has ⟨F, T, n⟩ j with
                    | true =>
                      rw [hb] at hmod hmod2 hsu
                      rw [if_pos rfl] at hsu
                      have HSU := Lib.hid hsu
                      clear hsu hb
                      generalize numsTo ⟨F, T, n⟩ j = l at *
                      have hown := hH.row0
                      have hown1 := ownsRow_ext hown (ext_alloc wr (.cells #[.int .i64 (j : Int)] 3))
                      have hH1 := hH.ext (.cons (nRow_loc _ _) .nil) (ext_alloc wr (.cells #[.int .i64 (j : Int)] 3))
                      have hnews := news_new wr [.int .i64 (j : Int)] 3
                      have hu1 := oneC1 .i64 (j : Int)
                      go_wp2_with (at_builtin; refine wpList_append_new rfl _ _ 66 rfl 3 i0 (.int .i64 0) 1 8 Tryd.underlying66 hi0 hz0 hz1 hz2 rfl (by decide) _ _ _ rfl hown1 _ 1 1 [.int .i64 (j : Int)] rfl rfl (fun h => by cases h) hnews hu1 (by unfold maxLen; omega) (by omega) ?_)
                      intro v3 w3 hown3 hg3 hf3
                      have hH3 := nRow_snoc (Has.grow hH1 .nil hown3 hg3 hf3)
                      rw [← HSU.out] at hH3
                      clear hown1 hown3 hg3 hf3 hH1 hnews hu1
                      go_wp2_with fail
                      exact ⟨⟨j + 1, by go_num, (by omega : F ≤ j + 1), (by omega : j + 1 ≤ T + 1), hH3⟩, by simp [intOf]; omega⟩
                    | false =>
                      first
                      | (exfalso
                         have h1 : Prt.has ⟨F, T, 1⟩ j = true := by
                           unfold Prt.has; rw [decide_eq_true_eq]; exact ⟨hj1, hlt, Nat.mod_one _⟩
                         exact absurd (h1.symm.trans hb) (by decide))
                      | (rw [hb] at hmod hmod2 hsu
                         rw [if_neg (by decide), List.append_nil] at hsu
                         have HSU := Lib.hid hsu
                         clear hsu hll hb
                         go_wp2_with fail
                         exact ⟨⟨j + 1, by go_num, (by omega : F ≤ j + 1), (by omega : j + 1 ≤ T + 1), by rw [HSU.out]; exact hH⟩, by simp [intOf]; omega⟩)
                  · have hj : j = T + 1 := by omega
                    have i7 : ¬ (j : Int) ≤ (T : Nat) := by omega
                    have HJ := Lib.hid hj
                    clear hj
                    go_wp2_with fail
                    go_ret2
                    exact ⟨_, rfl, HJ.out ▸ hH⟩
            | false =>
              rw [if_neg (by decide)] at hP
              simp only [if_true] at hP
              have hE6 := hE5
              clear hE5
              by_cases r1 : F < L
              · first
                | (exfalso; omega)
                | (have i1 : ((F : Nat) : Int) < L := by omega
                   rw [if_pos (Or.inl r1)] at hP
                   subst hP
                   go_wp2_with fail
                   refine (hlo _).mono ?_
                   rintro e w' ⟨rfl, rfl⟩
                   go_wp2_with fail
                   go_ret2
                   exact ⟨rfl, hE6⟩)
              by_cases r2 : H < H
              · first
                | (exfalso; omega)
                | (have i1 : ¬ ((F : Nat) : Int) < L := by omega
                   have i2 : (H : Int) < (H : Nat) := by omega
                   rw [if_pos (Or.inr (Or.inl r2))] at hP
                   subst hP
                   go_wp2_with fail
                   refine (hlo _).mono ?_
                   rintro e w' ⟨rfl, rfl⟩
                   go_wp2_with fail
                   refine (hhi _).mono ?_
                   rintro e w' ⟨rfl, rfl⟩
                   go_wp2_with fail
                   go_ret2
                   exact ⟨rfl, hE6⟩)
              by_cases r3 : H < F
              · first
                | (exfalso; omega)
                | (have i1 : ¬ ((F : Nat) : Int) < L := by omega
                   have i2 : ¬ (H : Int) < (H : Nat) := by omega
                   have i3 : ((H : Nat) : Int) < (F : Nat) := by omega
                   rw [if_pos (Or.inr (Or.inr r3))] at hP
                   subst hP
                   go_wp2_with fail
                   refine (hlo _).mono ?_
                   rintro e w' ⟨rfl, rfl⟩
                   go_wp2_with fail
                   refine (hhi _).mono ?_
                   rintro e w' ⟨rfl, rfl⟩
                   go_wp2_with fail
                   go_ret2
                   exact ⟨rfl, hE6⟩)
              rw [if_neg (by omega)] at hP
              subst hP
              have i1 : ¬ ((F : Nat) : Int) < L := by omega
              have i2 : ¬ (H : Int) < (H : Nat) := by omega
              have i3 : ¬ ((H : Nat) : Int) < (F : Nat) := by omega
              go_wp2_with fail
              refine (hlo _).mono ?_
              rintro e w' ⟨rfl, rfl⟩
              go_wp2_with fail
              refine (hhi _).mono ?_
              rintro e w' ⟨rfl, rfl⟩
              go_wp2_with fail
              have hE3 := hE6
              have hS99 : n ≤ 99 ∧ 1 ≤ n := by omega
              have b0 : 0 ≤ F := by omega
              have b1 : H ≤ 59 := by omega
              have b2 : F ≤ H := by omega
              have hH0 : Has w w5 [nRow (.slice none 0 0) (numsTo ⟨F, H, n⟩ F)] := by rw [numsTo_from ⟨F, H, n⟩]; exact (Has.nil hE3).rowNil .nil 3 1
              go_loopw [15, 16] (fun v vj wr => NRel w ⟨F, H, n⟩ v vj wr) (fun _ vj _ => (((H : Nat) : Int) + 2 - intOf vj).toNat)
              case atStart => exact ⟨F, rfl, Nat.le_refl _, (by omega : F ≤ H + 1), hH0⟩
              case round =>
                clear hH0
                obtain ⟨j, rfl, hj1, hj2, hH⟩ := hrel
                replace hj1 : F ≤ j := hj1
                replace hj2 : j ≤ H + 1 := hj2
                by_cases hlt : j ≤ H
                · have i7 : (j : Int) ≤ (H : Nat) := by omega
                  obtain ⟨hmod, hmod2⟩ := has_mod (S := n) hj1 hlt
                  have hsu := numsTo_succ ⟨F, H, n⟩ j
                  have hll := numsTo_len ⟨F, H, n⟩ j
                  cases hb : Prt.has ⟨F, H, n⟩ j with
                  | true =>
                    rw [hb] at hmod hmod2 hsu
                    rw [if_pos rfl] at hsu
                    have HSU := Lib.hid hsu
                    clear hsu hb
                    generalize numsTo ⟨F, H, n⟩ j = l at *
                    have hown := hH.row0
                    have hown1 := ownsRow_ext hown (ext_alloc wr (.cells #[.int .i64 (j : Int)] 3))
                    have hH1 := hH.ext (.cons (nRow_loc _ _) .nil) (ext_alloc wr (.cells #[.int .i64 (j : Int)] 3))
                    have hnews := news_new wr [.int .i64 (j : Int)] 3
                    have hu1 := oneC1 .i64 (j : Int)
                    go_wp2_with (at_builtin; refine wpList_append_new rfl _ _ 66 rfl 3 i0 (.int .i64 0) 1 8 Tryd.underlying66 hi0 hz0 hz1 hz2 rfl (by decide) _ _ _ rfl hown1 _ 1 1 [.int .i64 (j : Int)] rfl rfl (fun h => by cases h) hnews hu1 (by unfold maxLen; omega) (by omega) ?_)
                    intro v3 w3 hown3 hg3 hf3
                    have hH3 := nRow_snoc (Has.grow hH1 .nil hown3 hg3 hf3)
                    rw [← HSU.out] at hH3
                    clear hown1 hown3 hg3 hf3 hH1 hnews hu1
                    go_wp2_with fail
                    exact ⟨⟨j + 1, by go_num, (by omega : F ≤ j + 1), (by omega : j + 1 ≤ H + 1), hH3⟩, by simp [intOf]; omega⟩
                  | false =>
                    first
                    | (exfalso
                       have h1 : Prt.has ⟨F, H, 1⟩ j = true := by
                         unfold Prt.has; rw [decide_eq_true_eq]; exact ⟨hj1, hlt, Nat.mod_one _⟩
                       exact absurd (h1.symm.trans hb) (by decide))
                    | (rw [hb] at hmod hmod2 hsu
                       rw [if_neg (by decide), List.append_nil] at hsu
                       have HSU := Lib.hid hsu
                       clear hsu hll hb
                       go_wp2_with fail
                       exact ⟨⟨j + 1, by go_num, (by omega : F ≤ j + 1), (by omega : j + 1 ≤ H + 1), by rw [HSU.out]; exact hH⟩, by simp [intOf]; omega⟩)
                · have hj : j = H + 1 := by omega
                  have i7 : ¬ (j : Int) ≤ (H : Nat) := by omega
                  have HJ := Lib.hid hj
                  clear hj
                  go_wp2_with fail
                  go_ret2
                  exact ⟨_, rfl, HJ.out ▸ hH⟩
  | false =>
    rw [if_neg (by decide)] at hP
    simp only [] at hP
    have hE2 := hE1
    clear hE1
    go_wp2_with fail
    rw [show strV h = .string (strOf h) from rfl]
    by_cases hh : h = [42]
    · subst hh
      have ht : ((strOf [42]).toList == [42]) = true := by rw [strOf_toList]; rfl
      have hr : rangeS L H false [42] = some (L, H) := by unfold rangeS; rw [if_pos rfl]
      rw [hr] at hP
      clear hr
      simp only [] at hP
      rw [if_neg (by omega)] at hP
      subst hP
      have i8 : decide (H < L) = false := decide_eq_false (by omega)
      refine (hlo _).mono ?_
      rintro e w' ⟨rfl, rfl⟩
      go_wp2_with fail
      refine (hhi _).mono ?_
      rintro e w' ⟨rfl, rfl⟩
      go_wp2_with fail
      refine (hlo _).mono ?_
      rintro e w' ⟨rfl, rfl⟩
      go_wp2_with fail
      refine (hhi _).mono ?_
      rintro e w' ⟨rfl, rfl⟩
      go_wp2_with fail
      have hE3 := hE2
      clear ht
      generalize strOf [42] = zz at *
      have hS99 : 1 ≤ 99 ∧ 1 ≤ 1 := by omega
      have b0 : 0 ≤ L := by omega
      have b1 : H ≤ 59 := by omega
      have b2 : L ≤ H := by omega
      have hH0 : Has w w1 [nRow (.slice none 0 0) (numsTo ⟨L, H, 1⟩ L)] := by rw [numsTo_from ⟨L, H, 1⟩]; exact (Has.nil hE3).rowNil .nil 3 1
      go_loopw [15, 16] (fun v vj wr => NRel w ⟨L, H, 1⟩ v vj wr) (fun _ vj _ => (((H : Nat) : Int) + 2 - intOf vj).toNat)
      case atStart => exact ⟨L, rfl, Nat.le_refl _, (by omega : L ≤ H + 1), hH0⟩
      case round =>
        clear hH0
        obtain ⟨j, rfl, hj1, hj2, hH⟩ := hrel
        replace hj1 : L ≤ j := hj1
        replace hj2 : j ≤ H + 1 := hj2
        by_cases hlt : j ≤ H
        · have i7 : (j : Int) ≤ (H : Nat) := by omega
          obtain ⟨hmod, hmod2⟩ := has_mod (S := 1) hj1 hlt
          have hsu := numsTo_succ ⟨L, H, 1⟩ j
          have hll := numsTo_len ⟨L, H, 1⟩ j
          cases hb : Prt.has ⟨L, H, 1⟩ j with
          | true =>
            rw [hb] at hmod hmod2 hsu
            rw [if_pos rfl] at hsu
            have HSU := Lib.hid hsu
            clear hsu hb
            generalize numsTo ⟨L, H, 1⟩ j = l at *
            have hown := hH.row0
            have hown1 := ownsRow_ext hown (ext_alloc wr (.cells #[.int .i64 (j : Int)] 3))
            have hH1 := hH.ext (.cons (nRow_loc _ _) .nil) (ext_alloc wr (.cells #[.int .i64 (j : Int)] 3))
            have hnews := news_new wr [.int .i64 (j : Int)] 3
            have hu1 := oneC1 .i64 (j : Int)
            go_wp2_with (at_builtin; refine wpList_append_new rfl _ _ 66 rfl 3 i0 (.int .i64 0) 1 8 Tryd.underlying66 hi0 hz0 hz1 hz2 rfl (by decide) _ _ _ rfl hown1 _ 1 1 [.int .i64 (j : Int)] rfl rfl (fun h => by cases h) hnews hu1 (by unfold maxLen; omega) (by omega) ?_)
            intro v3 w3 hown3 hg3 hf3
            have hH3 := nRow_snoc (Has.grow hH1 .nil hown3 hg3 hf3)
            rw [← HSU.out] at hH3
            clear hown1 hown3 hg3 hf3 hH1 hnews hu1
            go_wp2_with fail
            exact ⟨⟨j + 1, by go_num, (by omega : L ≤ j + 1), (by omega : j + 1 ≤ H + 1), hH3⟩, by simp [intOf]; omega⟩
          | false =>
            first
            | (exfalso
               have h1 : Prt.has ⟨L, H, 1⟩ j = true := by
                 unfold Prt.has; rw [decide_eq_true_eq]; exact ⟨hj1, hlt, Nat.mod_one _⟩
               exact absurd (h1.symm.trans hb) (by decide))
            | (rw [hb] at hmod hmod2 hsu
               rw [if_neg (by decide), List.append_nil] at hsu
               have HSU := Lib.hid hsu
               clear hsu hll hb
               go_wp2_with fail
               exact ⟨⟨j + 1, by go_num, (by omega : L ≤ j + 1), (by omega : j + 1 ≤ H + 1), by rw [HSU.out]; exact hH⟩, by simp [intOf]; omega⟩)
        · have hj : j = H + 1 := by omega
          have i7 : ¬ (j : Int) ≤ (H : Nat) := by omega
          have HJ := Lib.hid hj
          clear hj
          go_wp2_with fail
          go_ret2
          exact ⟨_, rfl, HJ.out ▸ hH⟩
    · have ht : ((strOf h).toList == [42]) = false := by rw [strOf_toList]; simpa using hh
      have hk := fun W => first_str W h 45 (by omega)
      unfold rangeS at hP
      rw [if_neg hh] at hP
      clear hh
      have hc1 := cutAt_le 45 h
      obtain ⟨⟨g, y, d⟩, hA⟩ : ∃ A, cutAt 45 h = A := ⟨_, rfl⟩
      rw [hA] at hP hk hc1
      simp only [] at hP hk hc1
      clear hA
      refine (hlo _).mono ?_
      rintro e w' ⟨rfl, rfl⟩
      go_wp2_with fail
      refine (hhi _).mono ?_
      rintro e w' ⟨rfl, rfl⟩
      go_wp2_with fail
      refine (hk _).mono ?_
      rintro e w4 ⟨rfl, hE⟩
      clear hk
      have hE4 := hE2.trans hE
      clear hE hE2 ht
      have hn := fun W => refnum_str W g (by omega)
      cases hg : num g with
      | none =>
        rw [hg] at hn hP
        simp only [numR] at hn hP
        subst hP
        go_wp2_with fail
        refine (hn _).mono ?_
        rintro e w5 ⟨rfl, hE⟩
        clear hn
        go_wp2_with fail
        go_ret2
        exact ⟨rfl, hE4.trans hE⟩
      | some F =>
        rw [hg] at hn hP
        have hF99 := num_le hg
        have hF0 : ¬ (F : Int) < 0 := by omega
        simp only [numR] at hn hP
        go_wp2_with fail
        refine (hn _).mono ?_
        rintro e w5 ⟨rfl, hE⟩
        clear hn
        have hE5 := hE4.trans hE
        clear hE hE4
        cases d with
        | true =>
          simp only [if_true] at hP
          have hn2 := fun W => refnum_str W y (by omega)
          cases hy : num y with
          | none =>
            rw [hy] at hn2 hP
            simp only [numR, Option.map_none] at hn2 hP
            subst hP
            go_wp2_with fail
            refine (hn2 _).mono ?_
            rintro e w6 ⟨rfl, hE⟩
            clear hn2
            go_wp2_with fail
            go_ret2
            exact ⟨rfl, hE5.trans hE⟩
          | some T =>
            rw [hy] at hn2 hP
            have hT99 := num_le hy
            have hT0 : ¬ (T : Int) < 0 := by omega
            simp only [numR, Option.map_some] at hn2 hP
            go_wp2_with fail
            refine (hn2 _).mono ?_
            rintro e w6 ⟨rfl, hE⟩
            clear hn2
            have hE6 := hE5.trans hE
            clear hE hE5
            by_cases r1 : F < L
            · first
              | (exfalso; omega)
              | (have i1 : ((F : Nat) : Int) < L := by omega
                 rw [if_pos (Or.inl r1)] at hP
                 subst hP
                 go_wp2_with fail
                 refine (hlo _).mono ?_
                 rintro e w' ⟨rfl, rfl⟩
                 go_wp2_with fail
                 go_ret2
                 exact ⟨rfl, hE6⟩)
            by_cases r2 : H < T
            · first
              | (exfalso; omega)
              | (have i1 : ¬ ((F : Nat) : Int) < L := by omega
                 have i2 : (H : Int) < (T : Nat) := by omega
                 rw [if_pos (Or.inr (Or.inl r2))] at hP
                 subst hP
                 go_wp2_with fail
                 refine (hlo _).mono ?_
                 rintro e w' ⟨rfl, rfl⟩
                 go_wp2_with fail
                 refine (hhi _).mono ?_
                 rintro e w' ⟨rfl, rfl⟩
                 go_wp2_with fail
                 go_ret2
                 exact ⟨rfl, hE6⟩)
            by_cases r3 : T < F
            · first
              | (exfalso; omega)
              | (have i1 : ¬ ((F : Nat) : Int) < L := by omega
                 have i2 : ¬ (H : Int) < (T : Nat) := by omega
                 have i3 : ((T : Nat) : Int) < (F : Nat) := by omega
                 rw [if_pos (Or.inr (Or.inr r3))] at hP
                 subst hP
                 go_wp2_with fail
                 refine (hlo _).mono ?_
                 rintro e w' ⟨rfl, rfl⟩
                 go_wp2_with fail
                 refine (hhi _).mono ?_
                 rintro e w' ⟨rfl, rfl⟩
                 go_wp2_with fail
                 go_ret2
                 exact ⟨rfl, hE6⟩)
            rw [if_neg (by omega)] at hP
            subst hP
            have i1 : ¬ ((F : Nat) : Int) < L := by omega
            have i2 : ¬ (H : Int) < (T : Nat) := by omega
            have i3 : ¬ ((T : Nat) : Int) < (F : Nat) := by omega
            go_wp2_with fail
            refine (hlo _).mono ?_
            rintro e w' ⟨rfl, rfl⟩
            go_wp2_with fail
            refine (hhi _).mono ?_
            rintro e w' ⟨rfl, rfl⟩
            go_wp2_with fail
            have hE3 := hE6
            have hS99 : 1 ≤ 99 ∧ 1 ≤ 1 := by omega
            have b0 : 0 ≤ F := by omega
            have b1 : T ≤ 59 := by omega
            have b2 : F ≤ T := by omega
            have hH0 : Has w w6 [nRow (.slice none 0 0) (numsTo ⟨F, T, 1⟩ F)] := by rw [numsTo_from ⟨F, T, 1⟩]; exact (Has.nil hE3).rowNil .nil 3 1
            go_loopw [15, 16] (fun v vj wr => NRel w ⟨F, T, 1⟩ v vj wr) (fun _ vj _ => (((T : Nat) : Int) + 2 - intOf vj).toNat)
            case atStart => exact ⟨F, rfl, Nat.le_refl _, (by omega : F ≤ T + 1), hH0⟩
            case round =>
              clear hH0
              obtain ⟨j, rfl, hj1, hj2, hH⟩ := hrel
              replace hj1 : F ≤ j := hj1
              replace hj2 : j ≤ T + 1 := hj2
              by_cases hlt : j ≤ T
              · have i7 : (j : Int) ≤ (T : Nat) := by omega
                obtain ⟨hmod, hmod2⟩ := has_mod (S := 1) hj1 hlt
                have hsu := numsTo_succ ⟨F, T, 1⟩ j
                have hll := numsTo_len ⟨F, T, 1⟩ j
                cases hb : Prt.has ⟨F, T, 1⟩ j with
                | true =>
                  rw [hb] at hmod hmod2 hsu
                  rw [if_pos rfl] at hsu
                  have HSU := Lib.hid hsu
                  clear hsu hb
                  generalize numsTo ⟨F, T, 1⟩ j = l at *
                  have hown := hH.row0
                  have hown1 := ownsRow_ext hown (ext_alloc wr (.cells #[.int .i64 (j : Int)] 3))
                  have hH1 := hH.ext (.cons (nRow_loc _ _) .nil) (ext_alloc wr (.cells #[.int .i64 (j : Int)] 3))
                  have hnews := news_new wr [.int .i64 (j : Int)] 3
                  have hu1 := oneC1 .i64 (j : Int)
                  go_wp2_with (at_builtin; refine wpList_append_new rfl _ _ 66 rfl 3 i0 (.int .i64 0) 1 8 Tryd.underlying66 hi0 hz0 hz1 hz2 rfl (by decide) _ _ _ rfl hown1 _ 1 1 [.int .i64 (j : Int)] rfl rfl (fun h => by cases h) hnews hu1 (by unfold maxLen; omega) (by omega) ?_)
                  intro v3 w3 hown3 hg3 hf3
                  have hH3 := nRow_snoc (Has.grow hH1 .nil hown3 hg3 hf3)
                  rw [← HSU.out] at hH3
                  clear hown1 hown3 hg3 hf3 hH1 hnews hu1
                  go_wp2_with fail
                  exact ⟨⟨j + 1, by go_num, (by omega : F ≤ j + 1), (by omega : j + 1 ≤ T + 1), hH3⟩, by simp [intOf]; omega⟩
                | false =>
                  first
                  | (exfalso
                     have h1 : Prt.has ⟨F, T, 1⟩ j = true := by
                       unfold Prt.has; rw [decide_eq_true_eq]; exact ⟨hj1, hlt, Nat.mod_one _⟩
                     exact absurd (h1.symm.trans hb) (by decide))
                  | (rw [hb] at hmod hmod2 hsu
                     rw [if_neg (by decide), List.append_nil] at hsu
                     have HSU := Lib.hid hsu
                     clear hsu hll hb
                     go_wp2_with fail
                     exact ⟨⟨j + 1, by go_num, (by omega : F ≤ j + 1), (by omega : j + 1 ≤ T + 1), by rw [HSU.out]; exact hH⟩, by simp [intOf]; omega⟩)
              · have hj : j = T + 1 := by omega
                have i7 : ¬ (j : Int) ≤ (T : Nat) := by omega
                have HJ := Lib.hid hj
                clear hj
                go_wp2_with fail
                go_ret2
                exact ⟨_, rfl, HJ.out ▸ hH⟩
        | false =>
          rw [if_neg (by decide)] at hP
          simp only [Bool.false_eq_true, if_false] at hP
          have hE6 := hE5
          clear hE5
          by_cases r1 : F < L
          · first
            | (exfalso; omega)
            | (have i1 : ((F : Nat) : Int) < L := by omega
               rw [if_pos (Or.inl r1)] at hP
               subst hP
               go_wp2_with fail
               refine (hlo _).mono ?_
               rintro e w' ⟨rfl, rfl⟩
               go_wp2_with fail
               go_ret2
               exact ⟨rfl, hE6⟩)
          by_cases r2 : H < F
          · first
            | (exfalso; omega)
            | (have i1 : ¬ ((F : Nat) : Int) < L := by omega
               have i2 : (H : Int) < (F : Nat) := by omega
               rw [if_pos (Or.inr (Or.inl r2))] at hP
               subst hP
               go_wp2_with fail
               refine (hlo _).mono ?_
               rintro e w' ⟨rfl, rfl⟩
               go_wp2_with fail
               refine (hhi _).mono ?_
               rintro e w' ⟨rfl, rfl⟩
               go_wp2_with fail
               go_ret2
               exact ⟨rfl, hE6⟩)
          by_cases r3 : F < F
          · first
            | (exfalso; omega)
            | (have i1 : ¬ ((F : Nat) : Int) < L := by omega
               have i2 : ¬ (H : Int) < (F : Nat) := by omega
               have i3 : ((F : Nat) : Int) < (F : Nat) := by omega
               rw [if_pos (Or.inr (Or.inr r3))] at hP
               subst hP
               go_wp2_with fail
               refine (hlo _).mono ?_
               rintro e w' ⟨rfl, rfl⟩
               go_wp2_with fail
               refine (hhi _).mono ?_
               rintro e w' ⟨rfl, rfl⟩
               go_wp2_with fail
               go_ret2
               exact ⟨rfl, hE6⟩)
          rw [if_neg (by omega)] at hP
          subst hP
          have i1 : ¬ ((F : Nat) : Int) < L := by omega
          have i2 : ¬ (H : Int) < (F : Nat) := by omega
          have i3 : ¬ ((F : Nat) : Int) < (F : Nat) := by omega
          go_wp2_with fail
          refine (hlo _).mono ?_
          rintro e w' ⟨rfl, rfl⟩
          go_wp2_with fail
          refine (hhi _).mono ?_
          rintro e w' ⟨rfl, rfl⟩
          go_wp2_with fail
          have hE3 := hE6
          have hS99 : 1 ≤ 99 ∧ 1 ≤ 1 := by omega
          have b0 : 0 ≤ F := by omega
          have b1 : F ≤ 59 := by omega
          have b2 : F ≤ F := by omega
          have hH0 : Has w w5 [nRow (.slice none 0 0) (numsTo ⟨F, F, 1⟩ F)] := by rw [numsTo_from ⟨F, F, 1⟩]; exact (Has.nil hE3).rowNil .nil 3 1
          go_loopw [15, 16] (fun v vj wr => NRel w ⟨F, F, 1⟩ v vj wr) (fun _ vj _ => (((F : Nat) : Int) + 2 - intOf vj).toNat)
          case atStart => exact ⟨F, rfl, Nat.le_refl _, (by omega : F ≤ F + 1), hH0⟩
          case round =>
            clear hH0
            obtain ⟨j, rfl, hj1, hj2, hH⟩ := hrel
            replace hj1 : F ≤ j := hj1
            replace hj2 : j ≤ F + 1 := hj2
            by_cases hlt : j ≤ F
            · have i7 : (j : Int) ≤ (F : Nat) := by omega
              obtain ⟨hmod, hmod2⟩ := has_mod (S := 1) hj1 hlt
              have hsu := numsTo_succ ⟨F, F, 1⟩ j
              have hll := numsTo_len ⟨F, F, 1⟩ j
              cases hb : Prt.has ⟨F, F, 1⟩ j with
              | true =>
                rw [hb] at hmod hmod2 hsu
                rw [if_pos rfl] at hsu
                have HSU := Lib.hid hsu
                clear hsu hb
                generalize numsTo ⟨F, F, 1⟩ j = l at *
                have hown := hH.row0
                have hown1 := ownsRow_ext hown (ext_alloc wr (.cells #[.int .i64 (j : Int)] 3))
                have hH1 := hH.ext (.cons (nRow_loc _ _) .nil) (ext_alloc wr (.cells #[.int .i64 (j : Int)] 3))
                have hnews := news_new wr [.int .i64 (j : Int)] 3
                have hu1 := oneC1 .i64 (j : Int)
                go_wp2_with (at_builtin; refine wpList_append_new rfl _ _ 66 rfl 3 i0 (.int .i64 0) 1 8 Tryd.underlying66 hi0 hz0 hz1 hz2 rfl (by decide) _ _ _ rfl hown1 _ 1 1 [.int .i64 (j : Int)] rfl rfl (fun h => by cases h) hnews hu1 (by unfold maxLen; omega) (by omega) ?_)
                intro v3 w3 hown3 hg3 hf3
                have hH3 := nRow_snoc (Has.grow hH1 .nil hown3 hg3 hf3)
                rw [← HSU.out] at hH3
                clear hown1 hown3 hg3 hf3 hH1 hnews hu1
                go_wp2_with fail
                exact ⟨⟨j + 1, by go_num, (by omega : F ≤ j + 1), (by omega : j + 1 ≤ F + 1), hH3⟩, by simp [intOf]; omega⟩
              | false =>
                first
                | (exfalso
                   have h1 : Prt.has ⟨F, F, 1⟩ j = true := by
                     unfold Prt.has; rw [decide_eq_true_eq]; exact ⟨hj1, hlt, Nat.mod_one _⟩
                   exact absurd (h1.symm.trans hb) (by decide))
                | (rw [hb] at hmod hmod2 hsu
                   rw [if_neg (by decide), List.append_nil] at hsu
                   have HSU := Lib.hid hsu
                   clear hsu hll hb
                   go_wp2_with fail
                   exact ⟨⟨j + 1, by go_num, (by omega : F ≤ j + 1), (by omega : j + 1 ≤ F + 1), by rw [HSU.out]; exact hH⟩, by simp [intOf]; omega⟩)
            · have hj : j = F + 1 := by omega
              have i7 : ¬ (j : Int) ≤ (F : Nat) := by omega
              have HJ := Lib.hid hj
              clear hj
              go_wp2_with fail
              go_ret2
              exact ⟨_, rfl, HJ.out ▸ hH⟩
end Go.Proofs.YtmgpkadgalgnnaaDoor
