/- The walks of package policy: what each function computes. -/
import Derived.Test.YtlkhpfchcapgiaaRows
import Derived.Test.YtlkhpfchcapgiaaCom
import Derived.Test.YtlkhpfchcapgiaaPlain
import Derived.WalkKit
import Derived.WalkSpells
import Derived.WalkLawsBesides
import Derived.ProofKit
import Derived.Outline
import Derived.BigQuiet
import Derived.RegionTactic
import Derived.StillTailTactics
import Derived.Lib.Hide
namespace Go.Proofs.Ytlkhpfchcapgiaa
open Go.ChangeShapes Go.WideShapes Go.ChangeAt Go.RowKit
set_option linter.unusedVariables false
set_option linter.unusedSimpArgs false

abbrev pol (t f fa m l : Int) : Value := .agg #[.int .i64 t, .int .i64 f, .int .i64 fa, .int .i64 m, .int .i64 l]
structure OkP (t f fa m l : Int) : Prop where
  h : 0 ≤ t ∧ t ≤ 15 ∧ 0 ≤ f ∧ f ≤ 63 ∧ 1 ≤ fa ∧ fa ≤ 7 ∧ 0 ≤ m ∧ m ≤ 511 ∧ 0 ≤ l ∧ l ≤ 511

theorem box5 {w w1 : World} {a b c d e : Value} {T : TypeId} (h : Ext (w.alloc (.cells #[a, b, c, d, e] T)) w1) :
    w1.cell? ⟨w.heap.size, 0, none⟩ = some a ∧ w1.cell? ⟨w.heap.size, 1, none⟩ = some b ∧ w1.cell? ⟨w.heap.size, 2, none⟩ = some c ∧ w1.cell? ⟨w.heap.size, 3, none⟩ = some d ∧ w1.cell? ⟨w.heap.size, 4, none⟩ = some e := by
  have hb : w.heap.size < (w.alloc (.cells #[a, b, c, d, e] T)).heap.size := by simp
  refine ⟨?_, ?_, ?_, ?_, ?_⟩ <;> (rw [h.cell _ _ hb, cell_box]; rfl)

theorem check_ok (t f fa m l : Int) (w : World) (h : OkP t f fa m l) :
    Calls Try.prog 11 #[pol t f fa m l] w fun e w' => e = .returned (.int .i64 0) ∧ Ext w w' := by
  obtain ⟨h1, h2, h3, h4, h5, h6, h7, h8, h9, h10⟩ := h
  go_enter Try.func11, Try.ntmps11
  go_wp2
  go_ret
  exact ⟨rfl, ext_alloc _ _⟩
theorem check_no (t f fa m l : Int) (w : World) (h : ¬ OkP t f fa m l) :
    Calls Try.prog 11 #[pol t f fa m l] w fun e w' => e = .returned (.int .i64 1) ∧ Ext w w' := by
  go_enter Try.func11, Try.ntmps11
  go_wp2
  all_goals first
    | (exfalso; exact h ⟨by omega⟩)
    | (go_ret; exact ⟨rfl, ext_alloc _ _⟩)
theorem right_ok (t f fa m l : Int) (w : World) (h : OkP t f fa m l) :
    Calls Try.prog 10 #[pol t f fa m l] w fun e w' => e = .returned (.bool true) ∧ Ext w w' := by
  obtain ⟨h1, h2, h3, h4, h5, h6, h7, h8, h9, h10⟩ := h
  have e : (decide (0 ≤ t) && decide (t ≤ 15) && decide (0 ≤ f) && decide (f ≤ 63) && decide (1 ≤ fa) && decide (fa ≤ 7) && decide (0 ≤ m) && decide (m ≤ 511) && decide (0 ≤ l) && decide (l ≤ 511)) = true := by simp [*]
  go_enter Try.func10, Try.ntmps10
  go_wp2
  go_ret
  exact ⟨by simp [*], ext_alloc _ _⟩
theorem right_no (t f fa m l : Int) (w : World) (h : ¬ OkP t f fa m l) :
    Calls Try.prog 10 #[pol t f fa m l] w fun e w' => e = .returned (.bool false) ∧ Ext w w' := by
  have e : (decide (0 ≤ t) && decide (t ≤ 15) && decide (0 ≤ f) && decide (f ≤ 63) && decide (1 ≤ fa) && decide (fa ≤ 7) && decide (0 ≤ m) && decide (m ≤ 511) && decide (0 ≤ l) && decide (l ≤ 511)) = false := by
    rw [Bool.eq_false_iff]; intro hh; simp only [Bool.and_eq_true, decide_eq_true_eq] at hh; exact h ⟨by omega⟩
  have E := Lib.hid e
  clear e h
  go_enter Try.func10, Try.ntmps10
  go_wp2
  all_goals (go_ret; exact ⟨by have e := E.out; clear E; simp_all, ext_alloc _ _⟩)

theorem ret_int {k : IntKind} {a b : Int} (h : a = b) : Ending.returned (.int k a) = .returned (.int k b) := by rw [h]
theorem put_at (n x s k n' s' : Int) (bl : Nat) (w : World) (en : n' = n + x * 2 ^ s.toNat) (es : s' = s + k) (h0 : 0 ≤ n) (hn : n < 2 ^ s.toNat) (hx : 0 ≤ x) (hx2 : x < 65536) (h1 : w.cell? ⟨bl, 0, none⟩ = some (.int .i64 n)) (h2 : w.cell? ⟨bl, 1, none⟩ = some (.int .u64 s)) (h3 : w.frozen? ⟨bl, 0, none⟩ = false)  (h4 : w.frozen? ⟨bl, 1, none⟩ = false) (h5 : 0 ≤ s) (h6 : s < 40) (h7 : 0 ≤ k) (h8 : k < 20):
    Calls Try.prog 16 #[.pointer (some ⟨bl, 0, none⟩), .int .i64 x, .int .u64 k] w fun e w' => e = .returned (.tuple #[]) ∧ w' = ((w.setCell ⟨bl, 0, none⟩ (.int .i64 n')).setCell ⟨bl, 1, none⟩ (.int .u64 s')).drew := by
  subst en es
  have e := put_bits n x s.toNat h0 hn hx (by omega) hx2
  have e2 : wrap64 (x * 2 ^ s.toNat) = x * 2 ^ s.toNat := by
    have h3 : (2 : Nat) ^ s.toNat ≤ 2 ^ 39 := Nat.pow_le_pow_right (by omega) (by omega)
    obtain ⟨b, rfl⟩ := Int.eq_ofNat_of_zero_le hx
    have h5 : b * 2 ^ s.toNat ≤ 65536 * 2 ^ 39 := Nat.mul_le_mul (by omega) h3
    have e : ((b : Int) * 2 ^ s.toNat) = ((b * 2 ^ s.toNat : Nat) : Int) := by simp
    rw [e]; unfold wrap64; omega
  have E := Lib.hid e
  have E2 := Lib.hid e2
  clear e e2 hn
  go_enter Try.func16, Try.ntmps16
  go_wp2
  go_still_tail 13, (by kernel_rfl)
  change wpList _ _ _ _ _ w.drew
  go_wp2
  go_end0
  exact ⟨rfl, by rw [E2.out, E.out]⟩
theorem get_at (n k : Int) (bl : Nat) (w : World) (h0 : 0 ≤ n) (hn : n < 9223372036854775807) (h1 : w.cell? ⟨bl, 0, none⟩ = some (.int .i64 n))  (h3 : w.frozen? ⟨bl, 0, none⟩ = false)  (h7 : 0 ≤ k) (h8 : k < 20):
    Calls Try.prog 17 #[.pointer (some ⟨bl, 0, none⟩), .int .u64 k] w fun e w' => e = .returned (.int .i64 (n % 2 ^ k.toNat)) ∧ w' = w.setCell ⟨bl, 0, none⟩ (.int .i64 (n / 2 ^ k.toNat)) := by
  have e := low_bits n k.toNat h0 (by omega) (by omega)
  have e2 : wrap64 (wrap64 (2 ^ k.toNat) - 1) = 2 ^ k.toNat - 1 := by
    have h2 : (1 : Nat) ≤ 2 ^ k.toNat := Nat.one_le_two_pow
    have h3 : (2 : Nat) ^ k.toNat ≤ 2 ^ 19 := Nat.pow_le_pow_right (by omega) (by omega)
    have e3 : (2 : Int) ^ k.toNat = ((2 ^ k.toNat : Nat) : Int) := by simp
    rw [e3]; unfold wrap64; omega
  have E := Lib.hid e
  have E2 := Lib.hid e2
  clear e e2
  go_enter Try.func17, Try.ntmps17
  go_wp2
  go_ret
  exact ⟨ret_int (by rw [E2.out, E.out]), rfl⟩

def numV (t f fa m l : Int) : Int := (t + 15) % 16 + 16 * (f + 64 * (fa - 1 + 8 * (m + 512 * l)))
theorem number_no (t f fa m l : Int) (w : World) (h : ¬ OkP t f fa m l) :
    Calls Try.prog 9 #[pol t f fa m l] w fun e w' => e = .returned (.tuple #[.int .i64 0, .int .i64 1]) ∧ Ext w w' := by
  have H := Lib.hid h
  clear h
  go_enter Try.func9, Try.ntmps9
  go_wp2_with (go_at_call 11; refine (check_no _ _ _ _ _ _ H.out).mono ?_; rintro e w1 ⟨rfl, hE⟩)
  go_ret2
  exact ⟨rfl, (ext_alloc _ _).trans hE⟩
theorem number_ok (t f fa m l : Int) (w : World) (h : OkP t f fa m l) :
    Calls Try.prog 9 #[pol t f fa m l] w fun e w' => e = .returned (.tuple #[.int .i64 (numV t f fa m l), .int .i64 0]) ∧ Ext w w' := by
  have H := Lib.hid h
  obtain ⟨h1, h2, h3, h4, h5, h6, h7, h8, h9, h10⟩ := h
  obtain ⟨n1, e1⟩ : ∃ n, n = (t + 15) % 16 := ⟨_, rfl⟩
  obtain ⟨n2, e2⟩ : ∃ n, n = n1 + f * 16 := ⟨_, rfl⟩
  obtain ⟨n3, e3⟩ : ∃ n, n = n2 + (fa - 1) * 1024 := ⟨_, rfl⟩
  obtain ⟨n4, e4⟩ : ∃ n, n = n3 + m * 8192 := ⟨_, rfl⟩
  obtain ⟨n5, e5⟩ : ∃ n, n = n4 + l * 4194304 := ⟨_, rfl⟩
  have ef : Hid (n5 = numV t f fa m l) := by unfold Hid numV; omega
  have a1 : 0 ≤ n1 := by omega
  have a2 : n1 < 16 := by omega
  have b1 : 0 ≤ n2 := by omega
  have b2 : n2 < 1024 := by omega
  have g1 : 0 ≤ n3 := by omega
  have g2 : n3 < 8192 := by omega
  have d1 : 0 ≤ n4 := by omega
  have d2 : n4 < 4194304 := by omega
  have E1 := Lib.hid e1
  have E2 := Lib.hid e2
  have E3 := Lib.hid e3
  have E4 := Lib.hid e4
  have E5 := Lib.hid e5
  clear e1 e2 e3 e4 e5
  go_enter Try.func9, Try.ntmps9
  go_wp2_with (go_at_call 11; refine (check_ok _ _ _ _ _ _ H.out).mono ?_; rintro e w1 ⟨rfl, hE⟩; obtain ⟨c0, c1, c2, c3, c4⟩ := box5 hE; have hlt : w.heap.size < w1.heap.size := (by have := hE.le; simp at this; omega))
  refine (put_at 0 _ 0 4 n1 4 w1.heap.size _ (by have := E1.out; simp [this]) (by simp) (by simp) (by simp) (by omega) (by omega) (by simp) (by simp) (by simp) (by simp) (by simp) (by simp) (by simp) (by simp)).mono ?_
  rintro e w2 ⟨rfl, rfl⟩
  go_wp2_with fail
  refine (put_at n1 _ 4 6 n2 10 w1.heap.size _ (by have := E2.out; simp [this]) (by simp) a1 (by simp; omega) (by omega) (by omega) (by simp) (by simp) (by simp) (by simp) (by simp) (by simp) (by simp) (by simp)).mono ?_
  rintro e w2 ⟨rfl, rfl⟩
  go_wp2_with fail
  refine (put_at n2 _ 10 3 n3 13 w1.heap.size _ (by have := E3.out; simp [this]) (by simp) b1 (by simp; omega) (by omega) (by omega) (by simp) (by simp) (by simp) (by simp) (by simp) (by simp) (by simp) (by simp)).mono ?_
  rintro e w2 ⟨rfl, rfl⟩
  go_wp2_with fail
  refine (put_at n3 _ 13 9 n4 22 w1.heap.size _ (by have := E4.out; simp [this]) (by simp) g1 (by simp; omega) (by omega) (by omega) (by simp) (by simp) (by simp) (by simp) (by simp) (by simp) (by simp) (by simp)).mono ?_
  rintro e w2 ⟨rfl, rfl⟩
  go_wp2_with fail
  refine (put_at n4 _ 22 9 n5 31 w1.heap.size _ (by have := E5.out; simp [this]) (by simp) d1 (by simp; omega) (by omega) (by omega) (by simp) (by simp) (by simp) (by simp) (by simp) (by simp) (by simp) (by simp)).mono ?_
  rintro e w2 ⟨rfl, rfl⟩
  go_wp2_with fail
  go_ret2
  refine ⟨by rw [← ef.out]; rfl, ?_⟩
  (repeat first
    | exact Ext.refl _
    | exact ext_alloc _ _
    | (exact (ext_alloc _ _).trans hE)
    | refine Ext.drewN ?_ _
    | refine Ext.drew ?_
    | refine Ext.alloc ?_ _
    | refine Ext.setCell ?_ (by simp; omega) _)

def ofT (n : Int) : Int := (n + 1) % 16
def ofF (n : Int) : Int := n / 16 % 64
def ofFa (n : Int) : Int := if n / 1024 % 8 = 7 then 7 else n / 1024 % 8 + 1
def ofM (n : Int) : Int := n / 8192 % 512
def ofL (n : Int) : Int := n / 4194304 % 512
theorem of_out (n : Int) (w : World) (h : n < 0 ∨ 2147483648 ≤ n) :
    Calls Try.prog 12 #[.int .i64 n] w fun e w' => e = .returned (pol 1 0 1 0 0) ∧ Ext w w' := by
  rcases h with h | h
  · go_enter Try.func12, Try.ntmps12
    go_wp2
    exact bodyPost_ret (v := pol 1 0 1 0 0) (by simp [results, Try.results12, go_sem]) rfl ⟨rfl, by (repeat first
                                                                                                      | exact Ext.refl _
                                                                                                      | exact ext_alloc _ _
                                                                                                      | (fail)
                                                                                                      | refine Ext.drewN ?_ _
                                                                                                      | refine Ext.drew ?_
                                                                                                      | refine Ext.alloc ?_ _
                                                                                                      | refine Ext.setCell ?_ (by simp; omega) _)⟩
  · have h' : ¬ n < 0 := by omega
    go_enter Try.func12, Try.ntmps12
    go_wp2
    exact bodyPost_ret (v := pol 1 0 1 0 0) (by simp [results, Try.results12, go_sem]) rfl ⟨rfl, by (repeat first
                                                                                                      | exact Ext.refl _
                                                                                                      | exact ext_alloc _ _
                                                                                                      | (fail)
                                                                                                      | refine Ext.drewN ?_ _
                                                                                                      | refine Ext.drew ?_
                                                                                                      | refine Ext.alloc ?_ _
                                                                                                      | refine Ext.setCell ?_ (by simp; omega) _)⟩
theorem of_in (n : Int) (w : World) (h0 : 0 ≤ n) (h1 : n < 2147483648) :
    Calls Try.prog 12 #[.int .i64 n] w fun e w' => e = .returned (pol (ofT n) (ofF n) (ofFa n) (ofM n) (ofL n)) ∧ Ext w w' := by
  have h' : ¬ n < 0 := by omega
  obtain ⟨n1, e1⟩ : ∃ k, k = n / 16 := ⟨_, rfl⟩
  obtain ⟨n2, e2⟩ : ∃ k, k = n1 / 64 := ⟨_, rfl⟩
  obtain ⟨n3, e3⟩ : ∃ k, k = n2 / 8 := ⟨_, rfl⟩
  obtain ⟨n4, e4⟩ : ∃ k, k = n3 / 512 := ⟨_, rfl⟩
  have a1 : 0 ≤ n1 := by omega
  have a2 : n1 < 2147483648 := by omega
  have b1 : 0 ≤ n2 := by omega
  have b2 : n2 < 2147483648 := by omega
  have g1 : 0 ≤ n3 := by omega
  have g2 : n3 < 2147483648 := by omega
  have d1 : 0 ≤ n4 := by omega
  have d2 : n4 < 2147483648 := by omega
  have f1 : Hid ((n + 1) % 16 = ofT n) := by unfold Hid ofT; rfl
  have f2 : Hid (n1 % 64 = ofF n) := by unfold Hid ofF; omega
  have f4 : Hid (n3 % 512 = ofM n) := by unfold Hid ofM; omega
  have f5 : Hid (n4 % 512 = ofL n) := by unfold Hid ofL; omega
  have E1 := Lib.hid e1
  have E2 := Lib.hid e2
  have E3 := Lib.hid e3
  have E4 := Lib.hid e4
  clear e1 e2 e3 e4
  by_cases hm : n2 % 8 + 1 ≤ 7
  · have f3 : Hid (n2 % 8 + 1 = ofFa n) := by unfold Hid ofFa; have := E1.out; have := E2.out; split <;> omega
    go_enter Try.func12, Try.ntmps12
    go_wp2_with fail
    refine (get_at n _ _ _ h0 (by omega) (by go_simp) (by go_simp) (by simp) (by simp)).mono ?_
    rintro e w2 ⟨rfl, rfl⟩
    rw [show n / 2 ^ Int.toNat 4 = n1 from by rw [E1.out]; rfl]
    go_wp2_with fail
    refine (get_at n1 _ _ _ a1 (by omega) (by go_simp) (by go_simp) (by simp) (by simp)).mono ?_
    rintro e w2 ⟨rfl, rfl⟩
    rw [show n1 / 2 ^ Int.toNat 6 = n2 from by rw [E2.out]; rfl]
    go_wp2_with fail
    refine (get_at n2 _ _ _ b1 (by omega) (by go_simp) (by go_simp) (by simp) (by simp)).mono ?_
    rintro e w2 ⟨rfl, rfl⟩
    rw [show n2 / 2 ^ Int.toNat 3 = n3 from by rw [E3.out]; rfl]
    go_wp2_with fail
    refine (get_at n3 _ _ _ g1 (by omega) (by go_simp) (by go_simp) (by simp) (by simp)).mono ?_
    rintro e w2 ⟨rfl, rfl⟩
    rw [show n3 / 2 ^ Int.toNat 9 = n4 from by rw [E4.out]; rfl]
    go_wp2_with fail
    refine (get_at n4 _ _ _ d1 (by omega) (by go_simp) (by go_simp) (by simp) (by simp)).mono ?_
    rintro e w2 ⟨rfl, rfl⟩
    go_wp2_with fail
    refine bodyPost_ret (v := pol ((n + 1) % 16) (n1 % 64) (n2 % 8 + 1) (n3 % 512) (n4 % 512)) (by simp [results, Try.results12, go_sem]) rfl ⟨by rw [f1.out, f2.out, f3.out, f4.out, f5.out], ?_⟩
    (repeat first
      | exact Ext.refl _
      | exact ext_alloc _ _
      | (fail)
      | refine Ext.drewN ?_ _
      | refine Ext.drew ?_
      | refine Ext.alloc ?_ _
      | refine Ext.setCell ?_ (by simp; omega) _)
  · have hm' : 7 < n2 % 8 + 1 := by omega
    clear hm
    have f3 : Hid (7 = ofFa n) := by unfold Hid ofFa; have := E1.out; have := E2.out; split <;> omega
    go_enter Try.func12, Try.ntmps12
    go_wp2_with fail
    refine (get_at n _ _ _ h0 (by omega) (by go_simp) (by go_simp) (by simp) (by simp)).mono ?_
    rintro e w2 ⟨rfl, rfl⟩
    rw [show n / 2 ^ Int.toNat 4 = n1 from by rw [E1.out]; rfl]
    go_wp2_with fail
    refine (get_at n1 _ _ _ a1 (by omega) (by go_simp) (by go_simp) (by simp) (by simp)).mono ?_
    rintro e w2 ⟨rfl, rfl⟩
    rw [show n1 / 2 ^ Int.toNat 6 = n2 from by rw [E2.out]; rfl]
    go_wp2_with fail
    refine (get_at n2 _ _ _ b1 (by omega) (by go_simp) (by go_simp) (by simp) (by simp)).mono ?_
    rintro e w2 ⟨rfl, rfl⟩
    rw [show n2 / 2 ^ Int.toNat 3 = n3 from by rw [E3.out]; rfl]
    go_wp2_with fail
    refine (get_at n3 _ _ _ g1 (by omega) (by go_simp) (by go_simp) (by simp) (by simp)).mono ?_
    rintro e w2 ⟨rfl, rfl⟩
    rw [show n3 / 2 ^ Int.toNat 9 = n4 from by rw [E4.out]; rfl]
    go_wp2_with fail
    refine (get_at n4 _ _ _ d1 (by omega) (by go_simp) (by go_simp) (by simp) (by simp)).mono ?_
    rintro e w2 ⟨rfl, rfl⟩
    go_wp2_with fail
    refine bodyPost_ret (v := pol ((n + 1) % 16) (n1 % 64) 7 (n3 % 512) (n4 % 512)) (by simp [results, Try.results12, go_sem]) rfl ⟨by rw [f1.out, f2.out, f3.out, f4.out, f5.out], ?_⟩
    (repeat first
      | exact Ext.refl _
      | exact ext_alloc _ _
      | (fail)
      | refine Ext.drewN ?_ _
      | refine Ext.drew ?_
      | refine Ext.alloc ?_ _
      | refine Ext.setCell ?_ (by simp; omega) _)


end Go.Proofs.Ytlkhpfchcapgiaa
