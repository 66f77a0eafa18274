/- A ring, and its small functions; bytes that can be read. -/
import Derived.Test.YthghflfgldcmbaaMPut
import Derived.Test.YthghflfgldcmbaaSCrc
namespace Go.Proofs.Ythghflfgldcmbaa
set_option maxRecDepth 4000
set_option linter.unusedVariables false
set_option linter.unusedSimpArgs false
open Go Go.RowKit
/-- bytes that can be read -/
structure View (W : World) (p : Option Addr) (c : Nat) (l : List UInt8) : Prop where
  nil_ : p = none → l.length = 0 ∧ c = 0
  at_ : ∀ a, p = some a → a.block < W.heap.size ∧ ∃ o, a = ⟨a.block, o, none⟩ ∧ ∀ i, i < l.length → W.cell? ⟨a.block, o + i, none⟩ = some (.int .u8 ((l.getD i 0).toNat : Int))
  le : l.length ≤ c
  cap : c ≤ maxLen
section
variable {W W' : World} {p : Option Addr} {c : Nat} {l : List UInt8}
theorem View.keep (h : View W p c l) (hk : ∀ a, p = some a → W'.heap[a.block]? = W.heap[a.block]?) : View W' p c l := by
  refine ⟨h.nil_, fun a ha => ?_, h.le, h.cap⟩
  obtain ⟨h1, o, h2, h3⟩ := h.at_ a ha
  have h4 := hk a ha
  refine ⟨?_, o, h2, fun i hi => (World.cell?_of_block (w := W) (a := ⟨a.block, o + i, none⟩) h4).trans (h3 i hi)⟩
  rw [Array.getElem?_eq_getElem h1] at h4
  exact (Array.getElem?_eq_some_iff.1 h4).1
theorem View.ext (h : View W p c l) (hE : Ext W W') : View W' p c l := h.keep fun a ha => hE.block _ (h.at_ a ha).1
theorem byI_getD (l : List UInt8) (i : Nat) (h : i < l.length) : (byI l).getD i 0 = ((l.getD i 0).toNat : Int) := by
  rw [List.getD_eq_getElem?_getD, byI, List.getElem?_map, List.getElem?_eq_getElem h, List.getD_eq_getElem?_getD, List.getElem?_eq_getElem h]; rfl
theorem View.nums (h : View W p c l) : NumsAt .u8 W p (byI l) := by
  intro i hi
  rw [byI_length] at hi
  cases p with
  | none => have := (h.nil_ rfl).1; omega
  | some a =>
    obtain ⟨h1, o, h2, h3⟩ := h.at_ a rfl
    refine ⟨a, rfl, h1, ?_⟩
    rw [h2, Go.WideShapes.add_plain, h3 i hi, byI_getD l i hi]
theorem View.of_row {b n : Nat} (h : W.ownsRow b 5 1 (.slice p n c) n (u8s l)) : View W p c l := by
  have hl := h.1
  rw [u8s_length, Nat.mul_one] at hl
  subst hl
  rcases h.2 with ⟨hv, hn⟩ | ⟨g, cap, cur, hv, _, hg, h1, h2, _⟩
  · injection hv with e1 _ e2
    subst e1 e2
    exact ⟨fun _ => ⟨hn, rfl⟩, (fun a ha => by cases ha), by omega, by unfold maxLen; omega⟩
  · have hc := h.cells (g := g) (by rw [hv]; rfl)
    injection hv with e1 _ e2
    subst e1 e2
    refine ⟨(fun h => by cases h), fun a ha => ?_, h1, h2⟩
    injection ha with ha
    subst ha
    refine ⟨(Array.getElem?_eq_some_iff.1 hg).1, 0, rfl, fun i hi => ?_⟩
    have h4 := hc i _ (u8s_get l i hi)
    rwa [Go.WideShapes.add_plain] at h4
theorem View.drop {g o : Nat} (h : View W (some ⟨g, o, none⟩) c l) (i : Nat) (hi : i ≤ l.length) : View W (some ⟨g, o + i, none⟩) (c - i) (l.drop i) := by
  refine ⟨(fun h => by cases h), fun a ha => ?_, ?_, ?_⟩
  · injection ha with ha
    subst ha
    obtain ⟨h1, o', h2, h3⟩ := h.at_ _ rfl
    injection h2 with _ h2 _
    subst h2
    refine ⟨h1, o + i, rfl, fun j hj => ?_⟩
    rw [List.length_drop] at hj
    have h4 := h3 (i + j) (by omega)
    rw [show o + i + j = o + (i + j) by omega, List.getD_eq_getElem?_getD, List.getElem?_drop, ← List.getD_eq_getElem?_getD]
    exact h4
  · rw [List.length_drop]; have := h.le; omega
  · have := h.cap; omega
theorem View.take (h : View W p c l) (n c' : Nat) (h1 : n ≤ l.length) (h2 : n ≤ c') (h3 : c' ≤ maxLen) (h4 : p = none → c' = 0) : View W p c' (l.take n) := by
  refine ⟨fun hp => ⟨by rw [List.length_take]; have := (h.nil_ hp).1; omega, h4 hp⟩, fun a ha => ?_, by rw [List.length_take]; omega, h3⟩
  obtain ⟨k1, o, k2, k3⟩ := h.at_ a ha
  refine ⟨k1, o, k2, fun i hi => ?_⟩
  rw [List.length_take] at hi
  rw [k3 i (by omega), List.getD_eq_getElem?_getD, List.getD_eq_getElem?_getD, List.getElem?_take, if_pos (by omega)]
theorem View.none_ : View W none 0 [] := ⟨fun _ => ⟨rfl, rfl⟩, (fun a ha => by cases ha), Nat.le_refl _, by unfold maxLen; omega⟩
/-- what `append(.., l...)` wants of its bytes -/
theorem View.news (h : View W p c l) : ∀ a, p = some a → ∀ j u, (u8s l)[j]? = some u → W.cell? (a.add j) = some u := news_at h.nums
end
/-- bytes that can be read, in a block of the law's own -/
def viewA (p : Option Addr) (c : Nat) (l : List UInt8) : Asr := fun W F => View W p c l ∧ F = fun k => ∃ a, p = some a ∧ a.block = k
theorem viewA_loc (p : Option Addr) (c : Nat) (l : List UInt8) : Loc (viewA p c l) := by
  constructor
  · rintro W W' F ⟨h, rfl⟩ hk
    exact ⟨h.keep fun a ha => hk a.block ⟨a, ha, rfl⟩, rfl⟩
  · rintro W F k ⟨h, rfl⟩ ⟨a, ha, rfl⟩
    exact (h.at_ a ha).1
def ringA (g d T : Nat) (rv : Value) : Asr := blkA g 82 #[.pointer (some ⟨d, 0, none⟩), .int .i64 2, .int .i64 192, .int .u64 T, rv]
theorem ringA_loc (g d T : Nat) (rv : Value) : Loc (ringA g d T rv) := blkA_loc _ _ _
abbrev Ring (W : World) (g d T : Nat) (rv : Value) : Prop := Blk W g 82 #[.pointer (some ⟨d, 0, none⟩), .int .i64 2, .int .i64 192, .int .u64 T, rv]
section
variable {W : World} {g d T : Nat} {rv : Value}
theorem size_any (h : Ring W g d T rv) : Calls Try.prog 32 #[.pointer (some ⟨g, 0, none⟩)] W fun e W' => e = .returned (.int .i64 24576) ∧ W = W' := by
  have rc0 : World.cell? W ⟨g, 0, none⟩ = some (.pointer (some ⟨d, 0, none⟩)) := Blk.cell h 0
  have rc1 : World.cell? W ⟨g, 1, none⟩ = some (.int .i64 2) := Blk.cell h 1
  have rc2 : World.cell? W ⟨g, 2, none⟩ = some (.int .i64 192) := Blk.cell h 2
  have rc3 : World.cell? W ⟨g, 3, none⟩ = some (.int .u64 T) := Blk.cell h 3
  have rc4 : World.cell? W ⟨g, 4, none⟩ = some rv := Blk.cell h 4
  clear h
  go_enter Try.func32, Try.ntmps32
  go_wp2_with fail
  go_ret
  exact ⟨rfl, rfl⟩
theorem tail_any (h : Ring W g d T rv) : Calls Try.prog 33 #[.pointer (some ⟨g, 0, none⟩)] W fun e W' => e = .returned (.int .u64 T) ∧ W = W' := by
  have rc0 : World.cell? W ⟨g, 0, none⟩ = some (.pointer (some ⟨d, 0, none⟩)) := Blk.cell h 0
  have rc1 : World.cell? W ⟨g, 1, none⟩ = some (.int .i64 2) := Blk.cell h 1
  have rc2 : World.cell? W ⟨g, 2, none⟩ = some (.int .i64 192) := Blk.cell h 2
  have rc3 : World.cell? W ⟨g, 3, none⟩ = some (.int .u64 T) := Blk.cell h 3
  have rc4 : World.cell? W ⟨g, 4, none⟩ = some rv := Blk.cell h 4
  clear h
  go_enter Try.func33, Try.ntmps33
  go_wp2_with fail
  go_ret
  exact ⟨rfl, rfl⟩
theorem sector_any (h : Ring W g d T rv) (a : Nat) (ha : a < 24576) : Calls Try.prog 27 #[.pointer (some ⟨g, 0, none⟩), .int .u64 a] W fun e W' => e = .returned (.int .i64 ((2 + a / 128 : Nat) : Int)) ∧ Ext W W' := by
  have rc0 : World.cell? W ⟨g, 0, none⟩ = some (.pointer (some ⟨d, 0, none⟩)) := Blk.cell h 0
  have rc1 : World.cell? W ⟨g, 1, none⟩ = some (.int .i64 2) := Blk.cell h 1
  have rc2 : World.cell? W ⟨g, 2, none⟩ = some (.int .i64 192) := Blk.cell h 2
  have rc3 : World.cell? W ⟨g, 3, none⟩ = some (.int .u64 T) := Blk.cell h 3
  have rc4 : World.cell? W ⟨g, 4, none⟩ = some rv := Blk.cell h 4
  clear h
  have h1 : ((a : Int).tdiv 128) = ((a / 128 : Nat) : Int) := by rw [Int.tdiv_eq_ediv_of_nonneg (by omega)]; omega
  have h2 : (((a / 128 : Nat) : Int).tmod 192) = ((a / 128 : Nat) : Int) := by rw [Int.tmod_eq_emod_of_nonneg (by omega)]; omega
  have h3 : a / 128 < 192 := by omega
  go_enter Try.func27, Try.ntmps27
  go_wp2_with fail
  refine region_drew_tail 13 (by kernel_rfl) (by kernel_rfl) ?_
  simp only [List.take_succ_cons, List.take_zero, List.drop_succ_cons, List.drop_zero]
  repeat (go_big_quiet_step (fail))
  refine wpQuiet_nil ?_
  intro _ hw'
  obtain ⟨nq, hw''⟩ := hw'
  subst hw''
  go_wp2_with fail
  go_ret
  exact ⟨by go_num, (Ext.refl W).drewN _⟩
theorem left_any (h : Ring W g d T rv) (hT : T ≤ 24576) : Calls Try.prog 18 #[.pointer (some ⟨g, 0, none⟩), .int .u64 0] W fun e W' => e = .returned (.int .i64 (24576 - T)) ∧ W = W' := by
  have hh := h
  have rc0 : World.cell? W ⟨g, 0, none⟩ = some (.pointer (some ⟨d, 0, none⟩)) := Blk.cell h 0
  have rc1 : World.cell? W ⟨g, 1, none⟩ = some (.int .i64 2) := Blk.cell h 1
  have rc2 : World.cell? W ⟨g, 2, none⟩ = some (.int .i64 192) := Blk.cell h 2
  have rc3 : World.cell? W ⟨g, 3, none⟩ = some (.int .u64 T) := Blk.cell h 3
  have rc4 : World.cell? W ⟨g, 4, none⟩ = some rv := Blk.cell h 4
  clear h
  go_enter Try.func18, Try.ntmps18
  go_wp2_with fail
  refine (size_any hh).mono ?_
  rintro e W' ⟨rfl, rfl⟩
  by_cases ht : (T : Int) < 24576
  · go_wp2_with fail
    refine (size_any hh).mono ?_
    rintro e W' ⟨rfl, rfl⟩
    go_wp2_with fail
    go_ret
    exact ⟨by go_num, rfl⟩
  · have hd : decide ((T : Int) < 24576) = false := decide_eq_false ht
    have e0 : (24576 : Int) - T = 0 := by omega
    clear ht
    go_wp2_with fail
    rw [e0]
    go_ret
    exact ⟨rfl, rfl⟩
end
theorem room_any (W : World) (a : Nat) (ha : a < 18446744073709551616) : Calls Try.prog 28 #[.int .u64 a] W fun e W' => e = .returned (.int .i64 ((2048 - a % 2048 : Nat) : Int)) ∧ W = W' := by
  have h2 : ((a : Int).tmod 2048) = ((a % 2048 : Nat) : Int) := by rw [Int.tmod_eq_emod_of_nonneg (by omega)]; omega
  have h3 : a % 2048 < 2048 := by omega
  go_enter Try.func28, Try.ntmps28
  go_wp2_with fail
  go_ret
  exact ⟨by go_num, rfl⟩
theorem segments_any {w W : World} {d : Nat} {s : DS} {ps : List Asr} (h : dkH w W d s ps) (hn : s.n = 194) : Calls Try.prog 14 #[.pointer (some ⟨d, 0, none⟩)] W fun e W' => e = .returned (.int .i64 12) ∧ W = W' := by
  go_enter Try.func14, Try.ntmps14
  go_wp2_with fail
  refine (sectors_any h).mono ?_
  rintro e W' ⟨rfl, rfl⟩
  rw [hn]
  go_wp2_with fail
  go_ret
  exact ⟨rfl, rfl⟩
end Go.Proofs.Ythghflfgldcmbaa
