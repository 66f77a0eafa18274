/- cron: cuts and splits of texts. -/
import Derived.Test.YtnbdcdeidhhgoaaDoorCText2
import Derived.Test.YtnbdcdeidhhgoaaDoorShelf
import Derived.Lib.PathFns
namespace Go.Proofs.YtnbdcdeidhhgoaaDoor
set_option maxRecDepth 4000
set_option linter.unusedVariables false
set_option linter.unusedSimpArgs false
open Go Go.RowKit
/-- a text up to the first sign c, what is behind it, whether it is there -/
def cutAt (c : UInt8) : List UInt8 → List UInt8 × List UInt8 × Bool
  | [] => ([], [], false)
  | a :: l => if a == c then ([], l, true) else (a :: (cutAt c l).1, (cutAt c l).2.1, (cutAt c l).2.2)
/-- a text at each sign c -/
def splitL (c : UInt8) : List UInt8 → List (List UInt8)
  | [] => [[]]
  | a :: l => if a == c then [] :: splitL c l else match splitL c l with
    | [] => [[a]]
    | x :: r => (a :: x) :: r
theorem splitL_ne (c : UInt8) : ∀ l, splitL c l ≠ []
  | [] => by simp [splitL]
  | a :: l => by
    rw [splitL]
    split
    · simp
    · split <;> simp
theorem splitL_none {c : UInt8} : ∀ {l : List UInt8}, c ∉ l → splitL c l = [l]
  | [], _ => rfl
  | a :: l, h => by
    rw [splitL, if_neg (by simp at h ⊢; exact fun e => h.1 e.symm), splitL_none (fun hm => h (List.mem_cons_of_mem _ hm))]
theorem splitL_at {c : UInt8} {r : List UInt8} : ∀ {p : List UInt8}, c ∉ p → splitL c (p ++ c :: r) = p :: splitL c r
  | [], _ => by simp [splitL]
  | a :: p, h => by
    rw [List.cons_append, splitL, if_neg (by simp at h ⊢; exact fun e => h.1 e.symm), splitL_at (fun hm => h (List.mem_cons_of_mem _ hm))]
theorem cutAt_none {c : UInt8} : ∀ {l : List UInt8}, c ∉ l → cutAt c l = (l, [], false)
  | [], _ => rfl
  | a :: l, h => by
    rw [cutAt, if_neg (by simp at h ⊢; exact fun e => h.1 e.symm), cutAt_none (fun hm => h (List.mem_cons_of_mem _ hm))]
theorem cutAt_at {c : UInt8} {r : List UInt8} : ∀ {p : List UInt8}, c ∉ p → cutAt c (p ++ c :: r) = (p, r, true)
  | [], _ => by simp [cutAt]
  | a :: p, h => by
    rw [List.cons_append, cutAt, if_neg (by simp at h ⊢; exact fun e => h.1 e.symm), cutAt_at (fun hm => h (List.mem_cons_of_mem _ hm))]
theorem index_at {c : UInt8} {r : List UInt8} : ∀ {p : List UInt8}, c ∉ p → Lib.index (p ++ c :: r) [c] = p.length
  | [], _ => by rw [List.nil_append, Lib.index]; simp [List.isPrefixOf]
  | a :: p, h => by
    have hne : (c == a) = false := by simp at h ⊢; exact h.1
    have ih := index_at (r := r) (fun hm => h (List.mem_cons_of_mem _ hm))
    rw [List.cons_append, Lib.index, ih]
    have : ([c] : List UInt8).isPrefixOf (a :: (p ++ c :: r)) = false := by simp [List.isPrefixOf]; simpa using hne
    rw [this, if_neg (by decide), if_neg (by simp; try omega)]
    simp only [List.length_cons]; omega
theorem index_none {c : UInt8} : ∀ {l : List UInt8}, c ∉ l → Lib.index l [c] = -1
  | [], _ => rfl
  | a :: l, h => by
    have hne : (c == a) = false := by simp at h ⊢; exact h.1
    rw [Lib.index, index_none (fun hm => h (List.mem_cons_of_mem _ hm))]
    have : ([c] : List UInt8).isPrefixOf (a :: l) = false := by simp [List.isPrefixOf]; simpa using hne
    rw [this]; simp
theorem parted {c : UInt8} : ∀ {l : List UInt8}, c ∈ l → ∃ p r, l = p ++ c :: r ∧ c ∉ p
  | a :: l, h => by
    by_cases e : a = c
    · subst e; exact ⟨[], l, rfl, by simp⟩
    · obtain ⟨p, r, rfl, hp⟩ := parted (l := l) (by simp at h; rcases h with h | h; exact absurd h.symm e; exact h)
      exact ⟨a :: p, r, rfl, by simp; exact ⟨fun h => e h.symm, hp⟩⟩
theorem cut_eq (c : UInt8) (l : List UInt8) : Lib.cut l [c] = cutAt c l := by
  unfold Lib.cut
  by_cases h : c ∈ l
  · obtain ⟨p, r, rfl, hp⟩ := parted h
    rw [index_at hp, cutAt_at hp, if_pos (by omega)]
    simp
  · rw [index_none h, cutAt_none h]; simp
theorem extract_take (s : ByteArray) (k : Nat) : s.extract 0 k = strOf ((tl s).take k) := by
  rw [← strOf_tl (s.extract 0 k)]
  congr 1
  simp [tl, ByteArray.data_extract]
theorem extract_drop (s : ByteArray) (k : Nat) : s.extract k s.size = strOf ((tl s).drop k) := by
  rw [Go.Lib.Pa.extract_from]
  rfl
theorem tl_sep (c : UInt8) : tl ⟨#[c]⟩ = [c] := rfl
theorem split_eq (c : UInt8) : ∀ (k : Nat) (s : ByteArray), Lib.countB s ⟨#[c]⟩ = k → Lib.splitB ⟨#[c]⟩ 0 k s = (splitL c (tl s)).map strOf
  | 0, s, hk => by
    rw [Lib.splitB_zero]
    have h : c ∉ tl s := fun h => by
      obtain ⟨p, r, hpr, hp⟩ := parted h
      have hix : Lib.indexB s ⟨#[c]⟩ = p.length := by show Lib.index (tl s) [c] = _; rw [hpr, index_at hp]
      rw [Lib.countB_hit s ⟨#[c]⟩ p.length (by show 1 ≤ 1; omega) hix] at hk
      omega
    rw [splitL_none h]
    simp [strOf_tl]
  | k + 1, s, hk => by
    have h : c ∈ tl s := by
      by_cases h : c ∈ tl s
      · exact h
      · rw [Lib.countB_miss s ⟨#[c]⟩ (show Lib.index (tl s) [c] = -1 from index_none h)] at hk; omega
    obtain ⟨p, r, hpr, hp⟩ := parted h
    have hix : Lib.indexB s ⟨#[c]⟩ = p.length := by show Lib.index (tl s) [c] = _; rw [hpr, index_at hp]
    have hs1 : (ByteArray.mk #[c]).size = 1 := rfl
    rw [Lib.countB_hit s ⟨#[c]⟩ p.length (by rw [hs1]; omega) hix] at hk
    rw [Lib.splitB_hit ⟨#[c]⟩ 0 k s p.length hix, split_eq c k _ (by omega), hs1, hpr, splitL_at hp, Nat.add_zero, extract_take, extract_drop, tl_strOf, hpr]
    simp
theorem count_eq (c : UInt8) (s : ByteArray) : Lib.countB s ⟨#[c]⟩ + 1 = (splitL c (tl s)).length := by
  have h := Lib.splitB_all ⟨#[c]⟩ (by show 1 ≤ 1; omega) 0 _ s rfl
  rw [split_eq c _ s rfl, List.length_map] at h
  exact h.symm
def MX (w : World) : Prop := ∃ m, w.cell? ⟨0, 0, none⟩ = some (.int .i64 m)
theorem MX.ext {w w' : World} (h : MX w) (hE : Ext w w') : MX w' := by
  obtain ⟨m, hm⟩ := h
  exact ⟨m, (hE.cell 0 0 (World.block_lt_of_cell? w _ hm)).trans hm⟩
def strV (l : List UInt8) : Value := .string (strOf l)
theorem cut_any (w : World) (s : ByteArray) (c : UInt8) (hs : s.size ≤ 100000) (hm : MX w) :
    Calls Tryd.prog 53 #[.string s, .string ⟨#[c]⟩] w fun e w' => e = .returned (.tuple #[strV (cutAt c (tl s)).1, strV (cutAt c (tl s)).2.1, .bool (cutAt c (tl s)).2.2]) ∧ Ext w w' := by
  obtain ⟨m, hm⟩ := hm
  refine (Go.Proofs.Tryd.strings_Cut s ⟨#[c]⟩ m w (by omega) hm).mono ?_
  rintro e w' ⟨rfl, n, rfl⟩
  have h := cut_eq c (tl s)
  refine ⟨?_, (Ext.refl w).drewN n⟩
  show Ending.returned (.tuple #[.string ⟨(Lib.cut (tl s) [c]).1.toArray⟩, .string ⟨(Lib.cut (tl s) [c]).2.1.toArray⟩, .bool (Lib.cut (tl s) [c]).2.2]) = _
  rw [h]; rfl
def Parted (w : World) (ps : List (List UInt8)) (e : Ending) (w' : World) : Prop :=
  ∃ v, e = .returned v ∧ w'.ownsRow w.heap.size 9 1 v ps.length (ps.map strV) ∧ Ext w w'
theorem split_any (w : World) (s : ByteArray) (c : UInt8) (hs : s.size ≤ 100000) (hm : MX w) :
    Calls Tryd.prog 19 #[.string s, .string ⟨#[c]⟩] w fun e w' => Parted w (splitL c (tl s)) e w' := by
  obtain ⟨m, hm⟩ := hm
  refine (Go.Proofs.Tryd.strings_Split s ⟨#[c]⟩ m w (by omega) hm (by show 1 ≤ 1; omega)).mono ?_
  rintro e w' ⟨rfl, rfl⟩
  have h := count_eq c s
  have h2 := split_eq c _ s rfl
  have hle : Lib.countB s ⟨#[c]⟩ ≤ s.size := Lib.countB_le ⟨#[c]⟩ (by show 1 ≤ 1; omega) s.size s (Nat.le_refl _)
  rw [h, h2]
  refine ⟨_, rfl, ?_, ext_alloc _ _⟩
  have e1 : ((splitL c (tl s)).map strOf).map Value.string = (splitL c (tl s)).map strV := by rw [List.map_map]; rfl
  rw [e1]
  refine ⟨by simp, Or.inr ⟨w.heap.size, (splitL c (tl s)).length, ((splitL c (tl s)).map strV).toArray, rfl, Nat.le_refl _, heap_alloc_new w _, Nat.le_refl _, ?_, by simp, by rw [List.toList_toArray, List.take_of_length_le (by simp)]⟩⟩
  unfold maxLen; omega
end Go.Proofs.YtnbdcdeidhhgoaaDoor
