/- QueueFull, walked. -/
import Derived.Test.YtkpdhciomfanoaaHeld
namespace Go.Proofs.Ytkpdhciomfanoaa
set_option linter.unusedVariables false
set_option linter.unusedSimpArgs false
open Go Go.RowKit Go.Maps Go.ChangeMaps Go.MapKept
def upTo (c : Int) (n : Nat) : List It := (List.range n).map fun (j : Nat) => ⟨c + j, 0, 0, 0⟩
theorem upTo_succ (c : Int) (n : Nat) : upTo c (n + 1) = upTo c n ++ [⟨c + n, 0, 0, 0⟩] := by simp [upTo, List.range_succ]
theorem upTo_length (c : Int) (n : Nat) : (upTo c n).length = n := by simp [upTo]
theorem upTo_none (c r : Int) (n : Nat) (h : r < c ∨ c + n ≤ r) : (upTo c n).any (isK · r 0 0) = false := by
  rw [List.any_eq_false]
  intro x hx
  simp only [upTo, List.mem_map, List.mem_range] at hx
  obtain ⟨j, hj, rfl⟩ := hx
  simp [isK]; omega
theorem both_length (t i : Nat) : ((upTo 0 128).drop t ++ upTo 1000 i).length = 128 - t + i := by simp [upTo_length]
theorem both_none (t i : Nat) (r : Int) (h : r < 0 ∨ 128 ≤ r) (h2 : r < 1000 ∨ 1000 + (i : Int) ≤ r) : ((upTo 0 128).drop t ++ upTo 1000 i).any (isK · r 0 0) = false := by
  rw [List.any_append, upTo_none _ _ _ h2, Bool.or_false, List.any_eq_false]
  intro x hx
  have := upTo_none 0 r 128 (by omega)
  rw [List.any_eq_false] at this
  exact this x (List.mem_of_mem_drop hx)
def Rel1 (w : World) (q : Nat) (k : Value) (wr : World) : Prop := ∃ i : Nat, i ≤ 128 ∧ k = .int .i64 i ∧ Held w wr q (upTo 0 i)
def Rel2 (w : World) (q : Nat) (t : Int) (k : Value) (wr : World) : Prop := ∃ i : Nat, (i : Int) ≤ t ∧ k = .int .i64 i ∧ Held w wr q ((upTo 0 128).drop i)
def Rel3 (w : World) (q : Nat) (t : Nat) (k : Value) (wr : World) : Prop := ∃ i : Nat, i ≤ t ∧ k = .int .i64 i ∧ Held w wr q ((upTo 0 128).drop t ++ upTo 1000 i)
set_option maxRecDepth 100000 in
set_option maxHeartbeats 2000000 in
theorem full_any (w : World) (t : Int) (h1 : -9223372036854775808 ≤ t) (h2 : t ≤ 9223372036854775807) : Calls Try.prog 3 #[.int .i64 t] w fun e w' => e = .returned (.bool true) ∧ Ext w w' := by
  go_enter Try.func3, Try.ntmps3
  go_wp2_with fail
  refine (waits_any w).mono ?_
  rintro e w1 ⟨rfl, hE⟩
  rcases (show t < 0 ∨ 128 < t ∨ (0 ≤ t ∧ t ≤ 128) by omega) with g | g | ⟨g1, g2⟩
  · go_wp2_with fail
    go_ret
    exact ⟨rfl, hE⟩
  · have g' : 0 ≤ t := by omega
    go_wp2_with fail
    go_ret
    exact ⟨rfl, hE⟩
  have hH : Held w (w1.alloc (.cells #[.pointer none, .pointer none, .map none] 28)) w1.heap.size [] := held_new (hE.alloc _) hE.le (Blk.new _ _ _) (by decide)
  go_wp2_with fail
  generalize w1.heap.size = q at *
  generalize w1.alloc _ = W at *
  go_loopw [14] (fun k wr => Rel1 w q k wr) (fun k _ => (130 - intOf k).toNat)
  case atStart => exact ⟨0, by omega, rfl, hH⟩
  case round =>
    clear hH
    obtain ⟨i, hi, rfl, hH⟩ := hrel
    by_cases gi : (i : Int) < 128
    · go_wp2_with fail
      have hok : Ent.Ok ⟨(i : Int), 0, 0, 0, 0⟩ := okEnt _ _ _ _ (by omega) (by omega) (by omega) (by omega)
      have hno := upTo_none 0 (i : Int) i (Or.inr (by omega))
      refine (held_add hH (i : Int) 0 0 0 hok hno (by rw [upTo_length]; omega)).mono ?_
      rintro e w2 ⟨rfl, hH2⟩
      clear hH hok hno
      go_wp2_with fail
      have hs := upTo_succ 0 i
      rw [Int.zero_add] at hs
      exact ⟨⟨i + 1, by omega, by go_num, by rw [hs]; exact hH2⟩, by simp [intOf]; omega⟩
    · have hi2 : i = 128 := by omega
      subst hi2
      clear gi hi
      go_wp2_with fail
      refine (held_full hH (-1) 0 0 0 (okEnt _ _ _ _ (by omega) (by omega) (by omega) (by omega)) (upTo_none _ _ _ (Or.inl (by omega))) (by rw [upTo_length]; omega)).mono ?_
      rintro e w2 ⟨rfl, hH2⟩
      clear hH
      go_wp2_with fail
      go_loopw [26] (fun k wr => Rel2 w q t k wr) (fun k _ => (t + 1 - intOf k).toNat)
      case atStart => exact ⟨0, by omega, rfl, by simpa using hH2⟩
      case round =>
        clear hH2
        obtain ⟨i, hi, rfl, hH⟩ := hrel
        by_cases gi : (i : Int) < t
        · go_wp2_with fail
          obtain ⟨x, xs, hx⟩ : ∃ x xs, (upTo 0 128).drop i = x :: xs := by
            cases hd : (upTo 0 128).drop i with
            | nil => have := congrArg List.length hd; simp [upTo_length] at this; omega
            | cons x xs => exact ⟨x, xs, rfl⟩
          rw [hx] at hH
          refine (held_take hH).mono ?_
          rintro e w2 ⟨rfl, hH2⟩
          clear hH
          go_wp2_with fail
          have hs : (upTo 0 128).drop (i + 1) = xs := by rw [← List.drop_drop, hx]; rfl
          exact ⟨⟨i + 1, by omega, by go_num, by rw [hs]; exact hH2⟩, by simp [intOf]; omega⟩
        · have hi2 : t = i := by omega
          subst hi2
          clear gi hi
          go_wp2_with fail
          go_loopw [31] (fun k wr => Rel3 w q i k wr) (fun k _ => (i + 1 - intOf k).toNat)
          case atStart => exact ⟨0, by omega, rfl, by simpa [upTo] using hH⟩
          case round =>
            clear hH
            obtain ⟨j, hj, rfl, hH⟩ := hrel
            by_cases gj : (j : Int) < i
            · have gb1 : (-9223372036854775808 : Int) ≤ 1000 + (j : Int) := by omega
              have gb2 : 1000 + (j : Int) ≤ 9223372036854775807 := by omega
              go_wp2_with fail
              have hno := both_none i j (1000 + (j : Int)) (Or.inr (by omega)) (Or.inr (by omega))
              refine (held_add hH (1000 + (j : Int)) 0 0 0 (okEnt _ _ _ _ (by omega) (by omega) (by omega) (by omega)) hno (by rw [both_length]; omega)).mono ?_
              rintro e w2 ⟨rfl, hH2⟩
              clear hH hno
              go_wp2_with fail
              exact ⟨⟨j + 1, by omega, by go_num, by rw [upTo_succ 1000 j, ← List.append_assoc]; exact hH2⟩, by simp [intOf]; omega⟩
            · have hj2 : j = i := by omega
              subst hj2
              clear gj hj
              go_wp2_with fail
              have hlen := both_length j j
              have hlen2 : ((upTo 0 128).drop j ++ upTo 1000 j).length = 128 := by rw [hlen]; omega
              refine (held_len hH).mono ?_
              rintro e w3 ⟨rfl, hH3⟩
              rw [hlen2]
              clear hH
              go_wp2_with fail
              refine (held_full hH3 (-1) 0 0 0 (okEnt _ _ _ _ (by omega) (by omega) (by omega) (by omega)) (both_none _ _ _ (Or.inl (by omega)) (Or.inl (by omega))) (by rw [hlen2]; omega)).mono ?_
              rintro e w4 ⟨rfl, hH4⟩
              have hE4 := hH4.ext
              clear hH3 hH4
              go_wp2_with fail
              go_ret
              exact ⟨rfl, hE4⟩
end Go.Proofs.Ytkpdhciomfanoaa
