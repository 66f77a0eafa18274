/- The walks of a writer's Int and Text. -/
import Derived.Test.YtcnbnhncncgkaaaWOps
import Derived.WalkKit
namespace Go.Proofs.Ytcnbnhncncgkaaa
set_option linter.unusedVariables false
set_option linter.unusedSimpArgs false
open Go Go.RowKit
theorem numsAt_lit (k : IntKind) (w : World) (x : Int) (t : TypeId) : NumsAt k (w.alloc (.cells #[.int k x] t)) (some ⟨w.heap.size, 0, none⟩) [x] := by
  intro i hi
  have hi0 : i = 0 := by simpa using hi
  subst hi0
  refine ⟨_, rfl, by simp, ?_⟩
  rw [Go.WideShapes.add_plain]
  have h : (w.alloc (.cells #[.int k x] t)).heap[w.heap.size]? = some (.cells #[.int k x] t (0, 0)) := heap_alloc_new w _
  rw [cell_of_row _ _ 0 _ t (0, 0) h]
  rfl
/-- Num with one number in a new slice -/
theorem wnum_lit {W : World} {q : Nat} {l : List UInt8} {F : Nat → Prop} (h : wA q l W F) (n : Nat) (t : TypeId) (hn : n < 18446744073709551616) (hlen : l.length + 10 ≤ 70368744177664) :
    Calls Try.prog 17 #[.pointer (some ⟨q, 0, none⟩), .slice (some ⟨W.heap.size, 0, none⟩) 1 1] (W.alloc (.cells #[.int .u64 n] t)) fun e W' => e = .returned (.tuple #[]) ∧ Next F W W' (wA q (l ++ numB n)) := by
  have hl := wA_loc q l
  have h2 := hl.ext h (ext_alloc W (.cells #[.int .u64 n] t))
  refine (wnum_any h2 (some ⟨W.heap.size, 0, none⟩) 1 [n] (numsAt_lit .u64 W n t) (fun a ha hf => ?_) (by simpa using hn) (by simpa using hlen)).mono ?_
  · injection ha with ha
    subst ha
    exact Nat.lt_irrefl _ (hl.lt h hf)
  · rintro e W' ⟨rfl, hN⟩
    exact ⟨rfl, by simpa using Next.ext_left (ext_alloc _ _) hN⟩
def IntRel (F : Nat → Prop) (W : World) (q : Nat) (l : List UInt8) (ns : List Int) (k : Value) (wr : World) : Prop :=
  ∃ i : Nat, i ≤ ns.length ∧ k = .int .i64 i ∧ Next F W wr (wA q (l ++ (ns.take i).flatMap fun n => numB (zigN n)))
theorem ints_len : ∀ (ns : List Int) (_ : ∀ n ∈ ns, -9223372036854775808 ≤ n ∧ n ≤ 9223372036854775807), (ns.flatMap fun n => numB (zigN n)).length ≤ 10 * ns.length
  | [], _ => by simp
  | n :: ns, h => by
    have h0 := h n (by simp)
    have h1 := numB_len (zigN_lt h0.1 h0.2)
    have h2 := ints_len ns (fun m hm => h m (by simp [hm]))
    simp only [List.flatMap_cons, List.length_append, List.length_cons]; omega
set_option maxRecDepth 100000 in
set_option maxHeartbeats 1000000 in
theorem wint_any {W : World} {q : Nat} {l : List UInt8} {F : Nat → Prop} (h : wA q l W F) (p : Option Addr) (c : Nat) (ns : List Int) (hN : NumsAt .i64 W p ns) (hF : ∀ a, p = some a → ¬ F a.block)
    (hb : ∀ n ∈ ns, -9223372036854775808 ≤ n ∧ n ≤ 9223372036854775807) (hlen : l.length + 10 * ns.length ≤ 70368744177664) :
    Calls Try.prog 6 #[.pointer (some ⟨q, 0, none⟩), .slice p ns.length c] W fun e W' => e = .returned (.tuple #[]) ∧ Next F W W' (wA q (l ++ ns.flatMap fun n => numB (zigN n))) := by
  have hS : Next F W W (wA q (l ++ (ns.take 0).flatMap fun n => numB (zigN n))) := ⟨F, by simpa using h, Tch.refl _ _, fun _ h => Or.inl h⟩
  go_enter Try.func6, Try.ntmps6
  go_wp2_with fail
  go_loopw [8] (fun k wr => IntRel F W q l ns k wr) (fun k _ => ((ns.length : Int) + 1 - intOf k).toNat)
  case atStart => exact ⟨0, by omega, rfl, hS⟩
  case round =>
    clear hS
    obtain ⟨i, hi, rfl, hS⟩ := hrel
    by_cases gi : (i : Int) < ns.length
    · obtain ⟨a, rfl, hal, hac⟩ := hN i (by omega)
      have hcell : wr.cell? (a.add i) = some (.int .i64 (ns.getD i 0)) := by
        have hab : (a.add i).block = a.block := by unfold Addr.add; first | rfl | (split <;> rfl)
        rw [World.cell?_of_block (w := W) (a := a.add i) (hS.tch.block _ (by rw [hab]; exact hal) (by rw [hab]; exact hF a rfl)), hac]
      have hx := hb (ns.getD i 0) (getD_mem ns 0 i (by omega))
      have HT : Hid ((ns.take (i + 1)).flatMap (fun n => numB (zigN n)) = (ns.take i).flatMap (fun n => numB (zigN n)) ++ numB (zigN (ns.getD i 0))) := by
        unfold Hid; rw [take_snoc ns 0 i (by omega), List.flatMap_append]; simp
      have hl2 : (l ++ (ns.take i).flatMap fun n => numB (zigN n)).length ≤ l.length + 10 * i := by
        have := ints_len (ns.take i) (fun n hn => hb n (List.mem_of_mem_take hn))
        simp at this ⊢; omega
      generalize ns.getD i 0 = x at *
      generalize hd : l ++ (ns.take i).flatMap (fun n => numB (zigN n)) = d at *
      have HD := Lib.hid hd
      clear hd
      obtain ⟨F', h1, ht, hf⟩ := hS
      have hz := zigN_lt hx.1 hx.2
      go_wp2_with fail
      refine (zig_any x _ hx.1 hx.2).mono ?_
      rintro e w2 ⟨rfl, rfl⟩
      go_wp2_with fail
      refine (wnum_lit h1 (zigN x) _ hz (by omega)).mono ?_
      rintro e w3 ⟨rfl, hS3⟩
      have hS4 := Next.trans ht hf hS3
      clear hS3 h1 ht hf hcell
      go_wp2_with fail
      exact ⟨⟨i + 1, by omega, by go_num, by rw [HT.out, ← List.append_assoc, HD.out]; exact hS4⟩, by simp [intOf]; omega⟩
    · have hi2 : i = ns.length := by omega
      subst hi2
      rw [List.take_length] at hS
      go_wp2_with fail
      go_end0
      exact ⟨rfl, hS⟩
theorem strCells_u8s (s : ByteArray) : Go.Lib.strCells s = u8s s.data.toList := by simp [Go.Lib.strCells, u8s]
theorem wtext_any {W : World} {q : Nat} {l : List UInt8} {F : Nat → Prop} (h : wA q l W F) (s : ByteArray) (hs : s.size ≤ 70368744177664) (hlen : l.length + 10 ≤ 70368744177664) :
    Calls Try.prog 7 #[.pointer (some ⟨q, 0, none⟩), .string s] W fun e W' => e = .returned (.tuple #[]) ∧ Next F W W' (wA q (l ++ (numB s.size ++ s.data.toList))) := by
  obtain ⟨i0, hi0, hz0, hz1, hz2⟩ := info_parts u8Info
  have hnl := numB_len (n := s.size) (by omega)
  go_enter Try.func7, Try.ntmps7
  go_wp2_with fail
  refine (wnum_lit h s.size _ (by omega) hlen).mono ?_
  rintro e w2 ⟨rfl, F', h1, ht, hf⟩
  obtain ⟨v, hS⟩ := WSt.of h1
  have c0 := hS.rep.blk.cell 0
  have hown := hS.rep.own
  simp only [List.getElem?_toArray, List.getElem?_cons_zero, List.getElem?_cons_succ] at c0
  have hll : (l ++ numB s.size).length ≤ l.length + 10 := by simp; omega
  have hb1 : (l ++ numB s.size).length + s.size ≤ maxLen := by unfold maxLen; omega
  have hb2 : (l ++ numB s.size).length + s.size ≤ 140737488355328 := by omega
  generalize hd : l ++ numB s.size = d at *
  have HD := Lib.hid hd
  clear hd
  go_wp2_with (at_builtin; refine wpList_append_str_new rfl _ _ 27 9 rfl 5 i0 Try.underlying27 Try.underlying9 hi0 hz0 hz1 hz2 _ _ _ rfl hown s rfl hb1 hb2 ?_)
  intro v' w3 hown3 hg3 hf3
  obtain ⟨pv, cv, rfl⟩ := ownsRow_slice hown3
  have hb3 := hS.blk1 hg3
  have c03 := hb3.cell 0
  have f03 := hb3.frozen 0
  simp only [List.getElem?_toArray, List.getElem?_cons_zero, List.getElem?_cons_succ] at c03
  rw [strCells_u8s, ← u8s_append] at hown3
  have hS3 := hS.put hown3 (by simp) hg3 hf3
  clear hS hown hown3 hg3 hf3 hb3 c0 h1
  go_wp2_with fail
  go_end0
  refine ⟨rfl, ?_⟩
  rw [← List.append_assoc, HD.out]
  exact Next.trans ht hf hS3.next
end Go.Proofs.Ytcnbnhncncgkaaa
