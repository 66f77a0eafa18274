/- The walk of a writer's Num. -/
import Derived.Test.YtcnbnhncncgkaaaWRep
import Derived.Test.YtcnbnhncncgkaaaBits
import Derived.LoopTactic
import Derived.OwnWalk
import Derived.Lib.Hide
import Derived.Outline
namespace Go.Proofs.Ytcnbnhncncgkaaa
set_option linter.unusedVariables false
set_option linter.unusedSimpArgs false
open Go Go.RowKit
def NumRel1 (F : Nat → Prop) (W : World) (q : Nat) (l : List UInt8) (ns : List Nat) (k : Value) (wr : World) : Prop :=
  ∃ (i : Nat) (v : Value), i ≤ ns.length ∧ k = .int .i64 i ∧ WSt F W wr q v (l ++ (ns.take i).flatMap numB)
def NumRel2 (F : Nat → Prop) (W : World) (q : Nat) (l : List UInt8) (x : Nat) (m : Value) (wr : World) : Prop :=
  ∃ (n : Nat) (l' : List UInt8) (v : Value), n < 18446744073709551616 ∧ m = .int .u64 n ∧ l ++ numB x = l' ++ numB n ∧ WSt F W wr q v l'
set_option maxRecDepth 100000 in
set_option maxHeartbeats 1000000 in
theorem wnum_any {W : World} {q : Nat} {l : List UInt8} {F : Nat → Prop} (h : wA q l W F) (p : Option Addr) (c : Nat) (ns : List Nat) (hN : NumsAt .u64 W p (ns.map Int.ofNat)) (hF : ∀ a, p = some a → ¬ F a.block)
    (hb : ∀ n ∈ ns, n < 18446744073709551616) (hlen : l.length + 10 * ns.length ≤ 70368744177664) :
    Calls Try.prog 17 #[.pointer (some ⟨q, 0, none⟩), .slice p ns.length c] W fun e W' => e = .returned (.tuple #[]) ∧ Next F W W' (wA q (l ++ ns.flatMap numB)) := by
  obtain ⟨i0, hi0, hz0, hz1, hz2⟩ := info_parts u8Info
  obtain ⟨v0, hS⟩ := WSt.of h
  go_enter Try.func17, Try.ntmps17
  go_wp2_with fail
  go_loopw [8] (fun k wr => NumRel1 F W q l ns k wr) (fun k _ => ((ns.length : Int) + 1 - intOf k).toNat)
  case atStart => exact ⟨0, v0, by omega, rfl, by simpa using hS⟩
  case round =>
    clear hS
    obtain ⟨i, v, hi, rfl, hS⟩ := hrel
    by_cases gi : (i : Int) < ns.length
    · obtain ⟨a, rfl, hal, hac⟩ := hN i (by simpa using gi)
      have hcell : wr.cell? (a.add i) = some (.int .u64 ((ns.getD i 0 : Nat) : Int)) := by
        have hab : (a.add i).block = a.block := by unfold Addr.add; first | rfl | (split <;> rfl)
        rw [World.cell?_of_block (w := W) (a := a.add i) (hS.tch.block _ (by rw [hab]; exact hal) (by rw [hab]; exact hF a rfl)), hac]
        congr 2
        rw [List.getD_eq_getElem?_getD, List.getD_eq_getElem?_getD, List.getElem?_map, List.getElem?_eq_getElem (by omega)]; rfl
      have hx := hb (ns.getD i 0) (by rw [List.getD_eq_getElem?_getD, List.getElem?_eq_getElem (by omega)]; simp)
      have htk : (ns.take (i + 1)).flatMap numB = (ns.take i).flatMap numB ++ numB (ns.getD i 0) := by
        rw [take_snoc ns 0 i (by omega), List.flatMap_append]; simp
      have hl1 := numsB_len (ns.take i) (fun n hn => hb n (List.mem_of_mem_take hn))
      have hl2 : (l ++ (ns.take i).flatMap numB).length ≤ l.length + 10 * i := by simp at hl1 ⊢; omega
      have HT := Lib.hid htk
      clear htk hl1
      generalize ns.getD i 0 = x at *
      generalize (ns.take i).flatMap numB = d at *
      go_wp2_with fail
      obtain ⟨wo, rfl⟩ : ∃ wo : World, wo = wr := ⟨_, rfl⟩
      go_loopw [5] (fun m wr => NumRel2 F W q (l ++ d) x m wr) (fun m _ => (intOf m).toNat)
      case atStart => exact ⟨x, l ++ d, v, hx, rfl, rfl, hS⟩
      case round =>
        clear hS v hcell
        obtain ⟨n, l', v, hn, rfl, hnb, hS⟩ := hrel
        have c0 := hS.rep.blk.cell 0
        have hql := hS.rep.blk.lt
        simp only [List.getElem?_toArray, List.getElem?_cons_zero, List.getElem?_cons_succ] at c0
        have hown := hS.rep.own
        have hll : l'.length + 1 ≤ l.length + 10 * i + 10 := by
          have h1 := congrArg List.length hnb
          have h2 := numB_len hx
          have h3 : 1 ≤ (numB n).length := by rw [numB]; split <;> simp
          simp only [List.length_append] at h1 hl2
          omega
        have hb1 : l'.length + 1 ≤ maxLen := by unfold maxLen; omega
        have hb2 : (l'.length + 1) * 1 ≤ 140737488355328 := by omega
        have HNB := Lib.hid hnb
        clear hnb
        by_cases gn : n < 128
        · have gn' : (n : Int) < 128 := by omega
          go_wp2_with ((at_builtin; refine wpList_append_new rfl _ _ 27 rfl 5 i0 (.int .u8 0) 1 1 Try.underlying27 hi0 hz0 hz1 hz2 rfl (by decide) _ _ _ rfl (hown.alloc _) (some ⟨wr.heap.size, 0, none⟩) 1 1 _ rfl rfl (fun h => nomatch h) (news_new _ _ _) (oneC1 _ _) hb1 hb2 ?_))
          intro v' w3 hown3 hg3 hf3
          obtain ⟨pv, cv, rfl⟩ := ownsRow_slice hown3
          have hS2 := hS.ext (ext_alloc wr (.cells #[.int .u8 n] 5))
          have hb3 := hS2.rep.blk.of_eq (hg3.block _ hS2.rep.blk.lt (fun e => (row_ne hS2.rep.blk (by decide) hS2.rep.own) e.symm))
          have c03 := hb3.cell 0
          have f03 := hb3.frozen 0
          simp only [List.getElem?_toArray, List.getElem?_cons_zero, List.getElem?_cons_succ] at c03
          have hS3 := hS2.put (l' := l' ++ numB n) (n := l'.length + 1) (by rw [numB_small gn, u8s_append]; simpa [u8s, Nat.mod_eq_of_lt (show n < 256 by omega)] using hown3) (by rw [numB_small gn]; simp) hg3 hf3
          clear hS hS2 hown hown3 hg3 hf3 hb3 c0
          go_wp2_with fail
          exact ⟨⟨i + 1, _, by omega, by go_num, by rw [HT.out, ← List.append_assoc, HNB.out]; exact hS3⟩, by simp [intOf]; omega⟩
        · have gn' : ¬ ((n : Int) < 128) := by omega
          have hbt := u8_or_top n
          go_wp2_with ((at_builtin; refine wpList_append_new rfl _ _ 27 rfl 5 i0 (.int .u8 0) 1 1 Try.underlying27 hi0 hz0 hz1 hz2 rfl (by decide) _ _ _ rfl (hown.alloc _) (some ⟨wr.heap.size, 0, none⟩) 1 1 _ rfl rfl (fun h => nomatch h) (news_new _ _ _) (oneC1 _ _) hb1 hb2 ?_))
          intro v' w3 hown3 hg3 hf3
          obtain ⟨pv, cv, rfl⟩ := ownsRow_slice hown3
          have hS2 := hS.ext (ext_alloc wr (.cells #[.int .u8 (n % 128 + 128)] 5))
          have hb3 := hS2.rep.blk.of_eq (hg3.block _ hS2.rep.blk.lt (fun e => (row_ne hS2.rep.blk (by decide) hS2.rep.own) e.symm))
          have c03 := hb3.cell 0
          have f03 := hb3.frozen 0
          simp only [List.getElem?_toArray, List.getElem?_cons_zero, List.getElem?_cons_succ] at c03
          have hS3 := hS2.put (l' := l' ++ [UInt8.ofNat (n % 128 + 128)]) (n := l'.length + 1) (by rw [u8s_append]; simpa [u8s, Nat.mod_eq_of_lt (show n % 128 + 128 < 256 by omega)] using hown3) (by simp) hg3 hf3
          clear hS hS2 hown hown3 hg3 hf3 hb3 c0 hbt
          go_wp2_with fail
          exact ⟨⟨n / 128, _, _, by omega, by simp, by rw [HNB.out, numB_big gn]; simp, hS3⟩, by simp [intOf]; omega⟩
    · go_wp2_with fail
      go_end0
      have : i = ns.length := by omega
      subst this
      rw [List.take_length] at hS
      exact ⟨rfl, hS.next⟩
end Go.Proofs.Ytcnbnhncncgkaaa
