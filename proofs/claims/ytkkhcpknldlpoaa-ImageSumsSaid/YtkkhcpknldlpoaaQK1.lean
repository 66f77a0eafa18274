/- What a writer is in memory; what numbers are in bytes. | DERIVED LEMMAS, OF NO PROGRAM: bits of unsigned numbers. | The walk of a writer's Num. | The walks of a writer's other functions. | image: values, in plain Lean, and values in memory. | The walks of a writer's Int and Text. | What a reader is in memory; the walks of its least functions. | The walks of a reader's take and Byte. | The walk of a reader's Num. | The walks of a reader's Int, Count, Text, Fixed and Sum. | The walk of Read. | The guard of the wire's laws: numbers and a text are written and read. | image: a value is written. | image: a value is checked: value.count.walk. | WireOne, in plain Lean: what is read as a number is what it is written in. | PLAIN: what is written is read again: numbers, texts, sums. | image, in plain Lean: a reader's programs; what is read is what it is written in; what is written is read again; what is cut is too short. | image: a value is checked: value.count.walk, value.Check. | image: values of one's own: in which blocks they lie; rows of them under way. | image, in plain Lean: programs, their bytes, and their bytes read. | image: the tables of instructions: Of, waits, the document's. | image: programs in memory. | DERIVED LEMMAS, OF NO PROGRAM: a region that draws its order and ends in a store that waits for all others: behind that one the worlds need not be of the class. | image: value.Clone. | image: rows of names and of instructions; an image of one's own out of its rows. | image: a Program in memory; many cells of a block stored; a text turned into bytes. | image: most, below. | image: value.Check. -/
import Derived.Test.YtkkhcpknldlpoaaRows
import Derived.Test.YtkkhcpknldlpoaaRow
import Derived.Test.YtkkhcpknldlpoaaBytes
import Derived.Test.YtkkhcpknldlpoaaMix
import Derived.Laws.BitsAllLaws
import Derived.Laws.BitsLemmas
import Derived.Test.YtkkhcpknldlpoaaCom
import Derived.LoopTactic
import Derived.OwnWalk
import Derived.Lib.Hide
import Derived.Outline
import Derived.StillTailTactics
import Derived.Test.YtkkhcpknldlpoaaArgs
import Derived.WalkKit
import Derived.Deep.QuietTactic
import Derived.BigQuiet
import Derived.Laws.BytesArg
import Derived.Laws.CopyRow
import Derived.Laws.Tables
import Derived.Lib.SlBuf
import Derived.Laws.Slices
import Derived.Deep.DeepCutAuto
import Derived.Deep.CutBlock
import Derived.Handy
import Derived.Test.YtkkhcpknldlpoaaSteps
import Derived.Test.YtkkhcpknldlpoaaSOf
import Derived.Deep.MidRow
import Derived.Deep.Upon
import Derived.Lib.ConvBytes
set_option maxHeartbeats 2000000
namespace Go.Proofs.Ytkkhcpknldlpoaa
set_option maxRecDepth 4000
set_option linter.unusedVariables false
set_option linter.unusedSimpArgs false
open Go Go.RowKit
/-- seven bits a byte, the lowest first -/
def numB (n : Nat) : List UInt8 := if n < 128 then [UInt8.ofNat n] else UInt8.ofNat (n % 128 + 128) :: numB (n / 128)
termination_by n
theorem numB_small {n : Nat} (h : n < 128) : numB n = [UInt8.ofNat n] := by unfold numB; rw [if_pos h]
theorem numB_big {n : Nat} (h : ¬ n < 128) : numB n = UInt8.ofNat (n % 128 + 128) :: numB (n / 128) := by rw [numB]; rw [if_neg h]
theorem numB_le (k : Nat) : ∀ n, n < 128 ^ (k + 1) → (numB n).length ≤ k + 1 := by
  induction k with
  | zero => intro n h; rw [numB_small (by simpa using h)]; simp
  | succ k ih =>
    intro n h
    by_cases hn : n < 128
    · rw [numB_small hn]; simp
    · rw [numB_big hn]
      have := ih (n / 128) (by rw [Nat.div_lt_iff_lt_mul (by omega)]; rw [← Nat.pow_succ]; exact h)
      simp; omega
theorem numB_len {n : Nat} (h : n < 18446744073709551616) : (numB n).length ≤ 10 := numB_le 9 n (by omega)
theorem numsB_len : ∀ (ns : List Nat) (_ : ∀ n ∈ ns, n < 18446744073709551616), (ns.flatMap numB).length ≤ 10 * ns.length
  | [], _ => by simp
  | n :: ns, h => by
    have h1 := numB_len (h n (by simp))
    have h2 := numsB_len ns (fun m hm => h m (by simp [hm]))
    simp only [List.flatMap_cons, List.length_append, List.length_cons]; omega
/-- a writer of one's own: its block, its bytes -/
structure WRep (W : World) (q : Nat) (v : Value) (l : List UInt8) : Prop where
  blk : Blk W q 78 #[v]
  own : W.ownsRow 0 5 1 v l.length (u8s l)
def WFoot (q : Nat) (v : Value) (k : Nat) : Prop := k = q ∨ v.ownBlock = some k
def wA (q : Nat) (l : List UInt8) : Asr := fun W F => ∃ v, WRep W q v l ∧ F = WFoot q v
theorem wA_loc (q : Nat) (l : List UInt8) : Loc (wA q l) := by
  constructor
  · rintro W W' F ⟨v, h, rfl⟩ hk
    exact ⟨v, ⟨h.blk.of_eq (hk q (Or.inl rfl)), ownsRow_same h.own fun g hg => hk g (Or.inr hg)⟩, rfl⟩
  · rintro W F k ⟨v, h, rfl⟩ (rfl | hk)
    · exact h.blk.lt
    · exact (h.own.lt _ hk).2
/-- how a writer stands within a call that began in W -/
structure WSt (F : Nat → Prop) (W wr : World) (q : Nat) (v : Value) (l : List UInt8) : Prop where
  rep : WRep wr q v l
  tch : Tch F W wr
  foot : ∀ k, WFoot q v k → F k ∨ W.heap.size ≤ k
theorem WSt.next {F : Nat → Prop} {W wr : World} {q : Nat} {v : Value} {l : List UInt8} (h : WSt F W wr q v l) : Next F W wr (wA q l) := ⟨_, ⟨v, h.rep, rfl⟩, h.tch, h.foot⟩
theorem WSt.of {F : Nat → Prop} {W : World} {q : Nat} {l : List UInt8} (h : wA q l W F) : ∃ v, WSt F W W q v l := by
  obtain ⟨v, h, rfl⟩ := h
  exact ⟨v, h, Tch.refl _ _, fun _ h => Or.inl h⟩
theorem WSt.ext {F : Nat → Prop} {W wr w2 : World} {q : Nat} {v : Value} {l : List UInt8} (h : WSt F W wr q v l) (hE : Ext wr w2) : WSt F W w2 q v l :=
  ⟨⟨h.rep.blk.of_eq (hE.block _ h.rep.blk.lt), ownsRow_ext h.rep.own hE⟩, h.tch.trans (Tch.of_ext (S := F) hE) (fun _ h _ => h), h.foot⟩
/-- bytes were appended and the row noted -/
theorem WSt.put {F : Nat → Prop} {W wr w3 : World} {q n : Nat} {v v' : Value} {l l' : List UInt8} (h : WSt F W wr q v l) (hown : w3.ownsRow 0 5 1 v' n (u8s l')) (hn : n = l'.length) (hg : wr.grownBy w3 v.ownBlock) (hf : Fresh wr v v') :
    WSt F W (w3.setCell ⟨q, 0, none⟩ v') q v' l' := by
  subst hn
  have hne := row_ne h.rep.blk (by decide) h.rep.own
  have hb3 : Blk w3 q 78 #[v] := h.rep.blk.of_eq (hg.block _ h.rep.blk.lt (fun e => hne e.symm))
  have hne' := row_ne hb3 (by decide) hown
  have hfv : ∀ k, v'.ownBlock = some k → F k ∨ W.heap.size ≤ k := fun k hk => by
    rcases hf.1 k hk with h1 | h1
    · exact h.foot k (Or.inr h1)
    · exact Or.inr (Nat.le_trans h.tch.size h1)
  refine ⟨⟨by simpa using hb3.set_ 0 v', ownsRow_same hown fun g hg => Below.heap_setCell _ _ _ _ (fun e => hne' (by rw [hg, e]))⟩, ?_, ?_⟩
  · refine Tch.setCell (h.tch.trans (grownBy.tch hg) (fun k hk hl => (h.foot k (Or.inr hk)).elim id (fun h => absurd hl (by omega)))) (fun hl => ?_) _
    exact (h.foot q (Or.inl rfl)).elim id (fun h => absurd hl (Nat.not_lt.2 h))
  · rintro k (rfl | hk)
    · exact h.foot _ (Or.inl rfl)
    · exact hfv k hk
theorem WSt.put1 {F : Nat → Prop} {W wr w3 : World} {o : Obj} {q n : Nat} {v v' : Value} {l l' : List UInt8} (h : WSt F W wr q v l) (hown : w3.ownsRow 0 5 1 v' n (u8s l')) (hn : n = l'.length) (hg : (wr.alloc o).grownBy w3 v.ownBlock) (hf : Fresh (wr.alloc o) v v') :
    WSt F W (w3.setCell ⟨q, 0, none⟩ v') q v' l' := (h.ext (ext_alloc _ _)).put hown hn hg hf
theorem WSt.blk1 {F : Nat → Prop} {W wr w3 : World} {q : Nat} {v : Value} {l : List UInt8} (h : WSt F W wr q v l) (hg : wr.grownBy w3 v.ownBlock) : Blk w3 q 78 #[v] :=
  h.rep.blk.of_eq (hg.block _ h.rep.blk.lt (fun e => (row_ne h.rep.blk (by decide) h.rep.own) e.symm))
theorem WSt.blk2 {F : Nat → Prop} {W wr w3 : World} {o : Obj} {q : Nat} {v : Value} {l : List UInt8} (h : WSt F W wr q v l) (hg : (wr.alloc o).grownBy w3 v.ownBlock) : Blk w3 q 78 #[v] := (h.ext (ext_alloc _ _)).blk1 hg
theorem u8Info : (Try.prog.info? 5).map (fun i => (i.zero, i.size, i.bytes)) = some (some (.int .u8 0), 1, 1) := by kernel_rfl
end Go.Proofs.Ytkkhcpknldlpoaa

namespace Go.Proofs.Ytkkhcpknldlpoaa
set_option maxRecDepth 4000
set_option linter.unusedVariables false
set_option linter.unusedSimpArgs false
open Go Go.RowKit
theorem ofInt_u8 (a : Nat) (ha : a < 256) : (BitVec.ofInt 8 (a : Int)).toNat = a := by
  rw [BitVec.ofInt_natCast, BitVec.toNat_ofNat]; exact Nat.mod_eq_of_lt (by omega)
theorem and_nat_u8 (a b : Nat) (ha : a < 256) (hb : b < 256) : bits .and .u8 (a : Int) (b : Int) = ((a &&& b : Nat) : Int) := by
  have hx : a &&& b < 2 ^ 8 := Nat.and_lt_two_pow _ (by omega)
  show IntKind.u8.wrap ((BitVec.ofInt 8 (a : Int) &&& BitVec.ofInt 8 (b : Int)).toNat : Int) = _
  rw [BitVec.toNat_and, ofInt_u8 a ha, ofInt_u8 b hb, IntKind.wrap_u8]
  omega
theorem or_nat_u8 (a b : Nat) (ha : a < 256) (hb : b < 256) : bits .or .u8 (a : Int) (b : Int) = ((a ||| b : Nat) : Int) := by
  have hx : a ||| b < 2 ^ 8 := Nat.or_lt_two_pow (by omega) (by omega)
  show IntKind.u8.wrap ((BitVec.ofInt 8 (a : Int) ||| BitVec.ofInt 8 (b : Int)).toNat : Int) = _
  rw [BitVec.toNat_or, ofInt_u8 a ha, ofInt_u8 b hb, IntKind.wrap_u8]
  omega
theorem xor_nat_u8 (a b : Nat) (ha : a < 256) (hb : b < 256) : bits .xor .u8 (a : Int) (b : Int) = ((a ^^^ b : Nat) : Int) := by
  have hx : a ^^^ b < 2 ^ 8 := Nat.xor_lt_two_pow (by omega) (by omega)
  show IntKind.u8.wrap ((BitVec.ofInt 8 (a : Int) ^^^ BitVec.ofInt 8 (b : Int)).toNat : Int) = _
  rw [BitVec.toNat_xor, ofInt_u8 a ha, ofInt_u8 b hb, IntKind.wrap_u8]
  omega
theorem ofInt_u32 (a : Nat) (ha : a < 4294967296) : (BitVec.ofInt 32 (a : Int)).toNat = a := by
  rw [BitVec.ofInt_natCast, BitVec.toNat_ofNat]; exact Nat.mod_eq_of_lt (by omega)
theorem and_nat_u32 (a b : Nat) (ha : a < 4294967296) (hb : b < 4294967296) : bits .and .u32 (a : Int) (b : Int) = ((a &&& b : Nat) : Int) := by
  have hx : a &&& b < 2 ^ 32 := Nat.and_lt_two_pow _ (by omega)
  show IntKind.u32.wrap ((BitVec.ofInt 32 (a : Int) &&& BitVec.ofInt 32 (b : Int)).toNat : Int) = _
  rw [BitVec.toNat_and, ofInt_u32 a ha, ofInt_u32 b hb, IntKind.wrap_u32]
  omega
theorem or_nat_u32 (a b : Nat) (ha : a < 4294967296) (hb : b < 4294967296) : bits .or .u32 (a : Int) (b : Int) = ((a ||| b : Nat) : Int) := by
  have hx : a ||| b < 2 ^ 32 := Nat.or_lt_two_pow (by omega) (by omega)
  show IntKind.u32.wrap ((BitVec.ofInt 32 (a : Int) ||| BitVec.ofInt 32 (b : Int)).toNat : Int) = _
  rw [BitVec.toNat_or, ofInt_u32 a ha, ofInt_u32 b hb, IntKind.wrap_u32]
  omega
theorem xor_nat_u32 (a b : Nat) (ha : a < 4294967296) (hb : b < 4294967296) : bits .xor .u32 (a : Int) (b : Int) = ((a ^^^ b : Nat) : Int) := by
  have hx : a ^^^ b < 2 ^ 32 := Nat.xor_lt_two_pow (by omega) (by omega)
  show IntKind.u32.wrap ((BitVec.ofInt 32 (a : Int) ^^^ BitVec.ofInt 32 (b : Int)).toNat : Int) = _
  rw [BitVec.toNat_xor, ofInt_u32 a ha, ofInt_u32 b hb, IntKind.wrap_u32]
  omega
theorem ofInt_u64 (a : Nat) (ha : a < 18446744073709551616) : (BitVec.ofInt 64 (a : Int)).toNat = a := by
  rw [BitVec.ofInt_natCast, BitVec.toNat_ofNat]; exact Nat.mod_eq_of_lt (by omega)
theorem and_nat_u64 (a b : Nat) (ha : a < 18446744073709551616) (hb : b < 18446744073709551616) : bits .and .u64 (a : Int) (b : Int) = ((a &&& b : Nat) : Int) := by
  have hx : a &&& b < 2 ^ 64 := Nat.and_lt_two_pow _ (by omega)
  show IntKind.u64.wrap ((BitVec.ofInt 64 (a : Int) &&& BitVec.ofInt 64 (b : Int)).toNat : Int) = _
  rw [BitVec.toNat_and, ofInt_u64 a ha, ofInt_u64 b hb, IntKind.wrap_u64]
  omega
theorem or_nat_u64 (a b : Nat) (ha : a < 18446744073709551616) (hb : b < 18446744073709551616) : bits .or .u64 (a : Int) (b : Int) = ((a ||| b : Nat) : Int) := by
  have hx : a ||| b < 2 ^ 64 := Nat.or_lt_two_pow (by omega) (by omega)
  show IntKind.u64.wrap ((BitVec.ofInt 64 (a : Int) ||| BitVec.ofInt 64 (b : Int)).toNat : Int) = _
  rw [BitVec.toNat_or, ofInt_u64 a ha, ofInt_u64 b hb, IntKind.wrap_u64]
  omega
theorem xor_nat_u64 (a b : Nat) (ha : a < 18446744073709551616) (hb : b < 18446744073709551616) : bits .xor .u64 (a : Int) (b : Int) = ((a ^^^ b : Nat) : Int) := by
  have hx : a ^^^ b < 2 ^ 64 := Nat.xor_lt_two_pow (by omega) (by omega)
  show IntKind.u64.wrap ((BitVec.ofInt 64 (a : Int) ^^^ BitVec.ofInt 64 (b : Int)).toNat : Int) = _
  rw [BitVec.toNat_xor, ofInt_u64 a ha, ofInt_u64 b hb, IntKind.wrap_u64]
  omega
set_option maxRecDepth 10000 in
theorem or_top : ∀ a, a < 256 → a ||| 128 = a % 128 + 128 := by decide
set_option maxRecDepth 10000 in
theorem and_low : ∀ a, a < 256 → a &&& 127 = a % 128 := by decide
theorem u8_or_top (n : Nat) : bits .or .u8 ((n : Int) % 256) 128 = ((n % 128 + 128 : Nat) : Int) := by
  have h := or_nat_u8 (n % 256) 128 (by omega) (by omega)
  rw [or_top _ (by omega)] at h
  have e : ((n % 256 : Nat) : Int) = (n : Int) % 256 := by omega
  have e2 : n % 256 % 128 = n % 128 := by omega
  rw [e, e2] at h
  exact h
theorem u8_and_low (n : Nat) (hn : n < 256) : bits .and .u8 (n : Int) 127 = ((n % 128 : Nat) : Int) := by
  have h := and_nat_u8 n 127 hn (by omega)
  rw [and_low _ hn] at h
  exact h
end Go.Proofs.Ytkkhcpknldlpoaa

namespace Go.Proofs.Ytkkhcpknldlpoaa
set_option linter.unusedVariables false
set_option linter.unusedSimpArgs false
open Go Go.RowKit
def NumRel1 (F : Nat → Prop) (W : World) (q : Nat) (l : List UInt8) (ns : List Nat) (k : Value) (wr : World) : Prop :=
  ∃ (i : Nat) (v : Value), i ≤ ns.length ∧ k = .int .i64 i ∧ WSt F W wr q v (l ++ (ns.take i).flatMap numB)
def NumRel2 (F : Nat → Prop) (W : World) (q : Nat) (l : List UInt8) (x : Nat) (m : Value) (wr : World) : Prop :=
  ∃ (n : Nat) (l' : List UInt8) (v : Value), n < 18446744073709551616 ∧ m = .int .u64 n ∧ l ++ numB x = l' ++ numB n ∧ WSt F W wr q v l'
set_option maxRecDepth 100000 in
set_option maxHeartbeats 1000000 in
theorem wnum_any {W : World} {q : Nat} {l : List UInt8} {F : Nat → Prop} (h : wA q l W F) (p : Option Addr) (c : Nat) (ns : List Nat) (hN : NumsAt .u64 W p (ns.map Int.ofNat)) (hF : ∀ a, p = some a → ¬ F a.block)
    (hb : ∀ n ∈ ns, n < 18446744073709551616) (hlen : l.length + 10 * ns.length ≤ 70368744177664) :
    Calls Try.prog 38 #[.pointer (some ⟨q, 0, none⟩), .slice p ns.length c] W fun e W' => e = .returned (.tuple #[]) ∧ Next F W W' (wA q (l ++ ns.flatMap numB)) := by
  obtain ⟨i0, hi0, hz0, hz1, hz2⟩ := info_parts u8Info
  obtain ⟨v0, hS⟩ := WSt.of h
  go_enter Try.func38, Try.ntmps38
  go_wp2_with fail
  go_loopw [8] (fun k wr => NumRel1 F W q l ns k wr) (fun k _ => ((ns.length : Int) + 1 - intOf k).toNat)
  case atStart => exact ⟨0, v0, by omega, rfl, by simpa using hS⟩
  case round =>
    clear hS
    obtain ⟨i, v, hi, rfl, hS⟩ := hrel
    by_cases gi : (i : Int) < ns.length
    · obtain ⟨a, rfl, hal, hac⟩ := hN i (by simpa using gi)
      have hcell : wr.cell? (a.add i) = some (.int .u64 ((ns.getD i 0 : Nat) : Int)) := by
        have hab : (a.add i).block = a.block := by unfold Addr.add; first | rfl | (split <;> rfl)
        rw [World.cell?_of_block (w := W) (a := a.add i) (hS.tch.block _ (by rw [hab]; exact hal) (by rw [hab]; exact hF a rfl)), hac]
        congr 2
        rw [List.getD_eq_getElem?_getD, List.getD_eq_getElem?_getD, List.getElem?_map, List.getElem?_eq_getElem (by omega)]; rfl
      have hx := hb (ns.getD i 0) (by rw [List.getD_eq_getElem?_getD, List.getElem?_eq_getElem (by omega)]; simp)
      have htk : (ns.take (i + 1)).flatMap numB = (ns.take i).flatMap numB ++ numB (ns.getD i 0) := by
        rw [take_snoc ns 0 i (by omega), List.flatMap_append]; simp
      have hl1 := numsB_len (ns.take i) (fun n hn => hb n (List.mem_of_mem_take hn))
      have hl2 : (l ++ (ns.take i).flatMap numB).length ≤ l.length + 10 * i := by simp at hl1 ⊢; omega
      have HT := Lib.hid htk
      clear htk hl1
      generalize ns.getD i 0 = x at *
      generalize (ns.take i).flatMap numB = d at *
      go_wp2_with fail
      obtain ⟨wo, rfl⟩ : ∃ wo : World, wo = wr := ⟨_, rfl⟩
      go_loopw [5] (fun m wr => NumRel2 F W q (l ++ d) x m wr) (fun m _ => (intOf m).toNat)
      case atStart => exact ⟨x, l ++ d, v, hx, rfl, rfl, hS⟩
      case round =>
        clear hS v hcell
        obtain ⟨n, l', v, hn, rfl, hnb, hS⟩ := hrel
        have c0 := hS.rep.blk.cell 0
        have hql := hS.rep.blk.lt
        simp only [List.getElem?_toArray, List.getElem?_cons_zero, List.getElem?_cons_succ] at c0
        have hown := hS.rep.own
        have hll : l'.length + 1 ≤ l.length + 10 * i + 10 := by
          have h1 := congrArg List.length hnb
          have h2 := numB_len hx
          have h3 : 1 ≤ (numB n).length := by rw [numB]; split <;> simp
          simp only [List.length_append] at h1 hl2
          omega
        have hb1 : l'.length + 1 ≤ maxLen := by unfold maxLen; omega
        have hb2 : (l'.length + 1) * 1 ≤ 140737488355328 := by omega
        have HNB := Lib.hid hnb
        clear hnb
        by_cases gn : n < 128
        · have gn' : (n : Int) < 128 := by omega
          go_wp2_with ((at_builtin; refine wpList_append_new rfl _ _ 30 rfl 5 i0 (.int .u8 0) 1 1 Try.underlying30 hi0 hz0 hz1 hz2 rfl (by decide) _ _ _ rfl (hown.alloc _) (some ⟨wr.heap.size, 0, none⟩) 1 1 _ rfl rfl (fun h => nomatch h) (news_new _ _ _) (oneC1 _ _) hb1 hb2 ?_))
          intro v' w3 hown3 hg3 hf3
          obtain ⟨pv, cv, rfl⟩ := ownsRow_slice hown3
          have hS2 := hS.ext (ext_alloc wr (.cells #[.int .u8 n] 5))
          have hb3 := hS2.rep.blk.of_eq (hg3.block _ hS2.rep.blk.lt (fun e => (row_ne hS2.rep.blk (by decide) hS2.rep.own) e.symm))
          have c03 := hb3.cell 0
          have f03 := hb3.frozen 0
          simp only [List.getElem?_toArray, List.getElem?_cons_zero, List.getElem?_cons_succ] at c03
          have hS3 := hS2.put (l' := l' ++ numB n) (n := l'.length + 1) (by rw [numB_small gn, u8s_append]; simpa [u8s, Nat.mod_eq_of_lt (show n < 256 by omega)] using hown3) (by rw [numB_small gn]; simp) hg3 hf3
          clear hS hS2 hown hown3 hg3 hf3 hb3 c0
          go_wp2_with fail
          exact ⟨⟨i + 1, _, by omega, by go_num, by rw [HT.out, ← List.append_assoc, HNB.out]; exact hS3⟩, by simp [intOf]; omega⟩
        · have gn' : ¬ ((n : Int) < 128) := by omega
          have hbt := u8_or_top n
          go_wp2_with ((at_builtin; refine wpList_append_new rfl _ _ 30 rfl 5 i0 (.int .u8 0) 1 1 Try.underlying30 hi0 hz0 hz1 hz2 rfl (by decide) _ _ _ rfl (hown.alloc _) (some ⟨wr.heap.size, 0, none⟩) 1 1 _ rfl rfl (fun h => nomatch h) (news_new _ _ _) (oneC1 _ _) hb1 hb2 ?_))
          intro v' w3 hown3 hg3 hf3
          obtain ⟨pv, cv, rfl⟩ := ownsRow_slice hown3
          have hS2 := hS.ext (ext_alloc wr (.cells #[.int .u8 (n % 128 + 128)] 5))
          have hb3 := hS2.rep.blk.of_eq (hg3.block _ hS2.rep.blk.lt (fun e => (row_ne hS2.rep.blk (by decide) hS2.rep.own) e.symm))
          have c03 := hb3.cell 0
          have f03 := hb3.frozen 0
          simp only [List.getElem?_toArray, List.getElem?_cons_zero, List.getElem?_cons_succ] at c03
          have hS3 := hS2.put (l' := l' ++ [UInt8.ofNat (n % 128 + 128)]) (n := l'.length + 1) (by rw [u8s_append]; simpa [u8s, Nat.mod_eq_of_lt (show n % 128 + 128 < 256 by omega)] using hown3) (by simp) hg3 hf3
          clear hS hS2 hown hown3 hg3 hf3 hb3 c0 hbt
          go_wp2_with fail
          exact ⟨⟨n / 128, _, _, by omega, by simp, by rw [HNB.out, numB_big gn]; simp, hS3⟩, by simp [intOf]; omega⟩
    · go_wp2_with fail
      go_end0
      have : i = ns.length := by omega
      subst this
      rw [List.take_length] at hS
      exact ⟨rfl, hS.next⟩
end Go.Proofs.Ytkkhcpknldlpoaa

namespace Go.Proofs.Ytkkhcpknldlpoaa
set_option maxRecDepth 4000
set_option linter.unusedVariables false
set_option linter.unusedSimpArgs false
open Go Go.RowKit
theorem wlen_any {W : World} {q : Nat} {l : List UInt8} {F : Nat → Prop} (h : wA q l W F) :
    Calls Try.prog 65 #[.pointer (some ⟨q, 0, none⟩)] W fun e W' => e = .returned (.int .i64 l.length) ∧ W = W' := by
  obtain ⟨v, hS⟩ := WSt.of h
  have c0 := hS.rep.blk.cell 0
  simp only [List.getElem?_toArray, List.getElem?_cons_zero, List.getElem?_cons_succ] at c0
  obtain ⟨pv, cv, rfl⟩ := ownsRow_slice hS.rep.own
  go_enter Try.func65, Try.ntmps65
  go_wp2_with fail
  go_ret
  exact ⟨rfl, rfl⟩
theorem wbyte_any {W : World} {q : Nat} {l : List UInt8} {F : Nat → Prop} (h : wA q l W F) (p : Option Addr) (c : Nat) (bs : List UInt8) (hN : NumsAt .u8 W p (byI bs)) (hp : p = none → bs.length = 0 ∧ c = 0)
    (hlen : l.length + bs.length ≤ 70368744177664) :
    Calls Try.prog 41 #[.pointer (some ⟨q, 0, none⟩), .slice p bs.length c] W fun e W' => e = .returned (.tuple #[]) ∧ Next F W W' (wA q (l ++ bs)) := by
  obtain ⟨i0, hi0, hz0, hz1, hz2⟩ := info_parts u8Info
  obtain ⟨v, hS⟩ := WSt.of h
  have c0 := hS.rep.blk.cell 0
  have hown := hS.rep.own
  simp only [List.getElem?_toArray, List.getElem?_cons_zero, List.getElem?_cons_succ] at c0
  have hb1 : l.length + bs.length ≤ maxLen := by unfold maxLen; omega
  have hb2 : (l.length + bs.length) * 1 ≤ 140737488355328 := by omega
  go_enter Try.func41, Try.ntmps41
  go_wp2_with (at_builtin; refine wpList_append_new rfl _ _ 30 rfl 5 i0 (.int .u8 0) 1 1 Try.underlying30 hi0 hz0 hz1 hz2 rfl (by decide) _ _ _ rfl hown p bs.length c (u8s bs) rfl (u8s_length bs ▸ (Nat.mul_one _).symm) hp (news_at hN) (u8s_one bs) hb1 hb2 ?_)
  intro v' w3 hown3 hg3 hf3
  obtain ⟨pv, cv, rfl⟩ := ownsRow_slice hown3
  have hb3 := hS.blk1 hg3
  have c03 := hb3.cell 0
  have f03 := hb3.frozen 0
  simp only [List.getElem?_toArray, List.getElem?_cons_zero, List.getElem?_cons_succ] at c03
  have hS3 := hS.put (l' := l ++ bs) (n := l.length + bs.length) (by rw [u8s_append]; exact hown3) (by simp) hg3 hf3
  clear hS hown hown3 hg3 hf3 hb3 c0 h
  go_wp2_with fail
  go_end0
  exact ⟨rfl, hS3.next⟩
theorem wbytes_any {W : World} {q : Nat} {l : List UInt8} {F : Nat → Prop} (h : wA q l W F) (hlen : l.length ≤ 70368744177664) :
    Calls Try.prog 42 #[.pointer (some ⟨q, 0, none⟩)] W fun e W' => (∃ v, e = .returned v ∧ W'.ownsRow W.heap.size 5 1 v l.length (u8s l)) ∧ Ext W W' := by
  obtain ⟨i0, hi0, hz0, hz1, hz2⟩ := info_parts u8Info
  obtain ⟨v, hS⟩ := WSt.of h
  have c0 := hS.rep.blk.cell 0
  have hql := hS.rep.blk.lt
  have hown := hS.rep.own
  simp only [List.getElem?_toArray, List.getElem?_cons_zero, List.getElem?_cons_succ] at c0
  obtain ⟨pv, cv, rfl⟩ := ownsRow_slice hown
  have hE := ext_alloc W (.cells #[] 5)
  go_enter Try.func42, Try.ntmps42
  have hlit := World.ownsRow_made (base := 0) (e := 5) (size := 1) W #[] 0 (Nat.zero_le _) (by simp) rfl
  have hb1 : 0 + l.length ≤ maxLen := by unfold maxLen; omega
  have hb2 : (0 + l.length) * 1 ≤ 140737488355328 := by omega
  go_wp2_with (at_builtin; refine wpList_append_new rfl _ _ 30 rfl 5 i0 (.int .u8 0) 1 1 Try.underlying30 hi0 hz0 hz1 hz2 rfl (by decide) _ 0 [] rfl hlit pv l.length cv (u8s l) rfl (u8s_length l ▸ (Nat.mul_one _).symm) (row_nil hown) (row_news (ownsRow_ext hown hE)) (u8s_one l) hb1 hb2 ?_)
  intro v' w3 hown3 hg3 hf3
  obtain ⟨pv', cv', rfl⟩ := ownsRow_slice hown3
  have hE3 : Ext W w3 := hE.grown hg3 (by simp) (fun k hk => by simp [Value.ownBlock] at hk; omega)
  have hown4 := ownsRow_base (b' := W.heap.size) hown3 (fun k hk => by
    rcases hf3.1 k hk with h1 | h1
    · simp [Value.ownBlock] at h1; omega
    · simp at h1; omega)
  clear hown3 hg3 hf3 hS hown hlit
  go_wp2_with fail
  go_ret
  exact ⟨⟨_, rfl, by simpa using hown4⟩, hE3⟩
def zigN (n : Int) : Nat := if 0 ≤ n then (2 * n).toNat else (-2 * n - 1).toNat
theorem xor_ones (a : Nat) (ha : a < 18446744073709551616) : a ^^^ 18446744073709551615 = 18446744073709551615 - a := by
  have h := congrArg BitVec.toNat (BitVec.xor_allOnes (x := BitVec.ofNat 64 a))
  rw [BitVec.toNat_xor, BitVec.toNat_not, BitVec.toNat_ofNat, Nat.mod_eq_of_lt (by omega)] at h
  simpa using h
theorem zig_pos (n : Int) (h0 : 0 ≤ n) (h2 : n ≤ 9223372036854775807) : bits .xor .u64 (n * 2) (n / 9223372036854775808) = (zigN n : Int) := by
  obtain ⟨a, rfl⟩ := Int.eq_ofNat_of_zero_le h0
  have e1 : (a : Int) * 2 = ((2 * a : Nat) : Int) := by omega
  have e2 : (a : Int) / 9223372036854775808 = ((0 : Nat) : Int) := by omega
  rw [e1, e2, xor_nat_u64 _ _ (by omega) (by omega)]
  simp [zigN]; omega
theorem zig_neg (n : Int) (h0 : n < 0) (h1 : -9223372036854775808 ≤ n) : bits .xor .u64 (IntKind.u64.wrap (IntKind.u64.wrap n * 2)) (IntKind.u64.wrap (n / 9223372036854775808)) = (zigN n : Int) := by
  obtain ⟨a, ha⟩ := Int.eq_ofNat_of_zero_le (show 0 ≤ 2 * n + 18446744073709551616 by omega)
  have e1 : IntKind.u64.wrap (IntKind.u64.wrap n * 2) = (a : Int) := by
    rw [IntKind.wrap_u64, IntKind.wrap_u64]; omega
  have e2 : IntKind.u64.wrap (n / 9223372036854775808) = ((18446744073709551615 : Nat) : Int) := by
    have : n / 9223372036854775808 = -1 := by omega
    rw [this, IntKind.wrap_u64]; rfl
  rw [e1, e2, xor_nat_u64 _ _ (by omega) (by omega), xor_ones a (by omega)]
  unfold zigN
  rw [if_neg (by omega)]
  omega
theorem ret_int {k : IntKind} {a b : Int} (h : a = b) : Ending.returned (.int k a) = .returned (.int k b) := by rw [h]
theorem zig_any (n : Int) (w : World) (h1 : -9223372036854775808 ≤ n) (h2 : n ≤ 9223372036854775807) :
    Calls Try.prog 74 #[.int .i64 n] w fun e w' => e = .returned (.int .u64 (zigN n)) ∧ w = w' := by
  rcases (show 0 ≤ n ∨ n < 0 by omega) with h | h
  · have E := Lib.hid (zig_pos n h h2)
    go_enter Try.func74, Try.ntmps74
    go_wp2_with fail
    go_ret
    exact ⟨ret_int E.out, rfl⟩
  · have E := Lib.hid (zig_neg n h h1)
    go_enter Try.func74, Try.ntmps74
    go_wp2_with fail
    go_ret
    exact ⟨ret_int E.out, rfl⟩
theorem zigN_lt {n : Int} (h1 : -9223372036854775808 ≤ n) (h2 : n ≤ 9223372036854775807) : zigN n < 18446744073709551616 := by
  unfold zigN; split <;> omega
theorem slice_sum (w : World) (a : Addr) : (Instr.sliceAt 66 (.pointer (some a)) none none none).run Try.prog w = .ok (.slice (some a) 32 32) w := by kernel_rfl
end Go.Proofs.Ytkkhcpknldlpoaa

namespace Go.Proofs.Ytkkhcpknldlpoaa
set_option maxRecDepth 4000
set_option linter.unusedVariables false
set_option linter.unusedSimpArgs false
open Go Go.RowKit
/-- values in a row: each has its kind, number, text, and the values of its list (each of the four may be there whatever the kind) -/
inductive Fo where
  | nil
  | node (k n : Int) (s : List UInt8) (sub next : Fo)
def Fo.len : Fo → Nat
  | .nil => 0
  | .node _ _ _ _ r => r.len + 1
def kindB (k : Int) : UInt8 := UInt8.ofNat (k % 256).toNat
/-- their bytes -/
def Fo.bytes : Fo → List UInt8
  | .nil => []
  | .node k n s sub r => (kindB k :: (if k = 1 then numB (zigN n) else if k = 2 then numB s.length ++ s else if k = 3 then numB sub.len ++ sub.bytes else [])) ++ r.bytes
/-- may they be: the error's number (0: none), and how many values there are then -/
def Fo.walk : Fo → Nat → Nat → Int × Nat
  | .nil, _, m => (0, m)
  | .node k _ s sub r, d, m =>
    let o : Int × Nat :=
      if 256 < m + 1 then (2, m + 1)
      else if k = 0 ∨ k = 1 then (0, m + 1)
      else if k = 2 then (if 256 < s.length then 2 else 0, m + 1)
      else if k ≠ 3 then (9, m + 1)
      else if 8 ≤ d then (30, m + 1)
      else if 64 < sub.len then (2, m + 1)
      else sub.walk (d + 1) (m + 1)
    if o.1 ≠ 0 then o else r.walk d o.2
/-- one value -/
structure Vl where
  k : Int
  n : Int
  s : List UInt8
  l : Fo
def Vl.one (v : Vl) : Fo := .node v.k v.n v.s v.l .nil
def Vl.bytes (v : Vl) : List UInt8 := v.one.bytes
def Vl.check (v : Vl) : Int := if (v.one.walk 0 0).1 ≠ 0 then (v.one.walk 0 0).1 else if 512 < v.bytes.length then 2 else 0
/-- values in memory: four cells each, and what their lists point at -/
def FoAt (W : World) : Option Addr → Nat → Fo → Prop
  | _, _, .nil => True
  | p, i, .node k n s sub r => (∃ (b o : Nat) (q : Option Addr) (c : Nat), p = some ⟨b, o, none⟩ ∧ W.cell? ⟨b, o + 4 * i, none⟩ = some (.int .i64 k) ∧ W.cell? ⟨b, o + 4 * i + 1, none⟩ = some (.int .i64 n) ∧ W.cell? ⟨b, o + 4 * i + 2, none⟩ = some (.string ⟨s.toArray⟩) ∧
      W.cell? ⟨b, o + 4 * i + 3, none⟩ = some (.slice q sub.len c) ∧ (q = none → sub.len = 0 ∧ c = 0) ∧ sub.len ≤ c ∧ c ≤ Go.maxLen ∧ FoAt W q 0 sub) ∧ FoAt W p (i + 1) r
theorem cell_ext {W W' : World} (hE : Ext W W') {a : Addr} {v : Value} (h : W.cell? a = some v) : W'.cell? a = some v :=
  (World.cell?_of_block (w := W) (a := a) (hE.block _ (World.block_lt_of_cell? W _ h))).trans h
theorem FoAt.ext {W W' : World} (hE : Ext W W') : ∀ {f : Fo} {p : Option Addr} {i : Nat}, FoAt W p i f → FoAt W' p i f
  | .nil, _, _, _ => trivial
  | .node k n s sub r, p, i, h => by
    obtain ⟨⟨b, o, q, c, h1, h2, h3, h4, h5, h6, h7, h8, h9⟩, h10⟩ := h
    exact ⟨⟨b, o, q, c, h1, cell_ext hE h2, cell_ext hE h3, cell_ext hE h4, cell_ext hE h5, h6, h7, h8, h9.ext hE⟩, h10.ext hE⟩
def Fo.vals : Fo → List Vl
  | .nil => []
  | .node k n s sub r => ⟨k, n, s, sub⟩ :: r.vals
theorem Fo.vals_len : ∀ f : Fo, f.vals.length = f.len
  | .nil => rfl
  | .node _ _ _ _ r => by rw [Fo.vals, Fo.len, List.length_cons, r.vals_len]
def Fo.size : Fo → Nat
  | .nil => 0
  | .node _ _ _ sub r => sub.size + r.size + 1
theorem Fo.size_mem : ∀ {f : Fo} {v : Vl}, v ∈ f.vals → v.l.size < f.size
  | .nil, v, h => by simp [Fo.vals] at h
  | .node k n s sub r, v, h => by
    rw [Fo.vals] at h
    rw [Fo.size]
    rcases List.mem_cons.1 h with rfl | h
    · show sub.size < _; omega
    · have := Fo.size_mem h; omega
theorem Vl.bytes_eq (v : Vl) : v.bytes = kindB v.k :: (if v.k = 1 then numB (zigN v.n) else if v.k = 2 then numB v.s.length ++ v.s else if v.k = 3 then numB v.l.len ++ v.l.bytes else []) := by
  unfold Vl.bytes Vl.one
  rw [Fo.bytes, Fo.bytes, List.append_nil]
theorem Fo.bytes_vals : ∀ f : Fo, f.bytes = f.vals.flatMap Vl.bytes
  | .nil => rfl
  | .node k n s sub r => by
    rw [Fo.vals, List.flatMap_cons, ← r.bytes_vals, Vl.bytes_eq, Fo.bytes]
/-- a value's cells, its list lying at q -/
def Vl.cells (v : Vl) (q : Option Addr) (c : Nat) : List Value := [.int .i64 v.k, .int .i64 v.n, .string ⟨v.s.toArray⟩, .slice q v.l.len c]
structure VlAt (W : World) (q : Option Addr) (c : Nat) (v : Vl) : Prop where
  nil_ : q = none → v.l.len = 0 ∧ c = 0
  len : v.l.len ≤ c
  cap : c ≤ Go.maxLen
  fo : FoAt W q 0 v.l
theorem VlAt.ext {W W' : World} {q : Option Addr} {c : Nat} {v : Vl} (h : VlAt W q c v) (hE : Ext W W') : VlAt W' q c v := ⟨h.nil_, h.len, h.cap, h.fo.ext hE⟩
theorem FoAt.get {W : World} : ∀ {f : Fo} {p : Option Addr} {i : Nat}, FoAt W p i f → ∀ (j : Nat) (hj : j < f.vals.length), ∃ (b o : Nat) (q : Option Addr) (c : Nat), p = some ⟨b, o, none⟩ ∧ VlAt W q c f.vals[j] ∧
    W.cell? ⟨b, o + 4 * (i + j), none⟩ = some (.int .i64 f.vals[j].k) ∧ W.cell? ⟨b, o + 4 * (i + j) + 1, none⟩ = some (.int .i64 f.vals[j].n) ∧ W.cell? ⟨b, o + 4 * (i + j) + 2, none⟩ = some (.string ⟨f.vals[j].s.toArray⟩) ∧ W.cell? ⟨b, o + 4 * (i + j) + 3, none⟩ = some (.slice q f.vals[j].l.len c)
  | .nil, _, _, _, j, hj => by simp [Fo.vals] at hj
  | .node k n s sub r, p, i, h, 0, hj => by
    obtain ⟨⟨b, o, q, c, h1, h2, h3, h4, h5, h6, h7, h8, h9⟩, _⟩ := h
    exact ⟨b, o, q, c, h1, ⟨h6, h7, h8, h9⟩, h2, h3, h4, h5⟩
  | .node k n s sub r, p, i, h, j + 1, hj => by
    have h2 := FoAt.get h.2 j (by simpa [Fo.vals] using hj)
    rw [show i + (j + 1) = i + 1 + j by omega]
    exact h2
end Go.Proofs.Ytkkhcpknldlpoaa

namespace Go.Proofs.Ytkkhcpknldlpoaa
set_option maxRecDepth 4000
set_option linter.unusedVariables false
set_option linter.unusedSimpArgs false
open Go Go.RowKit
theorem numsAt_lit (k : IntKind) (w : World) (x : Int) (t : TypeId) : NumsAt k (w.alloc (.cells #[.int k x] t)) (some ⟨w.heap.size, 0, none⟩) [x] := by
  intro i hi
  have hi0 : i = 0 := by simpa using hi
  subst hi0
  refine ⟨_, rfl, by simp, ?_⟩
  rw [Go.WideShapes.add_plain]
  have h : (w.alloc (.cells #[.int k x] t)).heap[w.heap.size]? = some (.cells #[.int k x] t (0, 0)) := heap_alloc_new w _
  rw [cell_of_row _ _ 0 _ t (0, 0) h]
  rfl
/-- Num with one number in a new slice -/
theorem wnum_lit {W : World} {q : Nat} {l : List UInt8} {F : Nat → Prop} (h : wA q l W F) (n : Nat) (t : TypeId) (hn : n < 18446744073709551616) (hlen : l.length + 10 ≤ 70368744177664) :
    Calls Try.prog 38 #[.pointer (some ⟨q, 0, none⟩), .slice (some ⟨W.heap.size, 0, none⟩) 1 1] (W.alloc (.cells #[.int .u64 n] t)) fun e W' => e = .returned (.tuple #[]) ∧ Next F W W' (wA q (l ++ numB n)) := by
  have hl := wA_loc q l
  have h2 := hl.ext h (ext_alloc W (.cells #[.int .u64 n] t))
  refine (wnum_any h2 (some ⟨W.heap.size, 0, none⟩) 1 [n] (numsAt_lit .u64 W n t) (fun a ha hf => ?_) (by simpa using hn) (by simpa using hlen)).mono ?_
  · injection ha with ha
    subst ha
    exact Nat.lt_irrefl _ (hl.lt h hf)
  · rintro e W' ⟨rfl, hN⟩
    exact ⟨rfl, by simpa using Next.ext_left (ext_alloc _ _) hN⟩
def IntRel (F : Nat → Prop) (W : World) (q : Nat) (l : List UInt8) (ns : List Int) (k : Value) (wr : World) : Prop :=
  ∃ i : Nat, i ≤ ns.length ∧ k = .int .i64 i ∧ Next F W wr (wA q (l ++ (ns.take i).flatMap fun n => numB (zigN n)))
theorem ints_len : ∀ (ns : List Int) (_ : ∀ n ∈ ns, -9223372036854775808 ≤ n ∧ n ≤ 9223372036854775807), (ns.flatMap fun n => numB (zigN n)).length ≤ 10 * ns.length
  | [], _ => by simp
  | n :: ns, h => by
    have h0 := h n (by simp)
    have h1 := numB_len (zigN_lt h0.1 h0.2)
    have h2 := ints_len ns (fun m hm => h m (by simp [hm]))
    simp only [List.flatMap_cons, List.length_append, List.length_cons]; omega
set_option maxRecDepth 100000 in
set_option maxHeartbeats 1000000 in
theorem wint_any {W : World} {q : Nat} {l : List UInt8} {F : Nat → Prop} (h : wA q l W F) (p : Option Addr) (c : Nat) (ns : List Int) (hN : NumsAt .i64 W p ns) (hF : ∀ a, p = some a → ¬ F a.block)
    (hb : ∀ n ∈ ns, -9223372036854775808 ≤ n ∧ n ≤ 9223372036854775807) (hlen : l.length + 10 * ns.length ≤ 70368744177664) :
    Calls Try.prog 63 #[.pointer (some ⟨q, 0, none⟩), .slice p ns.length c] W fun e W' => e = .returned (.tuple #[]) ∧ Next F W W' (wA q (l ++ ns.flatMap fun n => numB (zigN n))) := by
  have hS : Next F W W (wA q (l ++ (ns.take 0).flatMap fun n => numB (zigN n))) := ⟨F, by simpa using h, Tch.refl _ _, fun _ h => Or.inl h⟩
  go_enter Try.func63, Try.ntmps63
  go_wp2_with fail
  go_loopw [8] (fun k wr => IntRel F W q l ns k wr) (fun k _ => ((ns.length : Int) + 1 - intOf k).toNat)
  case atStart => exact ⟨0, by omega, rfl, hS⟩
  case round =>
    clear hS
    obtain ⟨i, hi, rfl, hS⟩ := hrel
    by_cases gi : (i : Int) < ns.length
    · obtain ⟨a, rfl, hal, hac⟩ := hN i (by omega)
      have hcell : wr.cell? (a.add i) = some (.int .i64 (ns.getD i 0)) := by
        have hab : (a.add i).block = a.block := by unfold Addr.add; first | rfl | (split <;> rfl)
        rw [World.cell?_of_block (w := W) (a := a.add i) (hS.tch.block _ (by rw [hab]; exact hal) (by rw [hab]; exact hF a rfl)), hac]
      have hx := hb (ns.getD i 0) (getD_mem ns 0 i (by omega))
      have HT : Hid ((ns.take (i + 1)).flatMap (fun n => numB (zigN n)) = (ns.take i).flatMap (fun n => numB (zigN n)) ++ numB (zigN (ns.getD i 0))) := by
        unfold Hid; rw [take_snoc ns 0 i (by omega), List.flatMap_append]; simp
      have hl2 : (l ++ (ns.take i).flatMap fun n => numB (zigN n)).length ≤ l.length + 10 * i := by
        have := ints_len (ns.take i) (fun n hn => hb n (List.mem_of_mem_take hn))
        simp at this ⊢; omega
      generalize ns.getD i 0 = x at *
      generalize hd : l ++ (ns.take i).flatMap (fun n => numB (zigN n)) = d at *
      have HD := Lib.hid hd
      clear hd
      obtain ⟨F', h1, ht, hf⟩ := hS
      have hz := zigN_lt hx.1 hx.2
      go_wp2_with fail
      refine (zig_any x _ hx.1 hx.2).mono ?_
      rintro e w2 ⟨rfl, rfl⟩
      go_wp2_with fail
      refine (wnum_lit h1 (zigN x) _ hz (by omega)).mono ?_
      rintro e w3 ⟨rfl, hS3⟩
      have hS4 := Next.trans ht hf hS3
      clear hS3 h1 ht hf hcell
      go_wp2_with fail
      exact ⟨⟨i + 1, by omega, by go_num, by rw [HT.out, ← List.append_assoc, HD.out]; exact hS4⟩, by simp [intOf]; omega⟩
    · have hi2 : i = ns.length := by omega
      subst hi2
      rw [List.take_length] at hS
      go_wp2_with fail
      go_end0
      exact ⟨rfl, hS⟩
theorem strCells_u8s (s : ByteArray) : Go.Lib.strCells s = u8s s.data.toList := by simp [Go.Lib.strCells, u8s]
theorem wtext_any {W : World} {q : Nat} {l : List UInt8} {F : Nat → Prop} (h : wA q l W F) (s : ByteArray) (hs : s.size ≤ 70368744177664) (hlen : l.length + 10 ≤ 70368744177664) :
    Calls Try.prog 40 #[.pointer (some ⟨q, 0, none⟩), .string s] W fun e W' => e = .returned (.tuple #[]) ∧ Next F W W' (wA q (l ++ (numB s.size ++ s.data.toList))) := by
  obtain ⟨i0, hi0, hz0, hz1, hz2⟩ := info_parts u8Info
  have hnl := numB_len (n := s.size) (by omega)
  go_enter Try.func40, Try.ntmps40
  go_wp2_with fail
  refine (wnum_lit h s.size _ (by omega) hlen).mono ?_
  rintro e w2 ⟨rfl, F', h1, ht, hf⟩
  obtain ⟨v, hS⟩ := WSt.of h1
  have c0 := hS.rep.blk.cell 0
  have hown := hS.rep.own
  simp only [List.getElem?_toArray, List.getElem?_cons_zero, List.getElem?_cons_succ] at c0
  have hll : (l ++ numB s.size).length ≤ l.length + 10 := by simp; omega
  have hb1 : (l ++ numB s.size).length + s.size ≤ maxLen := by unfold maxLen; omega
  have hb2 : (l ++ numB s.size).length + s.size ≤ 140737488355328 := by omega
  generalize hd : l ++ numB s.size = d at *
  have HD := Lib.hid hd
  clear hd
  go_wp2_with (at_builtin; refine wpList_append_str_new rfl _ _ 30 9 rfl 5 i0 Try.underlying30 Try.underlying9 hi0 hz0 hz1 hz2 _ _ _ rfl hown s rfl hb1 hb2 ?_)
  intro v' w3 hown3 hg3 hf3
  obtain ⟨pv, cv, rfl⟩ := ownsRow_slice hown3
  have hb3 := hS.blk1 hg3
  have c03 := hb3.cell 0
  have f03 := hb3.frozen 0
  simp only [List.getElem?_toArray, List.getElem?_cons_zero, List.getElem?_cons_succ] at c03
  rw [strCells_u8s, ← u8s_append] at hown3
  have hS3 := hS.put hown3 (by simp) hg3 hf3
  clear hS hown hown3 hg3 hf3 hb3 c0 h1
  go_wp2_with fail
  go_end0
  refine ⟨rfl, ?_⟩
  rw [← List.append_assoc, HD.out]
  exact Next.trans ht hf hS3.next
end Go.Proofs.Ytkkhcpknldlpoaa

namespace Go.Proofs.Ytkkhcpknldlpoaa
set_option maxRecDepth 4000
set_option linter.unusedVariables false
set_option linter.unusedSimpArgs false
open Go Go.RowKit
/-- a reader: its bytes, how many were read, what went wrong -/
structure Rd where
  b : List UInt8
  at_ : Nat
  err : Int
def Rd.fail (s : Rd) (e : Int) : Rd := if s.err = 0 then { s with err := e } else s
structure RRep (W : World) (r g c : Nat) (s : Rd) : Prop where
  blk : Blk W r 124 #[.slice (some ⟨g, 0, none⟩) s.b.length c, .int .i64 s.at_, .int .i64 s.err]
  own : W.ownsRow 0 5 1 (.slice (some ⟨g, 0, none⟩) s.b.length c) s.b.length (u8s s.b)
  le : s.at_ ≤ s.b.length
  sm : s.b.length ≤ 70368744177664
def RFoot (r g k : Nat) : Prop := k = r ∨ k = g
def rA (r : Nat) (s : Rd) : Asr := fun W F => ∃ g c, RRep W r g c s ∧ F = RFoot r g
section
variable {W W' : World} {r g c : Nat} {s : Rd} {F : Nat → Prop}
theorem RRep.glt (h : RRep W r g c s) : g < W.heap.size := (h.own.lt g rfl).2
theorem RRep.ne (h : RRep W r g c s) : r ≠ g := fun e => row_ne h.blk (by decide) h.own (by rw [e]; rfl)
theorem RRep.capge (h : RRep W r g c s) : s.b.length ≤ c := by
  rcases h.own.2 with ⟨hv, _⟩ | ⟨g', cap, cur, hv, _, _, hc, _⟩
  · injection hv with h1; cases h1
  · injection hv with _ _ h3; rw [h3]; exact hc
theorem RRep.keep (h : RRep W r g c s) (hk : ∀ k, RFoot r g k → W'.heap[k]? = W.heap[k]?) : RRep W' r g c s :=
  ⟨h.blk.of_eq (hk r (Or.inl rfl)), ownsRow_same h.own fun k hg => hk k (Or.inr (by simpa [Value.ownBlock] using hg.symm)), h.le, h.sm⟩
theorem RRep.ext (h : RRep W r g c s) (hE : Ext W W') : RRep W' r g c s := h.keep (by rintro k (rfl | rfl); exact hE.block _ h.blk.lt; exact hE.block _ h.glt)
theorem rA_loc (r : Nat) (s : Rd) : Loc (rA r s) := by
  constructor
  · rintro W W' F ⟨g, c, h, rfl⟩ hk
    exact ⟨g, c, h.keep hk, rfl⟩
  · rintro W F k ⟨g, c, h, rfl⟩ (rfl | rfl)
    · exact h.blk.lt
    · exact h.glt
theorem RRep.a (h : RRep W r g c s) : rA r s W (RFoot r g) := ⟨g, c, h, rfl⟩
theorem RRep.c0 (h : RRep W r g c s) : W.cell? ⟨r, 0, none⟩ = some (.slice (some ⟨g, 0, none⟩) s.b.length c) := h.blk.cell 0
theorem RRep.c1 (h : RRep W r g c s) : W.cell? ⟨r, 1, none⟩ = some (.int .i64 s.at_) := h.blk.cell 1
theorem RRep.c2 (h : RRep W r g c s) : W.cell? ⟨r, 2, none⟩ = some (.int .i64 s.err) := h.blk.cell 2
theorem RRep.byte (h : RRep W r g c s) (i : Nat) (hi : i < s.b.length) : W.cell? ⟨g, i, none⟩ = some (.int .u8 ((s.b.getD i 0).toNat : Int)) := by
  have := h.own.cells (g := g) rfl i (.int .u8 ((s.b.getD i 0).toNat : Int)) (by
    rw [u8s, List.getElem?_map, List.getElem?_eq_getElem hi, List.getD_eq_getElem?_getD, List.getElem?_eq_getElem hi]; rfl)
  rw [Go.WideShapes.add_plain] at this
  simpa using this
/-- what was read, or went wrong, is noted -/
theorem RRep.set2 (h : RRep W r g c s) (e : Int) : RRep (W.setCell ⟨r, 2, none⟩ (.int .i64 e)) r g c { s with err := e } :=
  ⟨by simpa using h.blk.set_ 2 (.int .i64 e), ownsRow_same h.own fun k hk => Below.heap_setCell _ _ _ _ (fun e' => h.ne (by simp [Value.ownBlock] at hk; rw [hk]; exact e'.symm)), h.le, h.sm⟩
theorem RRep.set1 (h : RRep W r g c s) (n : Nat) (hn : n ≤ s.b.length) : RRep (W.setCell ⟨r, 1, none⟩ (.int .i64 n)) r g c { s with at_ := n } :=
  ⟨by simpa using h.blk.set_ 1 (.int .i64 n), ownsRow_same h.own fun k hk => Below.heap_setCell _ _ _ _ (fun e' => h.ne (by simp [Value.ownBlock] at hk; rw [hk]; exact e'.symm)), hn, h.sm⟩
theorem tch_set (h : RRep W r g c s) (i : Nat) (v : Value) : Tch (RFoot r g) W (W.setCell ⟨r, i, none⟩ v) := (Tch.refl _ _).setCell (fun _ => Or.inl rfl) _
theorem rnext (h : RRep W' r g c s) (ht : Tch (RFoot r g) W W') : Next (RFoot r g) W W' (rA r s) := ⟨_, h.a, ht, fun _ h => Or.inl h⟩
end
section
variable {W : World} {r g c : Nat} {s : Rd} {F : Nat → Prop}
theorem rerr_any (h : rA r s W F) : Calls Try.prog 68 #[.pointer (some ⟨r, 0, none⟩)] W fun e W' => e = .returned (.int .i64 s.err) ∧ W = W' := by
  obtain ⟨g, c, h, rfl⟩ := h
  have c2 := h.c2
  go_enter Try.func68, Try.ntmps68
  go_wp2_with fail
  go_ret
  exact ⟨rfl, rfl⟩
theorem rat_any (h : rA r s W F) : Calls Try.prog 66 #[.pointer (some ⟨r, 0, none⟩)] W fun e W' => e = .returned (.int .i64 s.at_) ∧ W = W' := by
  obtain ⟨g, c, h, rfl⟩ := h
  have c1 := h.c1
  go_enter Try.func66, Try.ntmps66
  go_wp2_with fail
  go_ret
  exact ⟨rfl, rfl⟩
def Rd.left (s : Rd) : Nat := if s.err = 0 then s.b.length - s.at_ else 0
def Rd.end_ (s : Rd) : Int := if s.err = 0 ∧ s.at_ < s.b.length then 8 else s.err
theorem rend_any (h : rA r s W F) : Calls Try.prog 51 #[.pointer (some ⟨r, 0, none⟩)] W fun e W' => e = .returned (.int .i64 s.end_) ∧ Ext W W' := by
  obtain ⟨g, c, h, rfl⟩ := h
  have c0 := h.c0
  have c1 := h.c1
  have c2 := h.c2
  have hle := h.le
  have hsm := h.sm
  by_cases he : s.err = 0
  · by_cases hlt : s.at_ < s.b.length
    · have HS := Lib.hid (show s.end_ = 8 from if_pos ⟨he, hlt⟩)
      rw [he] at c2
      clear he h
      have hd : decide (s.at_ < s.b.length) = true := decide_eq_true hlt
      go_enter Try.func51, Try.ntmps51
      go_wp2_with fail
      go_quiet (fail)
      go_wp2_with fail
      go_ret
      exact ⟨ret_int (by rw [HS.out]), (Ext.refl _).drewN _⟩
    · have HS := Lib.hid (show s.end_ = 0 by unfold Rd.end_; rw [if_neg (fun h => hlt h.2)]; exact he)
      rw [he] at c2
      clear he h
      have hd : decide (s.at_ < s.b.length) = false := decide_eq_false hlt
      go_enter Try.func51, Try.ntmps51
      go_wp2_with fail
      go_quiet (fail)
      go_wp2_with fail
      go_ret
      exact ⟨ret_int (by rw [HS.out]), (Ext.refl _).drewN _⟩
  · have HS := Lib.hid (show s.end_ = s.err from if_neg (fun h => he h.1))
    have hn2 : (s.err == 0) = false := by simp [he]
    clear h
    go_enter Try.func51, Try.ntmps51
    go_wp2_with fail
    go_quiet (fail)
    go_wp2_with fail
    go_ret
    exact ⟨ret_int (by rw [HS.out]), (Ext.refl _).drewN _⟩
theorem rfail_rep (h : RRep W r g c s) (e : Int) : Calls Try.prog 50 #[.pointer (some ⟨r, 0, none⟩), .int .i64 e] W fun e' W' => e' = .returned (.tuple #[]) ∧ RRep W' r g c (s.fail e) ∧ Tch (RFoot r g) W W' := by
  have c2 := h.c2
  have f2 := h.blk.frozen 2
  by_cases he : s.err = 0
  · have hs : s.fail e = { s with err := e } := if_pos he
    rw [hs]
    have H2 := h.set2 e
    have ht := tch_set h 2 (.int .i64 e)
    rw [he] at c2
    clear hs he h
    go_enter Try.func50, Try.ntmps50
    go_wp2_with fail
    go_end0
    exact ⟨rfl, H2, ht⟩
  · have hs : s.fail e = s := if_neg he
    rw [hs]
    have hn2 : (s.err == 0) = false := by simp [he]
    go_enter Try.func50, Try.ntmps50
    go_wp2_with fail
    go_end0
    exact ⟨rfl, h, Tch.refl _ _⟩
theorem rfail_any (h : rA r s W F) (e : Int) : Calls Try.prog 50 #[.pointer (some ⟨r, 0, none⟩), .int .i64 e] W fun e' W' => e' = .returned (.tuple #[]) ∧ Next F W W' (rA r (s.fail e)) := by
  obtain ⟨g, c, h, rfl⟩ := h
  exact (rfail_rep h e).mono fun _ _ ⟨h1, h2, h3⟩ => ⟨h1, rnext h2 h3⟩
end
end Go.Proofs.Ytkkhcpknldlpoaa

namespace Go.Proofs.Ytkkhcpknldlpoaa
set_option maxRecDepth 4000
set_option linter.unusedVariables false
set_option linter.unusedSimpArgs false
open Go Go.RowKit
section
variable {W : World} {r g c : Nat} {s : Rd} {F : Nat → Prop}
theorem take_err (h : RRep W r g c s) (he : s.err ≠ 0) (n : Int) : Calls Try.prog 69 #[.pointer (some ⟨r, 0, none⟩), .int .i64 n] W fun e' W' => e' = .returned (.slice none 0 0) ∧ W = W' := by
  have c2 := h.c2
  have hn1 : (s.err != 0) = true := by simp [he]
  have hn2 : (s.err == 0) = false := by simp [he]
  go_enter Try.func69, Try.ntmps69
  go_wp2_with fail
  go_ret
  exact ⟨rfl, rfl⟩
theorem take_short (h : RRep W r g c s) (he : s.err = 0) (n : Nat) (hn : s.b.length < s.at_ + n) (hn2 : n ≤ 70368744177664) :
    Calls Try.prog 69 #[.pointer (some ⟨r, 0, none⟩), .int .i64 n] W fun e' W' => e' = .returned (.slice none 0 0) ∧ RRep W' r g c { s with err := 6 } ∧ Tch (RFoot r g) W W' := by
  have c0 := h.c0
  have c1 := h.c1
  have c2 := h.c2
  rw [he] at c2
  have hle := h.le
  have hsm := h.sm
  have hf : s.fail 6 = { s with err := 6 } := if_pos he
  have HE := Lib.hid he
  clear he
  have hd : decide ((s.b.length : Int) - s.at_ < n) = true := by simp; omega
  go_enter Try.func69, Try.ntmps69
  go_wp2_with fail
  go_quiet (fail)
  go_wp2_with fail
  refine (rfail_rep (h.ext ((Ext.refl _).drewN _)) 6).mono ?_
  rintro e w2 ⟨rfl, h2, ht⟩
  rw [hf] at h2
  clear c0 c1 c2 h hd
  go_wp2_with fail
  go_ret
  exact ⟨rfl, h2, (Tch.of_ext (S := RFoot r g) ((Ext.refl _).drewN _)).trans ht (fun _ h _ => h)⟩
theorem take_some (h : RRep W r g c s) (he : s.err = 0) (n : Nat) (h0 : 0 < n) (hn : s.at_ + n ≤ s.b.length) :
    Calls Try.prog 69 #[.pointer (some ⟨r, 0, none⟩), .int .i64 n] W fun e' W' => e' = .returned (.slice (some ⟨g, s.at_, none⟩) n (c - s.at_)) ∧ RRep W' r g c { s with at_ := s.at_ + n } ∧ Tch (RFoot r g) W W' := by
  have c0 := h.c0
  have c1 := h.c1
  have c2 := h.c2
  have f1 := h.blk.frozen 1
  rw [he] at c2
  have hle := h.le
  have hsm := h.sm
  have hc := h.capge
  have hcm : c ≤ maxLen := by
    rcases h.own.2 with ⟨hv, _⟩ | ⟨g', cap, cur, hv, _, _, _, hm, _⟩
    · injection hv with h1; cases h1
    · injection hv with _ _ h3; rw [h3]; exact hm
  unfold maxLen at hcm
  have HE := Lib.hid he
  clear he
  have hd : decide ((s.b.length : Int) - s.at_ < n) = false := by simp; omega
  go_enter Try.func69, Try.ntmps69
  go_wp2_with fail
  go_quiet (fail)
  go_wp2_with fail
  have H2 := (h.ext ((Ext.refl W).drewN nq)).set1 (s.at_ + n) hn
  have ht : Tch (RFoot r g) W ((W.drewN nq).setCell ⟨r, 1, none⟩ (.int .i64 ((s.at_ + n : Nat) : Int))) := (Tch.of_ext (S := RFoot r g) ((Ext.refl W).drewN nq)).trans (tch_set (h.ext ((Ext.refl W).drewN nq)) 1 _) (fun _ h _ => h)
  have e1 : ((s.at_ + n : Nat) : Int) = (s.at_ : Int) + n := by simp
  rw [e1] at H2 ht
  generalize World.setCell _ _ _ = W2 at *
  clear c0 c1 c2 f1 h hd e1
  have c0 := H2.c0
  have c1 := H2.c1
  simp only at c0 c1
  have hcn : ¬ (c = s.at_) := by omega
  have e2 : ((s.at_ : Int) + n - n) = s.at_ := by omega
  have e3 : ((s.at_ + n : Nat) : Int) = (s.at_ : Int) + n := by simp
  rw [e3] at c1
  clear e3
  go_quiet (fail)
  go_wp2_with fail
  go_ret
  exact ⟨by rw [Nat.add_sub_cancel_left]; rfl, H2.ext ((Ext.refl _).drewN _), ht.drewN _⟩
theorem take_zero (h : RRep W r g c s) (he : s.err = 0) :
    Calls Try.prog 69 #[.pointer (some ⟨r, 0, none⟩), .int .i64 0] W fun e' W' => (∃ o c', e' = .returned (.slice (some ⟨g, o, none⟩) 0 c')) ∧ RRep W' r g c s ∧ Tch (RFoot r g) W W' := by
  have c0 := h.c0
  have c1 := h.c1
  have c2 := h.c2
  have f1 := h.blk.frozen 1
  rw [he] at c2
  have hle := h.le
  have hsm := h.sm
  have hc := h.capge
  have hcm : c ≤ maxLen := by
    rcases h.own.2 with ⟨hv, _⟩ | ⟨g', cap, cur, hv, _, _, _, hm, _⟩
    · injection hv with h1; cases h1
    · injection hv with _ _ h3; rw [h3]; exact hm
  unfold maxLen at hcm
  have HE := Lib.hid he
  clear he
  have hd : decide ((s.b.length : Int) - s.at_ < 0) = false := by simp; omega
  go_enter Try.func69, Try.ntmps69
  go_wp2_with fail
  go_quiet (fail)
  go_wp2_with fail
  have H2 := (h.ext ((Ext.refl W).drewN nq)).set1 s.at_ hle
  have ht : Tch (RFoot r g) W ((W.drewN nq).setCell ⟨r, 1, none⟩ (.int .i64 s.at_)) := (Tch.of_ext (S := RFoot r g) ((Ext.refl W).drewN nq)).trans (tch_set (h.ext ((Ext.refl W).drewN nq)) 1 _) (fun _ h _ => h)
  generalize World.setCell _ _ _ = W2 at *
  clear c0 c1 c2 f1 h hd
  have c0 := H2.c0
  have c1 := H2.c1
  simp only at c0 c1
  by_cases hcn : c = s.at_
  · go_quiet (fail)
    go_wp2_with fail
    go_ret
    exact ⟨⟨_, _, rfl⟩, H2.ext ((Ext.refl _).drewN _), ht.drewN _⟩
  · go_quiet (fail)
    go_wp2_with fail
    go_ret
    exact ⟨⟨_, _, rfl⟩, H2.ext ((Ext.refl _).drewN _), ht.drewN _⟩
def Rd.byte (s : Rd) : Nat × Rd := if s.err = 0 then (if s.at_ < s.b.length then ((s.b.getD s.at_ 0).toNat, { s with at_ := s.at_ + 1 }) else (0, { s with err := 6 })) else (0, s)
theorem Rd.byte_lt (s : Rd) : s.byte.1 < 256 := by
  unfold Rd.byte
  split
  · split
    · exact UInt8.toNat_lt _
    · show 0 < 256; omega
  · show 0 < 256; omega
theorem rbyte_rep (h : RRep W r g c s) : Calls Try.prog 49 #[.pointer (some ⟨r, 0, none⟩)] W fun e' W' => e' = .returned (.int .u8 s.byte.1) ∧ RRep W' r g c s.byte.2 ∧ Tch (RFoot r g) W W' := by
  by_cases he : s.err = 0
  · by_cases hlt : s.at_ < s.b.length
    · have hs : s.byte = ((s.b.getD s.at_ 0).toNat, { s with at_ := s.at_ + 1 }) := by unfold Rd.byte; rw [if_pos he, if_pos hlt]
      rw [hs]
      go_enter Try.func49, Try.ntmps49
      go_wp2_with fail
      refine (take_some h he 1 (by omega) (by omega)).mono ?_
      rintro e w2 ⟨rfl, h2, ht⟩
      have hb := h2.byte s.at_ hlt
      simp only at hb
      have HE := Lib.hid he
      clear hs he h
      go_wp2_with fail
      go_ret
      exact ⟨ret_int (by rw [List.getD_eq_getElem?_getD, List.getElem?_eq_getElem hlt]; rfl), h2, ht⟩
    · have hs : s.byte = (0, { s with err := 6 }) := by unfold Rd.byte; rw [if_pos he, if_neg hlt]
      rw [hs]
      go_enter Try.func49, Try.ntmps49
      go_wp2_with fail
      refine (take_short h he 1 (by omega) (by omega)).mono ?_
      rintro e w2 ⟨rfl, h2, ht⟩
      have HE := Lib.hid he
      clear hs he h
      go_wp2_with fail
      go_ret
      exact ⟨rfl, h2, ht⟩
  · have hs : s.byte = (0, s) := if_neg he
    rw [hs]
    go_enter Try.func49, Try.ntmps49
    go_wp2_with fail
    refine (take_err h he 1).mono ?_
    rintro e w2 ⟨rfl, rfl⟩
    clear hs he
    go_wp2_with fail
    go_ret
    exact ⟨rfl, h, Tch.refl _ _⟩
theorem rbyte_any (h : rA r s W F) : Calls Try.prog 49 #[.pointer (some ⟨r, 0, none⟩)] W fun e' W' => e' = .returned (.int .u8 s.byte.1) ∧ Next F W W' (rA r s.byte.2) := by
  obtain ⟨g, c, h, rfl⟩ := h
  exact (rbyte_rep h).mono fun _ _ ⟨h1, h2, h3⟩ => ⟨h1, rnext h2 h3⟩
end
end Go.Proofs.Ytkkhcpknldlpoaa

namespace Go.Proofs.Ytkkhcpknldlpoaa
set_option maxRecDepth 4000
set_option linter.unusedVariables false
set_option linter.unusedSimpArgs false
open Go Go.RowKit
/-- a number's bytes from the k-th on, n so far -/
def Rd.numGo : Nat → Nat → Nat → Rd → Nat × Rd
  | 0, _, _, s => (0, s)
  | f + 1, k, n, s =>
    if s.byte.2.err ≠ 0 then (0, s.byte.2)
    else if (k = 9 ∧ 1 < s.byte.1) ∨ (0 < k ∧ s.byte.1 = 0) then (0, s.byte.2.fail 8)
    else if s.byte.1 < 128 then (n + s.byte.1 % 128 * 2 ^ (7 * k), s.byte.2)
    else Rd.numGo f (k + 1) (n + s.byte.1 % 128 * 2 ^ (7 * k)) s.byte.2
def Rd.num (most : Nat) (s : Rd) : Nat × Rd :=
  if (Rd.numGo 10 0 0 s).2.err ≠ 0 then (0, (Rd.numGo 10 0 0 s).2) else if most < (Rd.numGo 10 0 0 s).1 then (0, (Rd.numGo 10 0 0 s).2.fail 2) else Rd.numGo 10 0 0 s
theorem shl_sum (k m y : Nat) (hm : m < 2 ^ (7 * k)) (hy : y < 128) : m + y * 2 ^ (7 * k) < 2 ^ (7 * (k + 1)) := by
  have e : 2 ^ (7 * (k + 1)) = 128 * 2 ^ (7 * k) := by rw [show 7 * (k + 1) = 7 + 7 * k by omega, Nat.pow_add]
  rw [e]
  have : (y + 1) * 2 ^ (7 * k) ≤ 128 * 2 ^ (7 * k) := Nat.mul_le_mul_right _ (by omega)
  rw [Nat.add_mul] at this
  omega
theorem shl_lt (k x : Nat) (hk : k ≤ 9) (h : k ≤ 8 ∨ x % 128 ≤ 1) : x % 128 * 2 ^ (7 * k) ≤ 9223372036854775808 := by
  rcases h with h | h
  · have h1 : 2 ^ (7 * k) ≤ 2 ^ 56 := Nat.pow_le_pow_right (by omega) (by omega)
    exact Nat.le_trans (Nat.mul_le_mul (show x % 128 ≤ 128 by omega) h1) (by decide)
  · have h1 : 2 ^ (7 * k) ≤ 2 ^ 63 := Nat.pow_le_pow_right (by omega) (by omega)
    exact Nat.le_trans (Nat.mul_le_mul h h1) (by decide)
theorem sum_lt (k m x : Nat) (hk : k ≤ 9) (hm : m < 2 ^ (7 * k)) (h : k ≤ 8 ∨ x % 128 ≤ 1) : m + x % 128 * 2 ^ (7 * k) < 18446744073709551616 := by
  have h1 := shl_lt k x hk h
  have h2 : 2 ^ (7 * k) ≤ 2 ^ 63 := Nat.pow_le_pow_right (by omega) (by omega)
  omega
theorem or_shift (k m x : Nat) (hk : k ≤ 9) (hm : m < 2 ^ (7 * k)) (h : k ≤ 8 ∨ x % 128 ≤ 1) : bits .or .u64 (m : Int) (IntKind.u64.wrap ((x : Int) % 128 * 2 ^ (7 * k))) = ((m + x % 128 * 2 ^ (7 * k) : Nat) : Int) := by
  have h1 := shl_lt k x hk h
  have h2 : 2 ^ (7 * k) ≤ 2 ^ 63 := Nat.pow_le_pow_right (by omega) (by omega)
  have e : IntKind.u64.wrap ((x : Int) % 128 * 2 ^ (7 * k)) = ((x % 128 * 2 ^ (7 * k) : Nat) : Int) := by
    have e1 : (x : Int) % 128 * 2 ^ (7 * k) = ((x % 128 * 2 ^ (7 * k) : Nat) : Int) := by simp
    rw [e1, IntKind.wrap_u64]; omega
  rw [e, or_nat_u64 _ _ (by omega) (by omega), Nat.or_comm, Nat.mul_comm, ← Nat.two_pow_add_eq_or_of_lt hm]
  congr 1
  omega
section
variable {W : World} {r g c : Nat} {s : Rd} {F : Nat → Prop}
def NumIs (r g c : Nat) (s : Rd) (W : World) (n sh : Value) (wr : World) : Prop :=
  ∃ (k m : Nat) (s' : Rd), k ≤ 9 ∧ m < 2 ^ (7 * k) ∧ n = .int .u64 m ∧ sh = .int .i64 (7 * (k : Int)) ∧ Rd.numGo 10 0 0 s = Rd.numGo (10 - k) k m s' ∧ RRep wr r g c s' ∧ Tch (RFoot r g) W wr
set_option maxRecDepth 100000 in
set_option maxHeartbeats 8000000 in
theorem rnum_rep (h : RRep W r g c s) (most : Nat) (hm : most < 18446744073709551616) : Calls Try.prog 46 #[.pointer (some ⟨r, 0, none⟩), .int .u64 most] W fun e' W' => e' = .returned (.int .u64 (s.num most).1) ∧ RRep W' r g c (s.num most).2 ∧ Tch (RFoot r g) W W' := by
  have hT := Tch.refl (RFoot r g) W
  go_enter Try.func46, Try.ntmps46
  go_wp2_with fail
  go_loopw [5, 6] (fun n sh wr => NumIs r g c s W n sh wr) (fun _ sh _ => (70 - intOf sh).toNat)
  case atStart => exact ⟨0, 0, s, by omega, by simp, rfl, rfl, rfl, h, hT⟩
  case round =>
    clear h hT
    obtain ⟨k, m, s', hk, hmk, rfl, rfl, hgo, h, hT⟩ := hrel
    go_wp2_with fail
    refine (rbyte_rep h).mono ?_
    rintro e w2 ⟨rfl, h2, ht2⟩
    have hx := s'.byte_lt
    have hgo2 : Rd.numGo (10 - k) k m s' = if s'.byte.2.err ≠ 0 then (0, s'.byte.2)
        else if (k = 9 ∧ 1 < s'.byte.1) ∨ (0 < k ∧ s'.byte.1 = 0) then (0, s'.byte.2.fail 8)
        else if s'.byte.1 < 128 then (m + s'.byte.1 % 128 * 2 ^ (7 * k), s'.byte.2)
        else Rd.numGo (10 - (k + 1)) (k + 1) (m + s'.byte.1 % 128 * 2 ^ (7 * k)) s'.byte.2 := by
      rw [show 10 - k = (10 - (k + 1)) + 1 by omega]; rfl
    replace hgo := hgo.trans hgo2
    replace hT := hT.trans ht2 (fun _ h _ => h)
    clear hgo2 ht2 h
    generalize s'.byte.1 = x at *
    generalize s'.byte.2 = s1 at *
    have c2 := h2.c2
    by_cases he : s1.err = 0
    · rw [if_neg (by simpa using he)] at hgo
      rw [he] at c2
      by_cases hbad : (k = 9 ∧ 1 < x) ∨ (0 < k ∧ x = 0)
      · rw [if_pos hbad] at hgo
        have hnum : s.num most = (0, s1.fail 8) := by
          have h8 : (s1.fail 8).err = 8 := by unfold Rd.fail; rw [if_pos he]
          unfold Rd.num; rw [hgo, if_pos (by rw [h8]; decide)]
        have HN := Lib.hid hnum
        clear hgo hnum he
        by_cases hb1 : k = 9 ∧ 1 < x
        · obtain ⟨hk9, hx1⟩ := hb1
          have f1 : (7 * (k : Int) == 63) = true := by simp; omega
          have f2 : (1 : Int) < x := by omega
          have HK := Lib.hid hk9
          clear hk9 hbad
          go_wp2_with fail
          refine (rfail_rep h2 8).mono ?_
          rintro e w3 ⟨rfl, h3, ht3⟩
          clear h2 c2
          go_wp2_with fail
          go_ret
          exact ⟨by rw [HN.out]; rfl, by rw [HN.out]; exact h3, hT.trans ht3 (fun _ h _ => h)⟩
        · have hb2 : 0 < k ∧ x = 0 := hbad.resolve_left hb1
          obtain ⟨hk0, rfl⟩ := hb2
          have f3 : 0 < 7 * (k : Int) := by omega
          by_cases hk9 : k = 9
          · have f1 : (7 * (k : Int) == 63) = true := by simp; omega
            have HK := Lib.hid hk9
            clear hk9 hbad hb1
            go_wp2_with fail
            refine (rfail_rep h2 8).mono ?_
            rintro e w3 ⟨rfl, h3, ht3⟩
            clear h2 c2
            go_wp2_with fail
            go_ret
            exact ⟨by rw [HN.out]; rfl, by rw [HN.out]; exact h3, hT.trans ht3 (fun _ h _ => h)⟩
          · have f1 : (7 * (k : Int) == 63) = false := by simp; omega
            clear hk9 hbad hb1
            go_wp2_with fail
            refine (rfail_rep h2 8).mono ?_
            rintro e w3 ⟨rfl, h3, ht3⟩
            clear h2 c2
            go_wp2_with fail
            go_ret
            exact ⟨by rw [HN.out]; rfl, by rw [HN.out]; exact h3, hT.trans ht3 (fun _ h _ => h)⟩
      · rw [if_neg hbad] at hgo
        have hor := or_shift k m x hk hmk (by
          rcases Nat.lt_or_ge k 9 with h | h
          · exact Or.inl (by omega)
          · refine Or.inr ?_
            have : ¬ 1 < x := fun h1 => hbad (Or.inl ⟨by omega, h1⟩)
            omega)
        have hsum := shl_sum k m (x % 128) hmk (by omega)
        have hs64 := sum_lt k m x hk hmk (by
          rcases Nat.lt_or_ge k 9 with h | h
          · exact Or.inl (by omega)
          · refine Or.inr ?_
            have : ¬ 1 < x := fun h1 => hbad (Or.inl ⟨by omega, h1⟩)
            omega)
        have hand := u8_and_low x hx
        generalize hn' : m + x % 128 * 2 ^ (7 * k) = n' at *
        by_cases hl : x < 128
        · rw [if_pos hl] at hgo
          by_cases hmost : most < n'
          · have hnum : s.num most = (0, s1.fail 2) := by
              unfold Rd.num; rw [hgo, if_neg (by simpa using he), if_pos hmost]
            have HN := Lib.hid hnum
            clear hgo hnum he hn' hsum
            by_cases hk9 : k = 9
            · have f1 : (7 * (k : Int) == 63) = true := by simp; omega
              have f2 : ¬ (1 : Int) < x := by
                have : ¬ 1 < x := fun h1 => hbad (Or.inl ⟨hk9, h1⟩)
                omega
              have f3 : 0 < 7 * (k : Int) := by omega
              have f4 : ((x : Int) == 0) = false := by
                have : x ≠ 0 := fun h1 => hbad (Or.inr ⟨by omega, h1⟩)
                simp; omega
              have HK := Lib.hid hk9
              clear hk9 hbad
              go_wp2_with fail
              refine (rfail_rep h2 2).mono ?_
              rintro e w3 ⟨rfl, h3, ht3⟩
              clear h2 c2
              go_wp2_with fail
              go_ret
              exact ⟨by rw [HN.out]; rfl, by rw [HN.out]; exact h3, hT.trans ht3 (fun _ h _ => h)⟩
            · by_cases hk0 : k = 0
              · have f1 : (7 * (k : Int) == 63) = false := by simp; omega
                have f3 : ¬ 0 < 7 * (k : Int) := by omega
                have HK := Lib.hid hk0
                clear hk9 hk0 hbad
                go_wp2_with fail
                refine (rfail_rep h2 2).mono ?_
                rintro e w3 ⟨rfl, h3, ht3⟩
                clear h2 c2
                go_wp2_with fail
                go_ret
                exact ⟨by rw [HN.out]; rfl, by rw [HN.out]; exact h3, hT.trans ht3 (fun _ h _ => h)⟩
              · have f1 : (7 * (k : Int) == 63) = false := by simp; omega
                have f3 : 0 < 7 * (k : Int) := by omega
                have f4 : ((x : Int) == 0) = false := by
                  have : x ≠ 0 := fun h1 => hbad (Or.inr ⟨by omega, h1⟩)
                  simp; omega
                clear hk9 hk0 hbad
                go_wp2_with fail
                refine (rfail_rep h2 2).mono ?_
                rintro e w3 ⟨rfl, h3, ht3⟩
                clear h2 c2
                go_wp2_with fail
                go_ret
                exact ⟨by rw [HN.out]; rfl, by rw [HN.out]; exact h3, hT.trans ht3 (fun _ h _ => h)⟩
          · have hnum : s.num most = (n', s1) := by
              unfold Rd.num; rw [hgo, if_neg (by simpa using he), if_neg hmost]
            have HN := Lib.hid hnum
            clear hgo hnum he hn' hsum
            by_cases hk9 : k = 9
            · have f1 : (7 * (k : Int) == 63) = true := by simp; omega
              have f2 : ¬ (1 : Int) < x := by
                have : ¬ 1 < x := fun h1 => hbad (Or.inl ⟨hk9, h1⟩)
                omega
              have f3 : 0 < 7 * (k : Int) := by omega
              have f4 : ((x : Int) == 0) = false := by
                have : x ≠ 0 := fun h1 => hbad (Or.inr ⟨by omega, h1⟩)
                simp; omega
              have HK := Lib.hid hk9
              clear hk9 hbad
              go_wp2_with fail
              go_ret
              exact ⟨by rw [HN.out]; rfl, by rw [HN.out]; exact h2, hT⟩
            · by_cases hk0 : k = 0
              · have f1 : (7 * (k : Int) == 63) = false := by simp; omega
                have f3 : ¬ 0 < 7 * (k : Int) := by omega
                have HK := Lib.hid hk0
                clear hk9 hk0 hbad
                go_wp2_with fail
                go_ret
                exact ⟨by rw [HN.out]; rfl, by rw [HN.out]; exact h2, hT⟩
              · have f1 : (7 * (k : Int) == 63) = false := by simp; omega
                have f3 : 0 < 7 * (k : Int) := by omega
                have f4 : ((x : Int) == 0) = false := by
                  have : x ≠ 0 := fun h1 => hbad (Or.inr ⟨by omega, h1⟩)
                  simp; omega
                clear hk9 hk0 hbad
                go_wp2_with fail
                go_ret
                exact ⟨by rw [HN.out]; rfl, by rw [HN.out]; exact h2, hT⟩
        · rw [if_neg hl] at hgo
          have HG := Lib.hid hgo
          have hk8 : k ≤ 8 := by
            rcases Nat.lt_or_ge k 9 with h | h
            · omega
            · exact absurd (Or.inl ⟨by omega, by omega⟩) hbad
          clear hgo he hn'
          by_cases hk9 : k = 9
          · have f1 : (7 * (k : Int) == 63) = true := by simp; omega
            have f2 : ¬ (1 : Int) < x := by
              have : ¬ 1 < x := fun h1 => hbad (Or.inl ⟨hk9, h1⟩)
              omega
            have f3 : 0 < 7 * (k : Int) := by omega
            have f4 : ((x : Int) == 0) = false := by
              have : x ≠ 0 := fun h1 => hbad (Or.inr ⟨by omega, h1⟩)
              simp; omega
            have HK := Lib.hid hk9
            clear hk9 hbad
            first
              | (exfalso; have := HK.out; omega)
              | (go_wp2_with fail
                 exact ⟨⟨k + 1, n', s1, by omega, hsum, rfl, by go_num, HG.out, h2, hT⟩, by simp [intOf]; omega⟩)
          · by_cases hk0 : k = 0
            · have f1 : (7 * (k : Int) == 63) = false := by simp; omega
              have f3 : ¬ 0 < 7 * (k : Int) := by omega
              have HK := Lib.hid hk0
              clear hk9 hk0 hbad
              first
                | (exfalso; have := HK.out; omega)
                | (go_wp2_with fail
                   exact ⟨⟨k + 1, n', s1, by omega, hsum, rfl, by go_num, HG.out, h2, hT⟩, by simp [intOf]; omega⟩)
            · have f1 : (7 * (k : Int) == 63) = false := by simp; omega
              have f3 : 0 < 7 * (k : Int) := by omega
              have f4 : ((x : Int) == 0) = false := by
                have : x ≠ 0 := fun h1 => hbad (Or.inr ⟨by omega, h1⟩)
                simp; omega
              clear hk9 hk0 hbad
              first
                | (exfalso; have := HK.out; omega)
                | (go_wp2_with fail
                   exact ⟨⟨k + 1, n', s1, by omega, hsum, rfl, by go_num, HG.out, h2, hT⟩, by simp [intOf]; omega⟩)
    · rw [if_pos he] at hgo
      have hnum : s.num most = (0, s1) := by
        unfold Rd.num; rw [hgo, if_pos he]
      have HN := Lib.hid hnum
      have e1 : (s1.err != 0) = true := by simp [he]
      have e2 : (s1.err == 0) = false := by simp [he]
      clear hgo hnum he
      go_wp2_with fail
      go_ret
      exact ⟨by rw [HN.out]; rfl, by rw [HN.out]; exact h2, hT⟩
end
end Go.Proofs.Ytkkhcpknldlpoaa

namespace Go.Proofs.Ytkkhcpknldlpoaa
set_option maxRecDepth 4000
set_option linter.unusedVariables false
set_option linter.unusedSimpArgs false
open Go Go.RowKit
theorem Rd.numGo_lt : ∀ (f k n : Nat) (s : Rd), k + f = 10 → n < 2 ^ (7 * k) → (Rd.numGo f k n s).1 < 18446744073709551616
  | 0, _, _, _, _, _ => by simp [Rd.numGo]
  | f + 1, k, n, s, hk, hn => by
    unfold Rd.numGo
    split
    · simp
    · split
      · simp
      · rename_i hbad
        have hb : k ≤ 8 ∨ s.byte.1 % 128 ≤ 1 := by
          rcases Nat.lt_or_ge k 9 with h | h
          · exact Or.inl (by omega)
          · refine Or.inr ?_
            have : ¬ 1 < s.byte.1 := fun h1 => hbad (Or.inl ⟨by omega, h1⟩)
            omega
        split
        · exact sum_lt k n _ (by omega) hn hb
        · exact Rd.numGo_lt f (k + 1) _ _ (by omega) (shl_sum k n _ hn (by omega))
theorem Rd.num_le (m : Nat) (s : Rd) : (s.num m).1 ≤ m := by
  unfold Rd.num
  split
  · simp
  · split
    · simp
    · omega
theorem Rd.num_lt (m : Nat) (s : Rd) : (s.num m).1 < 18446744073709551616 := by
  unfold Rd.num
  split
  · simp
  · split
    · simp
    · exact Rd.numGo_lt 10 0 0 s rfl (by simp)
def Rd.takeL (n : Nat) (s : Rd) : List UInt8 × Rd :=
  if s.err = 0 then (if s.at_ + n ≤ s.b.length then ((s.b.drop s.at_).take n, { s with at_ := s.at_ + n }) else ([], { s with err := 6 })) else ([], s)
def zagI (n : Nat) : Int := if n % 2 = 0 then ((n / 2 : Nat) : Int) else -((n / 2 : Nat) : Int) - 1
theorem u64_and_one (n : Nat) (hn : n < 18446744073709551616) : bits .and .u64 (n : Int) 1 = ((n % 2 : Nat) : Int) := by
  have := and_nat_u64 n 1 hn (by omega)
  rw [Nat.and_one_is_mod] at this
  exact this
theorem xor_ones64 (a : Nat) (ha : a < 9223372036854775808) : bits .xor .i64 (a : Int) (-1) = -(a : Int) - 1 := by
  show IntKind.i64.wrap ((BitVec.ofInt 64 (a : Int) ^^^ BitVec.ofInt 64 (-1)).toNat : Int) = _
  have e1 : BitVec.ofInt 64 (-1) = BitVec.allOnes 64 := by decide
  have e2 : (BitVec.ofInt 64 (a : Int)).toNat = a := by
    rw [BitVec.ofInt_natCast, BitVec.toNat_ofNat]; exact Nat.mod_eq_of_lt (by omega)
  rw [e1, BitVec.xor_allOnes, BitVec.toNat_not, e2, IntKind.wrap_i64]
  omega
theorem xor_zero64 (a : Nat) (ha : a < 9223372036854775808) : bits .xor .i64 (a : Int) 0 = (a : Int) := by
  show IntKind.i64.wrap ((BitVec.ofInt 64 (a : Int) ^^^ BitVec.ofInt 64 0).toNat : Int) = _
  have e1 : BitVec.ofInt 64 0 = 0#64 := by decide
  have e2 : (BitVec.ofInt 64 (a : Int)).toNat = a := by
    rw [BitVec.ofInt_natCast, BitVec.toNat_ofNat]; exact Nat.mod_eq_of_lt (by omega)
  rw [e1, BitVec.xor_zero, e2, IntKind.wrap_i64]
  omega
theorem zag_any (n : Nat) (w : World) (hn : n < 18446744073709551616) : Calls Try.prog 80 #[.int .u64 n] w fun e w' => e = .returned (.int .i64 (zagI n)) ∧ w = w' := by
  have ha := u64_and_one n hn
  have x0 := xor_zero64 (n / 2) (by omega)
  have x1 := xor_ones64 (n / 2) (by omega)
  rcases (show n % 2 = 0 ∨ n % 2 = 1 by omega) with h | h
  · have hz : zagI n = ((n / 2 : Nat) : Int) := if_pos h
    have HZ := Lib.hid hz
    rw [h] at ha
    clear hz h x1
    go_enter Try.func80, Try.ntmps80
    go_wp2_with fail
    go_ret
    exact ⟨ret_int (by rw [HZ.out]; exact x0), rfl⟩
  · have hz : zagI n = -((n / 2 : Nat) : Int) - 1 := if_neg (by omega)
    have HZ := Lib.hid hz
    rw [h] at ha
    clear hz h x0
    go_enter Try.func80, Try.ntmps80
    go_wp2_with fail
    go_ret
    exact ⟨ret_int (by rw [HZ.out]; exact x1), rfl⟩
theorem conv_bytes (w : World) (b o c : Nat) (l : List UInt8) (h : ∀ i, i < l.length → w.cell? ⟨b, o + i, none⟩ = some (.int .u8 ((l.getD i 0).toNat : Int))) :
    (convert 30 9 (.slice (some ⟨b, o, none⟩) l.length c)).run Try.prog w = .ok (.string (strOf l)) w :=
  conv_str Try.underlying30 Try.underlying5 Try.underlying9 w b o c l h
section
variable {W : World} {r g c : Nat} {s : Rd} {F : Nat → Prop}
theorem rnum_any (h : rA r s W F) (most : Nat) (hm : most < 18446744073709551616) : Calls Try.prog 46 #[.pointer (some ⟨r, 0, none⟩), .int .u64 most] W fun e' W' => e' = .returned (.int .u64 (s.num most).1) ∧ Next F W W' (rA r (s.num most).2) := by
  obtain ⟨g, c, h, rfl⟩ := h
  exact (rnum_rep h most hm).mono fun _ _ ⟨h1, h2, h3⟩ => ⟨h1, rnext h2 h3⟩
theorem rint_any (h : rA r s W F) : Calls Try.prog 75 #[.pointer (some ⟨r, 0, none⟩)] W fun e' W' => e' = .returned (.int .i64 (zagI (s.num 18446744073709551615).1)) ∧ Next F W W' (rA r (s.num 18446744073709551615).2) := by
  obtain ⟨g, c, h, rfl⟩ := h
  have hl := s.num_lt 18446744073709551615
  have hN := rnum_rep h 18446744073709551615 (by omega)
  generalize (s.num 18446744073709551615).1 = n at *
  generalize (s.num 18446744073709551615).2 = s2 at *
  go_enter Try.func75, Try.ntmps75
  go_wp2_with fail
  refine hN.mono ?_
  rintro e w2 ⟨rfl, h2, ht⟩
  clear hN
  go_wp2_with fail
  refine (zag_any n _ hl).mono ?_
  rintro e w3 ⟨rfl, rfl⟩
  go_wp2_with fail
  go_ret
  exact ⟨rfl, rnext h2 ht⟩
theorem take_bytes (h : RRep W r g c s) (n o : Nat) (hn : o + n ≤ s.b.length) : ∀ i, i < ((s.b.drop o).take n).length → W.cell? ⟨g, o + i, none⟩ = some (.int .u8 ((((s.b.drop o).take n).getD i 0).toNat : Int)) := by
  intro i hi
  have hl : ((s.b.drop o).take n).length = n := by simp; omega
  rw [hl] at hi
  rw [h.byte (o + i) (by omega)]
  congr 3
  rw [List.getD_eq_getElem?_getD, List.getD_eq_getElem?_getD, List.getElem?_take, if_pos hi, List.getElem?_drop]
def Rd.text (s : Rd) : List UInt8 × Rd := (s.num 4096).2.takeL (s.num 4096).1
theorem rtext_any (h : rA r s W F) : Calls Try.prog 48 #[.pointer (some ⟨r, 0, none⟩)] W fun e' W' => e' = .returned (.string (strOf s.text.1)) ∧ Next F W W' (rA r s.text.2) := by
  obtain ⟨g, c, h, rfl⟩ := h
  unfold Rd.text
  have hl := s.num_le 4096
  have hN := rnum_rep h 4096 (by omega)
  generalize (s.num 4096).1 = n at *
  generalize (s.num 4096).2 = s2 at *
  clear h
  by_cases he : s2.err = 0
  · by_cases hb : s2.at_ + n ≤ s2.b.length
    · have ht0 : s2.takeL n = ((s2.b.drop s2.at_).take n, { s2 with at_ := s2.at_ + n }) := by unfold Rd.takeL; rw [if_pos he, if_pos hb]
      rw [ht0]
      clear ht0
      have hlen : ((s2.b.drop s2.at_).take n).length = n := by simp; omega
      have HL := Lib.hid hlen
      have HE := Lib.hid he
      clear hlen he
      by_cases hn0 : n = 0
      · subst hn0
        go_enter Try.func48, Try.ntmps48
        go_wp2_with fail
        refine hN.mono ?_
        rintro e w2 ⟨rfl, h2, ht⟩
        clear hN
        go_wp2_with fail
        refine (take_zero h2 HE.out).mono ?_
        rintro e w3 ⟨⟨o, c', rfl⟩, h3, ht3⟩
        have hcv := conv_bytes w3 g o c' [] (fun i hi => absurd hi (by simp))
        simp only [List.length_nil] at hcv
        clear h2
        go_wp2_with fail
        go_ret
        exact ⟨rfl, rnext h3 (ht.trans ht3 (fun _ h _ => h))⟩
      · go_enter Try.func48, Try.ntmps48
        go_wp2_with fail
        refine hN.mono ?_
        rintro e w2 ⟨rfl, h2, ht⟩
        clear hN
        go_wp2_with fail
        refine (take_some h2 HE.out n (by omega) hb).mono ?_
        rintro e w3 ⟨rfl, h3, ht3⟩
        have hcv := conv_bytes w3 g s2.at_ (c - s2.at_) ((s2.b.drop s2.at_).take n) (take_bytes h3 n s2.at_ hb)
        rw [HL.out] at hcv
        clear h2
        go_wp2_with fail
        go_ret
        exact ⟨rfl, rnext h3 (ht.trans ht3 (fun _ h _ => h))⟩
    · have ht0 : s2.takeL n = ([], { s2 with err := 6 }) := by unfold Rd.takeL; rw [if_pos he, if_neg hb]
      rw [ht0]
      clear ht0
      have HE := Lib.hid he
      clear he
      go_enter Try.func48, Try.ntmps48
      go_wp2_with fail
      refine hN.mono ?_
      rintro e w2 ⟨rfl, h2, ht⟩
      clear hN
      go_wp2_with fail
      refine (take_short h2 HE.out n (by omega) (by omega)).mono ?_
      rintro e w3 ⟨rfl, h3, ht3⟩
      have hcv := run_convert_bytes_nil (P := Try.prog) w3 30 5 Try.underlying30 Try.underlying5 0 0 9 Try.underlying9
      clear h2
      go_wp2_with fail
      go_ret
      exact ⟨rfl, rnext h3 (ht.trans ht3 (fun _ h _ => h))⟩
  · have ht0 : s2.takeL n = ([], s2) := if_neg he
    rw [ht0]
    clear ht0
    go_enter Try.func48, Try.ntmps48
    go_wp2_with fail
    refine hN.mono ?_
    rintro e w2 ⟨rfl, h2, ht⟩
    clear hN
    go_wp2_with fail
    refine (take_err h2 he n).mono ?_
    rintro e w3 ⟨rfl, rfl⟩
    have hcv := run_convert_bytes_nil (P := Try.prog) w2 30 5 Try.underlying30 Try.underlying5 0 0 9 Try.underlying9
    clear he
    go_wp2_with fail
    go_ret
    exact ⟨rfl, rnext h2 ht⟩
end
end Go.Proofs.Ytkkhcpknldlpoaa

namespace Go.Proofs.Ytkkhcpknldlpoaa
set_option maxRecDepth 4000
set_option linter.unusedVariables false
set_option linter.unusedSimpArgs false
open Go Go.RowKit
def ReadIs (W : World) (bs : List UInt8) (e : Ending) (W' : World) : Prop :=
  ∃ r F, e = .returned (.pointer (some ⟨r, 0, none⟩)) ∧ rA r ⟨bs, 0, 0⟩ W' F ∧ (∀ k, F k → W.heap.size ≤ k) ∧ Ext W W'
theorem read_any (W : World) (p : Option Addr) (c : Nat) (bs : List UInt8) (hN : NumsAt .u8 W p (byI bs)) (hp : p = none → bs.length = 0 ∧ c = 0) (hlen : bs.length ≤ 70368744177664) :
    Calls Try.prog 45 #[.slice p bs.length c] W fun e W' => ReadIs W bs e W' := by
  obtain ⟨i0, hi0, hz0, hz1, hz2⟩ := info_parts u8Info
  have hE := ext_alloc W (.cells #[] 5)
  have hlit := World.ownsRow_made (base := 0) (e := 5) (size := 1) W #[] 0 (Nat.zero_le _) (by simp) rfl
  have hb1 : 0 + bs.length ≤ maxLen := by unfold maxLen; omega
  have hb2 : (0 + bs.length) * 1 ≤ 140737488355328 := by omega
  go_enter Try.func45, Try.ntmps45
  go_wp2_with (at_builtin; refine wpList_append_new rfl _ _ 30 rfl 5 i0 (.int .u8 0) 1 1 Try.underlying30 hi0 hz0 hz1 hz2 rfl (by decide) _ 0 [] rfl hlit p bs.length c (u8s bs) rfl (u8s_length bs ▸ (Nat.mul_one _).symm) hp (news_at (hN.ext hE)) (u8s_one bs) hb1 hb2 ?_)
  intro v' w3 hown3 hg3 hf3
  obtain ⟨pv', cv', rfl⟩ := ownsRow_slice hown3
  have hE3 : Ext W w3 := hE.grown hg3 (by simp) (fun k hk => by simp [Value.ownBlock] at hk; omega)
  have hnn := hf3.2 (by simp [Value.ownBlock])
  obtain ⟨g, rfl⟩ : ∃ g, pv' = some ⟨g, 0, none⟩ := by
    rcases hown3.2 with ⟨hv, _⟩ | ⟨g, cap, cur, hv, _⟩
    · rw [hv] at hnn; exact absurd rfl hnn
    · injection hv with h1; exact ⟨g, h1⟩
  have hgb : W.heap.size ≤ g := by
    rcases hf3.1 g rfl with h1 | h1
    · simp [Value.ownBlock] at h1; omega
    · simp at h1; omega
  clear hg3 hf3 hlit hnn
  go_wp2_with fail
  go_ret
  refine ⟨w3.heap.size, RFoot w3.heap.size g, rfl, ⟨g, cv', ⟨?_, ?_, by simp, hlen⟩, rfl⟩, ?_, hE3.alloc _⟩
  · simpa using Blk.new w3 124 #[.slice (some ⟨g, 0, none⟩) bs.length cv', .int .i64 0, .int .i64 0]
  · simpa using ownsRow_ext hown3 (ext_alloc w3 _)
  · rintro k (rfl | rfl)
    · exact hE3.le
    · exact hgb
end Go.Proofs.Ytkkhcpknldlpoaa

namespace Go.Proofs.Ytkkhcpknldlpoaa
set_option maxRecDepth 4000
set_option linter.unusedVariables false
set_option linter.unusedSimpArgs false
open Go Go.RowKit
theorem wA_new (W : World) : wA W.heap.size [] (W.alloc (.cells #[.slice none 0 0] 78)) (WFoot W.heap.size (.slice none 0 0)) :=
  ⟨_, ⟨Blk.new _ _ _, World.ownsRow_nil _ _ _ _⟩, rfl⟩
theorem Has.writer {w W : World} {ps : List Asr} (h : Has w W ps) (hl : Locs ps) : Has w (W.alloc (.cells #[.slice none 0 0] 78)) (wA W.heap.size [] :: ps) :=
  h.add hl (ext_alloc _ _) (wA_new W) (by rintro k (rfl | hk); exact Nat.le_refl _; simp [Value.ownBlock] at hk)
theorem wint_lit {W : World} {q : Nat} {l : List UInt8} {F : Nat → Prop} (h : wA q l W F) (n : Int) (t : TypeId) (hn : -9223372036854775808 ≤ n ∧ n ≤ 9223372036854775807) (hlen : l.length + 10 ≤ 70368744177664) :
    Calls Try.prog 63 #[.pointer (some ⟨q, 0, none⟩), .slice (some ⟨W.heap.size, 0, none⟩) 1 1] (W.alloc (.cells #[.int .i64 n] t)) fun e W' => e = .returned (.tuple #[]) ∧ Next F W W' (wA q (l ++ numB (zigN n))) := by
  have hl := wA_loc q l
  have h2 := hl.ext h (ext_alloc W (.cells #[.int .i64 n] t))
  refine (wint_any h2 (some ⟨W.heap.size, 0, none⟩) 1 [n] (numsAt_lit .i64 W n t) (fun a ha hf => ?_) (by simpa using hn) (by simpa using hlen)).mono ?_
  · injection ha with ha
    subst ha
    exact Nat.lt_irrefl _ (hl.lt h hf)
  · rintro e W' ⟨rfl, hN⟩
    exact ⟨rfl, by simpa using Next.ext_left (ext_alloc _ _) hN⟩
theorem bytesAt_own {W : World} {b : Nat} {p : Option Addr} {c : Nat} {l : List UInt8} (h : W.ownsRow b 5 1 (.slice p l.length c) l.length (u8s l)) : NumsAt .u8 W p (byI l) := by
  intro i hi
  rw [byI_length] at hi
  obtain ⟨a, rfl, hc⟩ := ownsRow_cell h i hi
  refine ⟨a, rfl, ?_, ?_⟩
  · have := World.block_lt_of_cell? W _ hc
    have hb : (a.add i).block = a.block := by unfold Addr.add; first | rfl | (split <;> rfl)
    rwa [hb] at this
  · rw [hc, u8s_byI, List.getD_eq_getElem?_getD, List.getD_eq_getElem?_getD, List.getElem?_map, List.getElem?_eq_getElem (by rw [byI_length]; exact hi)]
    rfl
theorem Has.reader {w W W' : World} {ps : List Asr} {bs : List UInt8} {e : Ending} (h : Has w W ps) (hl : Locs ps) (hr : ReadIs W bs e W') : ∃ r, e = .returned (.pointer (some ⟨r, 0, none⟩)) ∧ Has w W' (rA r ⟨bs, 0, 0⟩ :: ps) := by
  obtain ⟨r, F, rfl, h1, h2, h3⟩ := hr
  exact ⟨r, rfl, h.add hl h3 h1 h2⟩
theorem own_conv {W : World} {b : Nat} {p : Option Addr} {c : Nat} {l : List UInt8} (h : W.ownsRow b 5 1 (.slice p l.length c) l.length (u8s l)) :
    (convert 30 9 (.slice p l.length c)).run Try.prog W = .ok (.string (strOf l)) W := by
  have hb := bytesAt_own h
  rcases h.2 with ⟨hv, hn⟩ | ⟨g, cap, cur, hv, _⟩
  · injection hv with h1 h2 h3
    subst h1 h3
    have hl : l = [] := List.eq_nil_of_length_eq_zero hn
    subst hl
    exact run_convert_bytes_nil (P := Try.prog) W 30 5 Try.underlying30 Try.underlying5 0 0 9 Try.underlying9
  · injection hv with h1 h2 h3
    subst h1
    refine conv_bytes W g 0 c l fun i hi => ?_
    obtain ⟨a, ha, _, hc⟩ := hb i (by rw [byI_length]; exact hi)
    injection ha with ha
    subst ha
    rw [Go.WideShapes.add_plain] at hc
    rw [hc]
    congr 2
    rw [byI, List.getD_eq_getElem?_getD, List.getD_eq_getElem?_getD, List.getElem?_map, List.getElem?_eq_getElem hi]; rfl
theorem conv_zero (w : World) (a : Addr) (c : Nat) : (convert 30 9 (.slice (some a) 0 c)).run Try.prog w = .ok (.string (strOf [])) w := by
  rw [run_convert_bytes_string w 30 9 5 _ 0 c Try.underlying30 Try.underlying5 Try.underlying9, run_bytesToString w a 0 c [] (by simp [loadCells, loadCellsFrom])]
  rfl
theorem conv_at {w : World} {p : Option Addr} {c : Nat} {l : List UInt8} (h : NumsAt .u8 w p (byI l)) (hp : p = none → l.length = 0 ∧ c = 0) :
    (convert 30 9 (.slice p l.length c)).run Try.prog w = .ok (.string (strOf l)) w := by
  cases p with
  | none =>
    obtain ⟨h1, rfl⟩ := hp rfl
    have hl : l = [] := List.eq_nil_of_length_eq_zero h1
    subst hl
    exact run_convert_bytes_nil (P := Try.prog) w 30 5 Try.underlying30 Try.underlying5 0 0 9 Try.underlying9
  | some a =>
    cases l with
    | nil => exact conv_zero w a c
    | cons x l =>
      obtain ⟨a', ha, _, hc⟩ := h 0 (by simp [byI])
      injection ha with ha
      subst ha
      obtain ⟨g, o, sp⟩ := a
      have hsp : sp = none := by simpa [Addr.add] using World.cell?_spot hc
      subst hsp
      refine conv_bytes w g o c (x :: l) fun i hi => ?_
      obtain ⟨a', ha, _, hc⟩ := h i (by rw [byI_length]; exact hi)
      injection ha with ha
      subst ha
      rw [Go.WideShapes.add_plain] at hc
      rw [hc]
      congr 2
      rw [byI, List.getD_eq_getElem?_getD, List.getD_eq_getElem?_getD, List.getElem?_map, List.getElem?_eq_getElem hi]; rfl
theorem numsAt_take {k : IntKind} {w : World} {p : Option Addr} {zs : List Int} (h : NumsAt k w p zs) (n : Nat) : NumsAt k w p (zs.take n) := by
  intro i hi
  have hi' : i < zs.length := by simp at hi; omega
  have hn : i < n := by simp at hi; omega
  obtain ⟨a, rfl, h1, h2⟩ := h i hi'
  refine ⟨a, rfl, h1, ?_⟩
  rw [h2]
  congr 2
  rw [List.getD_eq_getElem?_getD, List.getD_eq_getElem?_getD, List.getElem?_take, if_pos hn]
theorem slice_to (X : World) (p : Option Addr) (n c k : Nat) (h : k ≤ c) : (Instr.sliceAt 30 (.slice p n c) none (some (.int .i64 k)) none).run Try.prog X = .ok (.slice p k c) X := by
  have ht : Try.prog.underlying 30 = some (.slice (Try.prog.elem 30)) := by kernel_rfl
  have hs : (sizeOf (Try.prog.elem 30)).run Try.prog X = .ok 1 X := by kernel_rfl
  rw [run_sliceAt_slice (w := X) _ _ _ _ _ ht, run_slice_h (w := X) _ p n c ht .i64 k (by omega) (by omega), hs]
  have h0 : p.map (·.add (0 * 1)) = p := by cases p <;> simp [Addr.add]
  simp [sliced, h0, Result.andThen]
def wroteL : List UInt8 := [172, 2, 1, 2, 97, 98]
theorem wrote_is : ([] ++ numB 300 ++ numB (zigN (-1)) ++ (numB 2 ++ [97, 98])) = wroteL := by
  rw [numB_big (n := 300) (by omega), numB_small (n := 300 / 128) (by omega), numB_small (n := zigN (-1)) (by decide)]
  rfl
theorem read1 : Rd.num 300 ⟨wroteL, 0, 0⟩ = (300, ⟨wroteL, 2, 0⟩) := rfl
theorem read2 : Rd.num 18446744073709551615 ⟨wroteL, 2, 0⟩ = (1, ⟨wroteL, 3, 0⟩) := rfl
theorem read3 : Rd.text ⟨wroteL, 3, 0⟩ = ([97, 98], ⟨wroteL, 6, 0⟩) := rfl
theorem read4 : Rd.end_ ⟨wroteL, 6, 0⟩ = 0 := rfl
end Go.Proofs.Ytkkhcpknldlpoaa

namespace Go.Proofs.Ytkkhcpknldlpoaa
set_option maxRecDepth 4000
set_option linter.unusedVariables false
set_option linter.unusedSimpArgs false
open Go Go.RowKit
def i64b (n : Int) : Prop := -9223372036854775808 ≤ n ∧ n ≤ 9223372036854775807
def Fo.ok : Fo → Prop
  | .nil => True
  | .node k n _ sub r => (i64b k ∧ i64b n) ∧ sub.ok ∧ r.ok
theorem Fo.ok_mem : ∀ {f : Fo} {v : Vl}, f.ok → v ∈ f.vals → i64b v.k ∧ i64b v.n ∧ v.l.ok
  | .nil, v, _, h => by simp [Fo.vals] at h
  | .node k n s sub r, v, ho, h => by
    rw [Fo.vals] at h
    rcases List.mem_cons.1 h with rfl | h
    · exact ⟨ho.1.1, ho.1.2, ho.2.1⟩
    · exact Fo.ok_mem ho.2.2 h
theorem Has.new {w W : World} {ps : List Asr} (h : Has w W ps) (hl : Locs ps) (T : TypeId) (cs : Array Value) : Has w (W.alloc (.cells cs T)) (blkA W.heap.size T cs :: ps) :=
  h.add hl (ext_alloc W _) (F := fun k => k = W.heap.size) ⟨Blk.new W T cs, rfl⟩ (fun k hk => by omega)
theorem Has.blk0 {w W : World} {g : Nat} {T : TypeId} {cs : Array Value} {ps : List Asr} (h : Has w W (blkA g T cs :: ps)) : Blk W g T cs := by
  obtain ⟨F, hF⟩ := h.head
  exact hF.1
theorem kindB_nat (k : Int) : ((kindB k).toNat : Int) = k % 256 := by
  unfold kindB
  have h : (k % 256).toNat < 256 := by omega
  rw [UInt8.toNat_ofNat_of_lt' h]
  omega
theorem one_u8 (W : World) (x : UInt8) : NumsAt .u8 (W.alloc (.cells #[.int .u8 x.toNat] 5)) (some ⟨W.heap.size, 0, none⟩) (byI [x]) := by
  intro i hi
  have hi0 : i = 0 := by rw [byI_length] at hi; simpa using hi
  subst hi0
  refine ⟨_, rfl, by simp, ?_⟩
  exact news_new W [.int .u8 x.toNat] 5 _ rfl 0 _ rfl
def WrRel (w : World) (q : Nat) (l : List UInt8) (v : Vl) (bx : Nat) (cs : Array Value) (ps : List Asr) (k : Value) (wr : World) : Prop :=
  ∃ i : Nat, k = .int .i64 i ∧ i ≤ v.l.vals.length ∧ Has w wr (wA q (l ++ (v.l.vals.take i).flatMap Vl.bytes) :: blkA bx 62 cs :: ps)
theorem flat_le {vs : List Vl} {x : Vl} {i : Nat} (h : i < vs.length) (hx : vs[i] = x) : ((vs.take i).flatMap Vl.bytes).length + x.bytes.length ≤ (vs.flatMap Vl.bytes).length := by
  have h1 : vs = vs.take i ++ vs[i] :: vs.drop (i + 1) := by rw [← List.drop_eq_getElem_cons, List.take_append_drop]
  have h2 : (vs.flatMap Vl.bytes).length = ((vs.take i).flatMap Vl.bytes).length + (vs[i].bytes.length + ((vs.drop (i + 1)).flatMap Vl.bytes).length) := by
    conv => lhs; rw [h1, List.flatMap_append, List.flatMap_cons, List.length_append, List.length_append]
  rw [hx] at h2
  omega
theorem write_n : ∀ (m : Nat) (v : Vl), v.l.size < m → ∀ (w W : World) (ps : List Asr) (q : Nat) (l : List UInt8) (pl : Option Addr) (c : Nat), Has w W (wA q l :: ps) → Locs ps → VlAt w pl c v → i64b v.k → i64b v.n → v.l.ok →
    l.length + v.bytes.length + 100 ≤ 70368744177664 →
    Calls Try.prog 39 #[.pointer (some ⟨q, 0, none⟩), .agg (v.cells pl c).toArray] W fun e W' => e = .returned (.tuple #[]) ∧ Has w W' (wA q (l ++ v.bytes) :: ps)
  | 0, _, h => by omega
  | m + 1, v, hm => by
    intro w W ps q l pl c hH hl hV hk hn hok hlen
    have ih := write_n m
    have H1 := (hH.new (.cons (wA_loc _ _) hl) 62 (v.cells pl c).toArray).swap
    have L1 : Locs (wA q l :: blkA W.heap.size 62 (v.cells pl c).toArray :: ps) := .cons (wA_loc _ _) (.cons (blkA_loc _ _ _) hl)
    have hN := one_u8 (W.alloc (.cells (v.cells pl c).toArray 62)) (kindB v.k)
    have H2 := H1.ext L1 (ext_alloc _ (.cells #[.int .u8 (kindB v.k).toNat] 5))
    have hsz : (W.alloc (.cells (v.cells pl c).toArray 62)).heap.size = W.heap.size + 1 := by simp
    have hlb : l.length + [kindB v.k].length ≤ 70368744177664 := by simp; omega
    have hby := H2.act (.cons (blkA_loc _ _ _) hl) fun F hF => wbyte_any hF _ 1 [kindB v.k] hN (fun h => by cases h) hlb
    rw [hsz, kindB_nat] at hby
    clear hN H1 hsz
    simp only [Vl.cells] at hby
    go_enter Try.func39, Try.ntmps39
    simp only [Vl.cells]
    go_wp2_with fail
    refine hby.mono ?_
    rintro e w2 ⟨rfl, H3⟩
    clear hby H2 L1
    have hbl := H3.swap.blk0
    have L3 : Locs (wA q (l ++ [kindB v.k]) :: blkA W.heap.size 62 #[.int .i64 v.k, .int .i64 v.n, .string ⟨v.s.toArray⟩, .slice pl v.l.len c] :: ps) := .cons (wA_loc _ _) (.cons (blkA_loc _ _ _) hl)
    have hbe := v.bytes_eq
    have hbb : [kindB v.k].length = 1 := rfl
    generalize W.heap.size = bx at *
    have b0 : w2.cell? ⟨bx, 0, none⟩ = some (.int .i64 v.k) := cell_of_row _ _ 0 _ _ _ hbl
    have b1 : w2.cell? ⟨bx, 1, none⟩ = some (.int .i64 v.n) := cell_of_row _ _ 1 _ _ _ hbl
    have b2 : w2.cell? ⟨bx, 2, none⟩ = some (.string ⟨v.s.toArray⟩) := cell_of_row _ _ 2 _ _ _ hbl
    have b3 : w2.cell? ⟨bx, 3, none⟩ = some (.slice pl v.l.len c) := cell_of_row _ _ 3 _ _ _ hbl
    by_cases k1 : v.k = 1
    · rw [if_pos k1] at hbe
      have HBE := Lib.hid hbe
      have e1 : (v.k == 1) = true := by simpa using k1
      rw [hbe] at hlen
      simp only [List.length_cons, List.length_append] at hlen
      clear hbe
      have hint := H3.actB (.cons (blkA_loc _ _ _) hl) fun F hF _ => wint_lit hF v.n 2 hn (by simp; omega)
      go_wp2_with fail
      refine hint.mono ?_
      rintro e w3 ⟨rfl, H5⟩
      clear hint
      go_wp2_with fail
      go_end0
      refine ⟨rfl, ?_⟩
      rw [HBE.out]
      rw [List.append_assoc] at H5
      exact H5.swap.drop
    by_cases k2 : v.k = 2
    · rw [if_neg k1, if_pos k2] at hbe
      have HBE := Lib.hid hbe
      have e1 : (v.k == 1) = false := by simpa using k1
      have e2 : (v.k == 2) = true := by simpa using k2
      rw [hbe] at hlen
      simp only [List.length_cons, List.length_append] at hlen
      clear hbe
      have htx := H3.act (.cons (blkA_loc _ _ _) hl) fun F hF => wtext_any hF ⟨v.s.toArray⟩ (by show v.s.toArray.size ≤ _; simp; omega) (by simp; omega)
      go_wp2_with fail
      refine htx.mono ?_
      rintro e w3 ⟨rfl, H5⟩
      clear htx
      go_wp2_with fail
      go_end0
      refine ⟨rfl, ?_⟩
      rw [HBE.out]
      rw [List.append_assoc] at H5
      exact H5.swap.drop
    by_cases k3 : v.k = 3
    · rw [if_neg k1, if_neg k2, if_pos k3] at hbe
      have HBE := Lib.hid hbe
      have e1 : (v.k == 1) = false := by simpa using k1
      have e2 : (v.k == 2) = false := by simpa using k2
      have e3 : (v.k == 3) = true := by simpa using k3
      have hvl := v.l.vals_len
      have hbv := v.l.bytes_vals
      rw [hbe] at hlen
      simp only [List.length_cons, List.length_append] at hlen
      clear hbe
      have hcm := hV.cap
      have hcl := hV.len
      unfold Go.maxLen at hcm
      have hnum := H3.actB (.cons (blkA_loc _ _ _) hl) fun F hF _ => wnum_lit hF v.l.len 80 (by omega) (by simp; omega)
      go_wp2_with fail
      refine hnum.mono ?_
      rintro e w3 ⟨rfl, H4⟩
      clear hnum H3 L3 b0 b1 b2 b3 hbl
      have b3 : w3.cell? ⟨bx, 3, none⟩ = some (.slice pl v.l.len c) := cell_of_row _ _ 3 _ _ _ H4.swap.blk0
      go_wp2_with fail
      clear b3
      go_loopw [39] (fun k wr => WrRel w q (l ++ [kindB v.k] ++ numB v.l.len) v bx #[.int .i64 v.k, .int .i64 v.n, .string ⟨v.s.toArray⟩, .slice pl v.l.len c] ps k wr) (fun k _ => ((v.l.len : Int) + 1 - intOf k).toNat)
      case atStart => exact ⟨0, rfl, by omega, by simpa using H4⟩
      case round =>
        clear H4
        obtain ⟨i, rfl, hi, hX⟩ := hrel
        have LX : Locs (wA q (l ++ [kindB v.k] ++ numB v.l.len ++ (v.l.vals.take i).flatMap Vl.bytes) :: blkA bx 62 #[.int .i64 v.k, .int .i64 v.n, .string ⟨v.s.toArray⟩, .slice pl v.l.len c] :: ps) := .cons (wA_loc _ _) (.cons (blkA_loc _ _ _) hl)
        by_cases hlt : i < v.l.vals.length
        · obtain ⟨b, o, q2, c2, rfl, hV2, d0, d1, d2, d3⟩ := hV.fo.get i hlt
          have hmem := List.getElem_mem hlt
          have hsz := Fo.size_mem hmem
          obtain ⟨ok1, ok2, ok3⟩ := Fo.ok_mem hok hmem
          have hfl := flat_le hlt rfl
          have hts : (v.l.vals.take (i + 1)).flatMap Vl.bytes = (v.l.vals.take i).flatMap Vl.bytes ++ v.l.vals[i].bytes := by
            rw [List.take_succ_eq_append_getElem hlt, List.flatMap_append, List.flatMap_cons, List.flatMap_nil, List.append_nil]
          have HTS := Lib.hid hts
          clear hts
          rw [← hbv] at hfl
          generalize v.l.vals[i] = x at *
          replace d0 := cell_ext hX.base d0
          replace d1 := cell_ext hX.base d1
          replace d2 := cell_ext hX.base d2
          replace d3 := cell_ext hX.base d3
          rw [Nat.zero_add, Nat.mul_comm 4 i] at d0 d1 d2 d3
          have i7 : (i : Int) < v.l.len := by omega
          have X2 := hX.ext LX (ext_alloc wr (.cells (x.cells q2 c2).toArray 62))
          have hc := ih x (by omega) _ _ _ _ _ _ _ X2 (.cons (blkA_loc _ _ _) hl) hV2 ok1 ok2 ok3 (by simp only [List.length_append, List.length_cons, List.length_nil]; omega)
          simp only [Vl.cells] at hc
          clear X2 LX hV2 hmem hsz ok1 ok2 ok3 hfl
          go_wp2_with fail
          refine hc.mono ?_
          rintro e w4 ⟨rfl, H5⟩
          clear hc d0 d1 d2 d3
          go_wp2_with fail
          refine ⟨⟨i + 1, by go_num, by omega, ?_⟩, by simp [intOf]; omega⟩
          rw [HTS.out, ← List.append_assoc]
          exact H5
        · have hi' : i = v.l.vals.length := by omega
          have i7 : ¬ (i : Int) < v.l.len := by omega
          go_wp2_with fail
          go_end0
          refine ⟨rfl, ?_⟩
          rw [HBE.out, hbv]
          rw [hi', List.take_of_length_le (Nat.le_refl _)] at hX
          have H9 := hX.swap.drop
          simp only [List.append_assoc, List.cons_append, List.nil_append] at H9 ⊢
          exact H9
    · rw [if_neg k1, if_neg k2, if_neg k3] at hbe
      have HBE := Lib.hid hbe
      have e1 : (v.k == 1) = false := by simpa using k1
      have e2 : (v.k == 2) = false := by simpa using k2
      have e3 : (v.k == 3) = false := by simpa using k3
      clear hbe
      go_wp2_with fail
      go_end0
      refine ⟨rfl, ?_⟩
      rw [HBE.out]
      exact H3.swap.drop
end Go.Proofs.Ytkkhcpknldlpoaa

namespace Go.Proofs.Ytkkhcpknldlpoaa
set_option maxRecDepth 4000
set_option linter.unusedVariables false
set_option linter.unusedSimpArgs false
open Go Go.RowKit
def Vl.walk (v : Vl) (d m : Nat) : Int × Nat :=
  if 256 < m + 1 then (2, m + 1)
  else if v.k = 0 ∨ v.k = 1 then (0, m + 1)
  else if v.k = 2 then (if 256 < v.s.length then 2 else 0, m + 1)
  else if v.k ≠ 3 then (9, m + 1)
  else if 8 ≤ d then (30, m + 1)
  else if 64 < v.l.len then (2, m + 1)
  else v.l.walk (d + 1) (m + 1)
def walkV : List Vl → Nat → Nat → Int × Nat
  | [], _, m => (0, m)
  | v :: r, d, m => if (v.walk d m).1 ≠ 0 then v.walk d m else walkV r d (v.walk d m).2
theorem walk_vals : ∀ (f : Fo) (d m : Nat), f.walk d m = walkV f.vals d m
  | .nil, _, _ => rfl
  | .node k n s sub r, d, m => by
    rw [Fo.walk, Fo.vals, walkV]
    show (if (Vl.walk ⟨k, n, s, sub⟩ d m).1 ≠ 0 then Vl.walk ⟨k, n, s, sub⟩ d m else r.walk d (Vl.walk ⟨k, n, s, sub⟩ d m).2) = _
    rw [walk_vals r]
theorem one_walk (v : Vl) (d m : Nat) : v.one.walk d m = v.walk d m := by
  rw [walk_vals]
  show (if (v.walk d m).1 ≠ 0 then v.walk d m else (0, (v.walk d m).2)) = _
  by_cases h : (v.walk d m).1 = 0
  · rw [if_neg (by simpa using h), ← h]
  · rw [if_pos h]
theorem walkV_take {l : List Vl} {d m i m' : Nat} (hi : i < l.length) (h : walkV (l.take i) d m = (0, m')) :
    (∀ e m2, (l[i].walk d m') = (e, m2) → e ≠ 0 → walkV l d m = (e, m2)) ∧ (∀ m2, (l[i].walk d m') = (0, m2) → walkV (l.take (i + 1)) d m = (0, m2)) := by
  induction l generalizing m i with
  | nil => simp at hi
  | cons v r ih =>
    cases i with
    | zero =>
      simp only [List.take_zero, walkV] at h
      injection h with _ h
      subst h
      constructor
      · intro e m2 h1 h2
        rw [List.getElem_cons_zero] at h1
        rw [walkV, h1, if_pos h2]
      · intro m2 h1
        rw [List.getElem_cons_zero] at h1
        rw [List.take_succ_cons, List.take_zero, walkV, h1, if_neg (by simp), walkV]
    | succ i =>
      rw [List.take_succ_cons, walkV] at h
      by_cases e0 : (v.walk d m).1 = 0
      · rw [if_neg (by simpa using e0)] at h
        obtain ⟨h1, h2⟩ := ih (by simpa using hi) h
        constructor
        · intro e m2 h3 h4
          rw [List.getElem_cons_succ] at h3
          rw [walkV, if_neg (by simpa using e0)]
          exact h1 e m2 h3 h4
        · intro m2 h3
          rw [List.getElem_cons_succ] at h3
          rw [List.take_succ_cons, walkV, if_neg (by simpa using e0)]
          exact h2 m2 h3
      · rw [if_pos e0] at h
        rw [h] at e0
        exact absurd rfl e0
end Go.Proofs.Ytkkhcpknldlpoaa

namespace Go.Proofs.Ytkkhcpknldlpoaa
set_option maxRecDepth 4000
set_option linter.unusedVariables false
set_option linter.unusedSimpArgs false
open Go
/-- a number of which n (less than 2^7k) was read, m is still to come -/
theorem numGo_form : ∀ (f k n : Nat) (s : Rd) (m : Nat) (s' : Rd), k + f = 10 → 0 < f → n < 2 ^ (7 * k) → s.at_ ≤ s.b.length → Rd.numGo f k n s = (m, s') → s'.err = 0 →
    ∃ y, m = n + y * 2 ^ (7 * k) ∧ (0 < k → y ≠ 0) ∧ s'.b = s.b ∧ s.at_ ≤ s'.at_ ∧ s'.at_ ≤ s.b.length ∧ s.b.drop s.at_ = numB y ++ s.b.drop s'.at_ ∧ (numB y).length = s'.at_ - s.at_
  | 0, _, _, _, _, _, _, hf, _, _, _, _ => absurd hf (Nat.lt_irrefl _)
  | f + 1, k, n, s, m, s', hk, _, hn, hle, h, he => by
    have key : ∀ (_ : s.byte.2.err = 0), s.at_ < s.b.length ∧ s.byte = ((s.b.getD s.at_ 0).toNat, { s with at_ := s.at_ + 1 }) := by
      intro he1
      unfold Rd.byte at he1 ⊢
      by_cases h0 : s.err = 0
      · rw [if_pos h0] at he1 ⊢
        by_cases h1 : s.at_ < s.b.length
        · rw [if_pos h1]; exact ⟨h1, rfl⟩
        · rw [if_neg h1] at he1; simp at he1
      · rw [if_neg h0] at he1; exact absurd he1 h0
    unfold Rd.numGo at h
    by_cases he1 : s.byte.2.err = 0
    · obtain ⟨hlt, hb⟩ := key he1
      rw [if_neg (by simpa using he1)] at h
      rw [hb] at h
      simp only at h
      have hx : (s.b.getD s.at_ 0).toNat < 256 := UInt8.toNat_lt _
      have hof : UInt8.ofNat (s.b.getD s.at_ 0).toNat = s.b.getD s.at_ 0 := by simp
      have hdrop := drop_cons s.b 0 s.at_ hlt
      generalize s.b.getD s.at_ 0 = c at *
      generalize c.toNat = x at *
      have hs0 : s.err = 0 := by
        unfold Rd.byte at he1
        by_cases h0 : s.err = 0
        · exact h0
        · rw [if_neg h0] at he1; exact he1
      by_cases hbad : (k = 9 ∧ 1 < x) ∨ (0 < k ∧ x = 0)
      · rw [if_pos hbad] at h
        simp only [Prod.mk.injEq] at h
        obtain ⟨_, rfl⟩ := h
        simp [Rd.fail, hs0] at he
      · rw [if_neg hbad] at h
        by_cases hl : x < 128
        · rw [if_pos hl] at h
          simp only [Prod.mk.injEq] at h
          obtain ⟨rfl, rfl⟩ := h
          refine ⟨x, by rw [Nat.mod_eq_of_lt hl], fun h0 hx0 => hbad (Or.inr ⟨h0, hx0⟩), rfl, by simp, Nat.succ_le_of_lt hlt, ?_, ?_⟩
          · rw [numB_small hl, hof, hdrop]; rfl
          · rw [numB_small hl]; simp
        · rw [if_neg hl] at h
          have hk9 : k < 9 := by
            rcases Nat.lt_or_ge k 9 with h9 | h9
            · exact h9
            · exact absurd (Or.inl ⟨by omega, by omega⟩) hbad
          obtain ⟨y, h1, h2, h3, h4, h5, h6, h7⟩ := numGo_form f (k + 1) _ _ m s' (by omega) (by omega) (shl_sum k n (x % 128) hn (by omega)) (Nat.succ_le_of_lt hlt) h he
          simp only at h3 h4 h5 h6 h7
          have hy := h2 (by omega)
          have hb128 : ¬ (x % 128 + 128 * y) < 128 := by omega
          have hm1 : (x % 128 + 128 * y) % 128 + 128 = x := by omega
          have hd1 : (x % 128 + 128 * y) / 128 = y := by omega
          refine ⟨x % 128 + 128 * y, ?_, fun _ => by omega, h3, by omega, h5, ?_, ?_⟩
          · rw [h1, show 7 * (k + 1) = 7 + 7 * k by omega, Nat.pow_add]
            have : y * (2 ^ 7 * 2 ^ (7 * k)) = 128 * y * 2 ^ (7 * k) := by rw [← Nat.mul_assoc]; congr 1; omega
            rw [this, Nat.add_mul]; omega
          · rw [numB_big hb128, hm1, hd1, hof, hdrop, h6]; rfl
          · rw [numB_big hb128, hd1]; simp; omega
    · rw [if_pos he1] at h
      simp only [Prod.mk.injEq] at h
      obtain ⟨_, rfl⟩ := h
      exact absurd he he1
theorem num_form {most : Nat} {s s' : Rd} {m : Nat} (hle : s.at_ ≤ s.b.length) (h : s.num most = (m, s')) (he : s'.err = 0) :
    s'.b = s.b ∧ s.at_ ≤ s'.at_ ∧ s'.at_ ≤ s.b.length ∧ s.b.drop s.at_ = numB m ++ s.b.drop s'.at_ ∧ (numB m).length = s'.at_ - s.at_ := by
  unfold Rd.num at h
  by_cases h1 : (Rd.numGo 10 0 0 s).2.err = 0
  case neg =>
    rw [if_pos h1] at h
    simp only [Prod.mk.injEq] at h
    obtain ⟨_, rfl⟩ := h
    exact absurd he h1
  · rw [if_neg (by simpa using h1)] at h
    split at h
    · simp only [Prod.mk.injEq] at h
      obtain ⟨_, rfl⟩ := h
      simp [Rd.fail, h1] at he
    · obtain ⟨y, h1, _, h3, h4, h5, h6, h7⟩ := numGo_form 10 0 0 s m s' rfl (by omega) (by simp) hle h he
      have : m = y := by simpa using h1
      subst this
      exact ⟨h3, h4, h5, h6, h7⟩
/-- with any bytes read from the beginning -/
theorem num_front {most : Nat} {b : List UInt8} {s' : Rd} {m : Nat} (h : (⟨b, 0, 0⟩ : Rd).num most = (m, s')) (he : s'.err = 0) : numB m = b.take s'.at_ ∧ s'.at_ ≤ b.length := by
  obtain ⟨_, _, h3, h4, h5⟩ := num_form (s := ⟨b, 0, 0⟩) (by simp) h he
  simp only [List.drop_zero, Nat.sub_zero] at h4 h5 h3
  refine ⟨?_, h3⟩
  rw [h4, List.take_left' h5]
/-- something went wrong: nought -/
theorem num_err {most : Nat} {s : Rd} (he : (s.num most).2.err ≠ 0) : (s.num most).1 = 0 := by
  unfold Rd.num at he ⊢
  split
  · rfl
  · rename_i h1
    rw [if_neg h1] at he
    split
    · rfl
    · rename_i h2
      rw [if_neg h2] at he
      exact absurd he h1
theorem zig_zag (n : Nat) : zigN (zagI n) = n := by
  unfold zigN zagI
  split <;> split <;> omega
end Go.Proofs.Ytkkhcpknldlpoaa

namespace Go.Proofs.Ytkkhcpknldlpoaa
set_option maxRecDepth 4000
set_option linter.unusedVariables false
set_option linter.unusedSimpArgs false
open Go
theorem drop_at {α : Type} {b : List α} {i : Nat} {x : α} {t : List α} (h : b.drop i = x :: t) : i < b.length ∧ b[i]? = some x ∧ b.drop (i + 1) = t := by
  have hl : i < b.length := by
    rcases Nat.lt_or_ge i b.length with h' | h'
    · exact h'
    · rw [List.drop_eq_nil_of_le h'] at h; cases h
  rw [List.drop_eq_getElem_cons hl] at h
  injection h with h1 h2
  exact ⟨hl, by rw [List.getElem?_eq_getElem hl, h1], h2⟩
theorem byte_read {b : List UInt8} {i : Nat} {x : UInt8} {t : List UInt8} (h : b.drop i = x :: t) : (⟨b, i, 0⟩ : Rd).byte = (x.toNat, ⟨b, i + 1, 0⟩) := by
  obtain ⟨h1, h2, _⟩ := drop_at h
  unfold Rd.byte
  rw [if_pos rfl, if_pos h1]
  simp only [List.getD_eq_getElem?_getD, h2, Option.getD_some]
theorem numGo_read {b t : List UInt8} : ∀ (f k n y i : Nat), k + f = 10 → (k = 0 ∨ y ≠ 0) → y < 2 ^ (64 - 7 * k) → 0 < f → b.drop i = numB y ++ t → Rd.numGo f k n ⟨b, i, 0⟩ = (n + y * 2 ^ (7 * k), ⟨b, i + (numB y).length, 0⟩)
  | 0, _, _, _, _, _, _, _, hf, _ => absurd hf (Nat.lt_irrefl _)
  | f + 1, k, n, y, i, hk, h0, hy, _, h => by
    have h9 : k = 9 → y < 2 := by rintro rfl; simpa using hy
    unfold Rd.numGo
    by_cases hs : y < 128
    · rw [numB_small hs] at h ⊢
      have hb := byte_read (t := t) (by simpa using h)
      have hx : (UInt8.ofNat y).toNat = y := by simp; omega
      rw [hb]
      simp only [hx]
      rw [if_neg (by simp), if_neg (by omega), if_pos hs, Nat.mod_eq_of_lt hs]
      simp
    · rw [numB_big hs] at h ⊢
      have hx : (UInt8.ofNat (y % 128 + 128)).toNat = y % 128 + 128 := by
        rw [UInt8.toNat_ofNat']; omega
      generalize UInt8.ofNat (y % 128 + 128) = d at *
      have hb := byte_read (t := numB (y / 128) ++ t) (by simpa using h)
      rw [hb]
      simp only [hx]
      have hk8 : k ≤ 8 := by
        rcases Nat.lt_or_ge 8 k with h' | h'
        · have := h9 (by omega); omega
        · exact h'
      rw [if_neg (by simp), if_neg (by omega), if_neg (by omega)]
      have hp : 2 ^ (64 - 7 * k) = 128 * 2 ^ (64 - 7 * (k + 1)) := by
        rw [show 64 - 7 * k = 7 + (64 - 7 * (k + 1)) by omega, Nat.pow_add]
      have := numGo_read (t := t) f (k + 1) (n + (y % 128 + 128) % 128 * 2 ^ (7 * k)) (y / 128) (i + 1) (by omega) (Or.inr (by omega))
        (by rw [Nat.div_lt_iff_lt_mul (by omega), Nat.mul_comm, ← hp]; exact hy) (by omega) (drop_at h).2.2
      rw [this]
      have e : n + (y % 128 + 128) % 128 * 2 ^ (7 * k) + y / 128 * 2 ^ (7 * (k + 1)) = n + y * 2 ^ (7 * k) := by
        rw [show 7 * (k + 1) = 7 + 7 * k by omega, Nat.pow_add, ← Nat.mul_assoc, Nat.add_assoc, ← Nat.add_mul]
        congr 2; omega
      rw [e]
      simp; omega
theorem num_read {b t : List UInt8} {n most i : Nat} (hn : n < 18446744073709551616) (hle : n ≤ most) (h : b.drop i = numB n ++ t) : Rd.num most ⟨b, i, 0⟩ = (n, ⟨b, i + (numB n).length, 0⟩) := by
  have hg := numGo_read (t := t) 10 0 0 n i rfl (Or.inl rfl) (by simpa using hn) (by omega) h
  unfold Rd.num
  rw [hg]
  simp
  omega
theorem take_read {b x t : List UInt8} {i n : Nat} (hn : n = x.length) (h : b.drop i = x ++ t) (hi : i ≤ b.length) : Rd.takeL n ⟨b, i, 0⟩ = (x, ⟨b, i + x.length, 0⟩) := by
  subst hn
  have hl := congrArg List.length h
  simp only [List.length_drop, List.length_append] at hl
  unfold Rd.takeL
  rw [if_pos rfl, if_pos (show i + x.length ≤ b.length by omega)]
  simp only [h, List.take_left']
theorem drop_drop_at {b x t : List UInt8} {i : Nat} (h : b.drop i = x ++ t) : b.drop (i + x.length) = t := by
  rw [← List.drop_drop, h, List.drop_left']; rfl
theorem text_read {b x t : List UInt8} {i : Nat} (h : b.drop i = (numB x.length ++ x) ++ t) (hi : i ≤ b.length) (hx : x.length ≤ 4096) : Rd.text ⟨b, i, 0⟩ = (x, ⟨b, i + (numB x.length ++ x).length, 0⟩) := by
  rw [List.append_assoc] at h
  unfold Rd.text
  have hl := congrArg List.length h
  simp only [List.length_drop, List.length_append] at hl
  rw [num_read (by omega) hx h]
  simp only
  rw [take_read rfl (drop_drop_at h) (by omega)]
  simp; omega
theorem zag_zig (n : Int) (h1 : -9223372036854775808 ≤ n) (h2 : n ≤ 9223372036854775807) : zagI (zigN n) = n := by
  unfold zigN zagI
  split <;> split <;> omega
end Go.Proofs.Ytkkhcpknldlpoaa

namespace Go.Proofs.Ytkkhcpknldlpoaa
set_option maxRecDepth 4000
set_option linter.unusedVariables false
set_option linter.unusedSimpArgs false
open Go
abbrev RdM (α : Type) := Rd → α × Rd
section
variable {α β : Type}
def rPure (a : α) : RdM α := fun s => (a, s)
def rBind (m : RdM α) (g : α → RdM β) : RdM β := fun s => g (m s).1 (m s).2
def rFail (e : Int) : RdM Unit := fun s => ((), s.fail e)
def rAt : RdM Nat := fun s => (s.at_, s)
def rErr : RdM Int := fun s => (s.err, s)
def Rd.cut (n : Nat) (s : Rd) : Rd := { s with b := s.b.take n }
structure Good (m : RdM α) : Prop where
  same : ∀ s, (m s).2.b = s.b
  stick : ∀ s, s.err ≠ 0 → (m s).2.err = s.err
  le : ∀ s, s.at_ ≤ (m s).2.at_
  len : ∀ s, s.at_ ≤ s.b.length → (m s).2.at_ ≤ s.b.length
  cut : ∀ s n, s.err = 0 → s.at_ ≤ n → n ≤ s.b.length → (m s).2.err = 0 → ((m s).2.at_ ≤ n ∧ m (s.cut n) = ((m s).1, (m s).2.cut n)) ∨ (n < (m s).2.at_ ∧ (m (s.cut n)).2.err = 6)
theorem Good.pure (a : α) : Good (rPure a) := ⟨fun _ => rfl, fun _ _ => rfl, fun _ => Nat.le_refl _, fun _ h => h, fun _ _ _ h _ _ => Or.inl ⟨h, rfl⟩⟩
theorem Good.at : Good rAt := ⟨fun _ => rfl, fun _ _ => rfl, fun _ => Nat.le_refl _, fun _ h => h, fun _ _ _ h _ _ => Or.inl ⟨h, rfl⟩⟩
theorem Good.err : Good rErr := ⟨fun _ => rfl, fun _ _ => rfl, fun _ => Nat.le_refl _, fun _ h => h, fun _ _ _ h _ _ => Or.inl ⟨h, rfl⟩⟩
theorem fail_b (s : Rd) (e : Int) : (s.fail e).b = s.b := by unfold Rd.fail; split <;> rfl
theorem fail_at (s : Rd) (e : Int) : (s.fail e).at_ = s.at_ := by unfold Rd.fail; split <;> rfl
theorem fail_err {s : Rd} {e : Int} (h : s.err ≠ 0) : (s.fail e) = s := if_neg h
theorem fail_ne {s : Rd} {e : Int} (he : e ≠ 0) : (s.fail e).err ≠ 0 := by
  unfold Rd.fail
  split
  · exact he
  · assumption
theorem Good.fail {e : Int} (he : e ≠ 0) : Good (rFail e) :=
  ⟨fun s => fail_b s e, fun s h => by show (s.fail e).err = _; rw [fail_err h], fun s => Nat.le_of_eq (fail_at s e).symm, fun s h => by show (s.fail e).at_ ≤ _; rw [fail_at]; exact h, fun s n _ _ _ h => absurd h (fail_ne he)⟩
theorem Good.err0 {m : RdM α} (h : Good m) {s : Rd} (he : (m s).2.err = 0) : s.err = 0 := by
  by_cases h0 : s.err = 0
  · exact h0
  · rw [h.stick s h0] at he; exact absurd he h0
theorem Good.bind {m : RdM α} {g : α → RdM β} (hm : Good m) (hg : ∀ a, Good (g a)) : Good (rBind m g) where
  same s := ((hg _).same _).trans (hm.same s)
  stick s h := by
    have h1 := hm.stick s h
    show (g _ _).2.err = _
    rw [(hg _).stick _ (by rw [h1]; exact h), h1]
  le s := Nat.le_trans (hm.le s) ((hg _).le _)
  len s h := by
    have := (hg (m s).1).len (m s).2 (by rw [hm.same]; exact hm.len s h)
    rw [hm.same] at this
    exact this
  cut s n h0 h1 h2 h3 := by
    have e1 : (m s).2.err = 0 := (hg _).err0 h3
    rcases hm.cut s n h0 h1 h2 e1 with ⟨h4, h5⟩ | ⟨h4, h5⟩
    · have h6 := (hg (m s).1).cut (m s).2 n e1 h4 (by rw [hm.same]; exact h2) h3
      show (_ ∧ g (m (s.cut n)).1 (m (s.cut n)).2 = _) ∨ (_ ∧ (g (m (s.cut n)).1 (m (s.cut n)).2).2.err = 6)
      rw [h5]
      exact h6
    · refine Or.inr ⟨Nat.lt_of_lt_of_le h4 ((hg _).le _), ?_⟩
      show (g (m (s.cut n)).1 (m (s.cut n)).2).2.err = 6
      rw [(hg _).stick _ (by rw [h5]; decide), h5]
theorem Good.ite {c : Prop} [Decidable c] {m k : RdM α} (h1 : c → Good m) (h2 : ¬ c → Good k) : Good (if c then m else k) := by
  by_cases h : c
  · rw [if_pos h]; exact h1 h
  · rw [if_neg h]; exact h2 h
theorem Good.byte : Good Rd.byte where
  same s := by unfold Rd.byte; split; split <;> rfl; rfl
  stick s h := by unfold Rd.byte; rw [if_neg h]
  le s := by
    unfold Rd.byte
    split
    · split
      · exact Nat.le_succ _
      · exact Nat.le_refl _
    · exact Nat.le_refl _
  len s h := by
    unfold Rd.byte
    split
    · split
      · rename_i h; exact h
      · exact h
    · exact h
  cut s n h0 h1 h2 h3 := by
    unfold Rd.byte at h3 ⊢
    rw [if_pos h0] at h3 ⊢
    by_cases hl : s.at_ < s.b.length
    · rw [if_pos hl]
      have hc0 : (s.cut n).err = 0 := h0
      have hcl : (s.cut n).b.length = n := by show (s.b.take n).length = n; simp; omega
      have hca : (s.cut n).at_ = s.at_ := rfl
      rw [if_pos hc0, hcl, hca]
      by_cases hn : s.at_ < n
      · rw [if_pos hn]
        refine Or.inl ⟨hn, ?_⟩
        have : (s.cut n).b.getD s.at_ 0 = s.b.getD s.at_ 0 := by
          show (s.b.take n).getD s.at_ 0 = _
          rw [List.getD_eq_getElem?_getD, List.getD_eq_getElem?_getD, List.getElem?_take, if_pos hn]
        rw [this]; rfl
      · rw [if_neg hn]
        exact Or.inr ⟨by show n < s.at_ + 1; omega, rfl⟩
    · rw [if_neg hl] at h3; exact absurd h3 (show ¬ (6 : Int) = 0 by decide)
theorem numGo_succ (f k n : Nat) : Rd.numGo (f + 1) k n = rBind Rd.byte fun x => rBind rErr fun e => if e ≠ 0 then rPure 0 else if (k = 9 ∧ 1 < x) ∨ (0 < k ∧ x = 0) then rBind (rFail 8) fun _ => rPure 0 else if x < 128 then rPure (n + x % 128 * 2 ^ (7 * k)) else Rd.numGo f (k + 1) (n + x % 128 * 2 ^ (7 * k)) := by
  funext s
  rw [Rd.numGo]
  unfold rBind rErr
  simp only
  by_cases h1 : s.byte.2.err ≠ 0
  · rw [if_pos h1, if_pos h1]; rfl
  · rw [if_neg h1, if_neg h1]
    by_cases h2 : (k = 9 ∧ 1 < s.byte.1) ∨ (0 < k ∧ s.byte.1 = 0)
    · rw [if_pos h2, if_pos h2]; rfl
    · rw [if_neg h2, if_neg h2]
      by_cases h3 : s.byte.1 < 128
      · rw [if_pos h3, if_pos h3]; rfl
      · rw [if_neg h3, if_neg h3]
theorem Good.numGo : ∀ (f k n : Nat), Good (Rd.numGo f k n)
  | 0, _, _ => Good.pure 0
  | f + 1, k, n => by
    rw [numGo_succ]
    exact Good.byte.bind fun x => Good.err.bind fun e => Good.ite (fun _ => Good.pure _) fun _ => Good.ite (fun _ => (Good.fail (by decide)).bind fun _ => Good.pure _) fun _ => Good.ite (fun _ => Good.pure _) fun _ => Good.numGo f _ _
theorem num_eq (most : Nat) : Rd.num most = rBind (Rd.numGo 10 0 0) fun n => rBind rErr fun e => if e ≠ 0 then rPure 0 else if most < n then rBind (rFail 2) fun _ => rPure 0 else rPure n := by
  funext s
  unfold Rd.num rBind rErr
  simp only
  by_cases h1 : (Rd.numGo 10 0 0 s).2.err ≠ 0
  · rw [if_pos h1, if_pos h1]; rfl
  · rw [if_neg h1, if_neg h1]
    by_cases h2 : most < (Rd.numGo 10 0 0 s).1
    · rw [if_pos h2, if_pos h2]; rfl
    · rw [if_neg h2, if_neg h2]; rfl
theorem Good.num (most : Nat) : Good (Rd.num most) := by
  rw [num_eq]
  exact (Good.numGo _ _ _).bind fun n => Good.err.bind fun e => Good.ite (fun _ => Good.pure _) fun _ => Good.ite (fun _ => (Good.fail (by decide)).bind fun _ => Good.pure _) fun _ => Good.pure _
theorem Good.takeL (k : Nat) : Good (Rd.takeL k) where
  same s := by unfold Rd.takeL; split; split <;> rfl; rfl
  stick s h := by unfold Rd.takeL; rw [if_neg h]
  le s := by
    unfold Rd.takeL
    split
    · split
      · exact Nat.le_add_right _ _
      · exact Nat.le_refl _
    · exact Nat.le_refl _
  len s h := by
    unfold Rd.takeL
    split
    · split
      · rename_i h; exact h
      · exact h
    · exact h
  cut s n h0 h1 h2 h3 := by
    unfold Rd.takeL at h3 ⊢
    rw [if_pos h0] at h3 ⊢
    by_cases hl : s.at_ + k ≤ s.b.length
    · rw [if_pos hl]
      have hc0 : (s.cut n).err = 0 := h0
      have hcl : (s.cut n).b.length = n := by show (s.b.take n).length = n; simp; omega
      have hca : (s.cut n).at_ = s.at_ := rfl
      rw [if_pos hc0, hcl, hca]
      by_cases hn : s.at_ + k ≤ n
      · rw [if_pos hn]
        refine Or.inl ⟨hn, ?_⟩
        have : ((s.cut n).b.drop s.at_).take k = (s.b.drop s.at_).take k := by
          show ((s.b.take n).drop s.at_).take k = _
          rw [List.drop_take, List.take_take, Nat.min_eq_left (by omega)]
        rw [this]; rfl
      · rw [if_neg hn]
        exact Or.inr ⟨by show n < s.at_ + k; omega, rfl⟩
    · rw [if_neg hl] at h3; exact absurd h3 (show ¬ (6 : Int) = 0 by decide)
theorem Good.text : Good Rd.text := (Good.num 4096).bind fun n => Good.takeL n
/-- what is read stands there -/
def Wr (m : RdM α) (P : α → List UInt8 → Prop) : Prop := ∀ s, s.at_ ≤ s.b.length → (m s).2.err = 0 → ∃ l, P (m s).1 l ∧ s.b.drop s.at_ = l ++ s.b.drop (m s).2.at_
theorem Wr.pure {a : α} {P : α → List UInt8 → Prop} (h : P a []) : Wr (rPure a) P := fun _ _ _ => ⟨[], h, rfl⟩
theorem Wr.bind {m : RdM α} {g : α → RdM β} {P : α → List UInt8 → Prop} {Q : β → List UInt8 → Prop} (hm : Good m) (hg : ∀ a, Good (g a)) (h : Wr m P) (h2 : ∀ a l, P a l → Wr (g a) (fun c l' => Q c (l ++ l'))) : Wr (rBind m g) Q := by
  intro s h0 he
  have e1 : (m s).2.err = 0 := (hg _).err0 he
  obtain ⟨l, h3, h4⟩ := h s h0 e1
  obtain ⟨l', h5, h6⟩ := h2 _ l h3 (m s).2 (by rw [hm.same]; exact hm.len s h0) he
  refine ⟨l ++ l', h5, ?_⟩
  rw [hm.same] at h6
  rw [h4, h6, List.append_assoc]; rfl
theorem Wr.mono {m : RdM α} {P Q : α → List UInt8 → Prop} (h : Wr m P) (hpq : ∀ a l, P a l → Q a l) : Wr m Q := fun s h0 he => by
  obtain ⟨l, h3, h4⟩ := h s h0 he
  exact ⟨l, hpq _ _ h3, h4⟩
theorem Wr.ite {c : Prop} [Decidable c] {m k : RdM α} {P : α → List UInt8 → Prop} (h1 : c → Wr m P) (h2 : ¬ c → Wr k P) : Wr (if c then m else k) P := by
  by_cases h : c
  · rw [if_pos h]; exact h1 h
  · rw [if_neg h]; exact h2 h
theorem Wr.fail {e : Int} (he : e ≠ 0) {P : Unit → List UInt8 → Prop} : Wr (rFail e) P := fun _ _ h => absurd h (fail_ne he)
theorem Wr.failed {e : Int} (he : e ≠ 0) {g : Unit → RdM β} (hg : ∀ a, Good (g a)) {P : β → List UInt8 → Prop} : Wr (rBind (rFail e) g) P := fun _ _ h => absurd ((hg _).err0 h) (fail_ne he)
theorem Wr.at : Wr rAt fun _ l => l = [] := fun _ _ _ => ⟨[], rfl, rfl⟩
theorem Wr.err : Wr rErr fun e l => e = 0 ∧ l = [] := fun _ _ h => ⟨[], ⟨h, rfl⟩, rfl⟩
theorem Wr.num (most : Nat) : Wr (Rd.num most) fun n l => l = numB n := fun s h0 he => by
  obtain ⟨_, _, _, h4, _⟩ := num_form (m := (s.num most).1) h0 rfl he
  exact ⟨_, rfl, h4⟩
theorem Wr.byte : Wr Rd.byte fun x l => l = [UInt8.ofNat x] := fun s h0 he => by
  unfold Rd.byte at he ⊢
  by_cases h1 : s.err = 0
  · rw [if_pos h1] at he ⊢
    by_cases h2 : s.at_ < s.b.length
    · rw [if_pos h2] at he ⊢
      refine ⟨_, rfl, ?_⟩
      rw [drop_cons s.b 0 s.at_ h2]
      simp
    · rw [if_neg h2] at he; simp at he
  · rw [if_neg h1] at he; exact absurd he h1
theorem Wr.takeL (n : Nat) : Wr (Rd.takeL n) fun t l => l = t ∧ t.length = n := fun s h0 he => by
  unfold Rd.takeL at he ⊢
  by_cases h1 : s.err = 0
  · rw [if_pos h1] at he ⊢
    by_cases h2 : s.at_ + n ≤ s.b.length
    · rw [if_pos h2] at he ⊢
      refine ⟨_, ⟨rfl, by simp; omega⟩, ?_⟩
      show s.b.drop s.at_ = (s.b.drop s.at_).take n ++ s.b.drop (s.at_ + n)
      rw [← List.drop_drop, List.take_append_drop]
    · rw [if_neg h2] at he; simp at he
  · rw [if_neg h1] at he; exact absurd he h1
theorem Wr.text : Wr Rd.text fun t l => l = numB t.length ++ t :=
  Wr.bind (Good.num 4096) Good.takeL (Wr.num 4096) fun n l hl => (Wr.takeL n).mono fun t l' ⟨h1, h2⟩ => by rw [hl, h1, h2]
/-- what is written is read again -/
def Rb (m : RdM α) (l : List UInt8) (v : α) : Prop := ∀ (b : List UInt8) (i : Nat) (t : List UInt8), b.drop i = l ++ t → i ≤ b.length → m ⟨b, i, 0⟩ = (v, ⟨b, i + l.length, 0⟩)
theorem Rb.pure (v : α) : Rb (rPure v) [] v := fun _ _ _ _ _ => rfl
theorem Rb.bind {m : RdM α} {g : α → RdM β} {l l' : List UInt8} {v : α} {v' : β} (h : Rb m l v) (h2 : Rb (g v) l' v') : Rb (rBind m g) (l ++ l') v' := by
  intro b i t hd hi
  rw [List.append_assoc] at hd
  have h3 := h b i _ hd hi
  have hl := congrArg List.length hd
  simp only [List.length_drop, List.length_append] at hl
  have h4 := h2 b (i + l.length) t (drop_drop_at hd) (by omega)
  show g (m ⟨b, i, 0⟩).1 (m ⟨b, i, 0⟩).2 = _
  rw [h3, h4, List.length_append, Nat.add_assoc]
theorem Rb.bind0 {m : RdM α} {g : α → RdM β} {l : List UInt8} {v : α} {v' : β} (h : Rb m [] v) (h2 : Rb (g v) l v') : Rb (rBind m g) l v' := Rb.bind h h2
theorem Rb.last {m : RdM α} {g : α → RdM β} {l : List UInt8} {v : α} {v' : β} (h : Rb m l v) (h2 : Rb (g v) [] v') : Rb (rBind m g) l v' := by
  have := Rb.bind h h2
  rwa [List.append_nil] at this
theorem Rb.ite_pos {c : Prop} [Decidable c] {m k : RdM α} {l : List UInt8} {v : α} (hc : c) (h : Rb m l v) : Rb (if c then m else k) l v := by rw [if_pos hc]; exact h
theorem Rb.ite_neg {c : Prop} [Decidable c] {m k : RdM α} {l : List UInt8} {v : α} (hc : ¬ c) (h : Rb k l v) : Rb (if c then m else k) l v := by rw [if_neg hc]; exact h
theorem Rb.byte (x : UInt8) : Rb Rd.byte [x] x.toNat := fun _ _ _ h _ => byte_read h
theorem Rb.num {n most : Nat} (hn : n < 18446744073709551616) (hle : n ≤ most) : Rb (Rd.num most) (numB n) n := fun _ _ _ h _ => num_read hn hle h
theorem Rb.text {x : List UInt8} (hx : x.length ≤ 4096) : Rb Rd.text (numB x.length ++ x) x := fun _ _ _ h hi => text_read h hi hx
theorem Rb.err : Rb rErr [] 0 := fun _ _ _ _ _ => rfl
/-- what a reader's program answers, whatever was read -/
def Ret (m : RdM α) (P : α → Prop) : Prop := ∀ s, P (m s).1
theorem Ret.pure {a : α} {P : α → Prop} (h : P a) : Ret (rPure a) P := fun _ => h
theorem Ret.bind {m : RdM α} {g : α → RdM β} {P : α → Prop} {Q : β → Prop} (h : Ret m P) (h2 : ∀ a, P a → Ret (g a) Q) : Ret (rBind m g) Q := fun s => h2 _ (h s) _
theorem Ret.any (m : RdM α) : Ret m fun _ => True := fun _ => trivial
theorem Ret.ite {c : Prop} [Decidable c] {m k : RdM α} {P : α → Prop} (h1 : c → Ret m P) (h2 : ¬ c → Ret k P) : Ret (if c then m else k) P := by
  by_cases h : c
  · rw [if_pos h]; exact h1 h
  · rw [if_neg h]; exact h2 h
/-- so many, one behind the other -/
def rep (m : RdM α) : Nat → RdM (List α)
  | 0 => rPure []
  | n + 1 => rBind (rep m n) fun l => rBind m fun a => rPure (l ++ [a])
theorem Good.rep {m : RdM α} (h : Good m) : ∀ n, Good (rep m n)
  | 0 => Good.pure _
  | n + 1 => (Good.rep h n).bind fun _ => h.bind fun _ => Good.pure _
theorem Wr.rep {m : RdM α} {enc : α → List UInt8} (hg : Good m) (h : Wr m fun a l => l = enc a) : ∀ n, Wr (rep m n) fun x l => l = x.flatMap enc ∧ x.length = n
  | 0 => Wr.pure ⟨rfl, rfl⟩
  | n + 1 => Wr.bind (Good.rep hg n) (fun _ => hg.bind fun _ => Good.pure _) (Wr.rep hg h n) fun x l ⟨h1, h2⟩ => Wr.bind hg (fun _ => Good.pure _) h fun a l' h3 => Wr.pure (by
      subst h1 h2 h3
      simp)
theorem Ret.rep {m : RdM α} {P : α → Prop} (h : Ret m P) : ∀ n, Ret (rep m n) fun x => x.length = n ∧ ∀ a ∈ x, P a
  | 0 => Ret.pure ⟨rfl, fun a h => by cases h⟩
  | n + 1 => Ret.bind (Ret.rep h n) fun x ⟨h1, h2⟩ => Ret.bind h fun a ha => Ret.pure ⟨by simp [h1], fun b hb => by
      rcases List.mem_append.1 hb with hb | hb
      · exact h2 b hb
      · rw [List.mem_singleton.1 hb]; exact ha⟩
theorem Rb.rep {m : RdM α} {γ : Type} {enc : γ → List UInt8} {dec : γ → α} (xs : List γ) (h : ∀ x ∈ xs, Rb m (enc x) (dec x)) : ∀ n, n ≤ xs.length → Rb (rep m n) ((xs.take n).flatMap enc) ((xs.take n).map dec)
  | 0, _ => by rw [List.take_zero]; exact Rb.pure _
  | n + 1, hn => by
    have hlt : n < xs.length := by omega
    rw [List.take_succ_eq_append_getElem hlt, List.flatMap_append, List.map_append]
    refine Rb.bind (Rb.rep xs h n (by omega)) ?_
    rw [List.flatMap_cons, List.flatMap_nil, List.append_nil]
    exact Rb.last (h _ (List.getElem_mem hlt)) (Rb.pure _)
end
/-- no part that its kind doesn't have -/
def Fo.clone : Fo → Fo
  | .nil => .nil
  | .node k n s sub r => .node k (if k = 1 then n else 0) (if k = 2 then s else []) (if k = 3 then sub.clone else .nil) r.clone
def Vl.clone (v : Vl) : Vl := ⟨v.k, if v.k = 1 then v.n else 0, if v.k = 2 then v.s else [], if v.k = 3 then v.l.clone else .nil⟩
theorem Fo.clone_vals : ∀ f : Fo, f.clone.vals = f.vals.map Vl.clone
  | .nil => rfl
  | .node k n s sub r => by
    rw [Fo.clone, Fo.vals, Fo.vals, List.map_cons, Fo.clone_vals r]; rfl
theorem Fo.clone_len : ∀ f : Fo, f.clone.len = f.len
  | .nil => rfl
  | .node _ _ _ _ r => by rw [Fo.clone, Fo.len, Fo.len, Fo.clone_len r]
theorem Fo.clone_bytes : ∀ f : Fo, f.clone.bytes = f.bytes
  | .nil => rfl
  | .node k n s sub r => by
    rw [Fo.clone, Fo.bytes, Fo.bytes, Fo.clone_bytes r]
    congr 2
    by_cases h1 : k = 1
    · subst h1; rfl
    · rw [if_neg h1, if_neg h1]
      by_cases h2 : k = 2
      · subst h2; rfl
      · rw [if_neg h2, if_neg h2]
        by_cases h3 : k = 3
        · subst h3
          simp only [if_true]
          rw [Fo.clone_bytes sub, Fo.clone_len sub]
        · rw [if_neg h3, if_neg h3]
theorem Fo.clone_walk : ∀ (f : Fo) (d m : Nat), f.clone.walk d m = f.walk d m
  | .nil, _, _ => rfl
  | .node k n s sub r, d, m => by
    have ir := Fo.clone_walk r
    have is := Fo.clone_walk sub
    have il := Fo.clone_len sub
    rw [Fo.clone, Fo.walk, Fo.walk]
    by_cases h2 : k = 2
    · subst h2; simp [ir]
    · by_cases h3 : k = 3
      · subst h3; simp [ir, is, il]
      · simp [h2, h3, ir]
theorem Vl.clone_bytes (v : Vl) : v.clone.bytes = v.bytes := Fo.clone_bytes v.one
theorem Vl.clone_walk (v : Vl) (d m : Nat) : v.clone.walk d m = v.walk d m := by
  rw [← one_walk, ← one_walk]; exact Fo.clone_walk v.one d m
theorem Vl.clone_check (v : Vl) : v.clone.check = v.check := by
  unfold Vl.check
  rw [Vl.clone_bytes, one_walk, one_walk, Vl.clone_walk]
def Vl.ok (v : Vl) : Prop := i64b v.k ∧ i64b v.n ∧ v.l.ok
theorem Fo.clone_ok : ∀ {f : Fo}, f.ok → f.clone.ok
  | .nil, _ => trivial
  | .node k n s sub r, ⟨⟨h1, h2⟩, h3, h4⟩ => by
    refine ⟨⟨h1, ?_⟩, ?_, Fo.clone_ok h4⟩
    · split
      · exact h2
      · exact ⟨by decide, by decide⟩
    · split
      · exact Fo.clone_ok h3
      · trivial
theorem Vl.clone_ok {v : Vl} (h : v.ok) : v.clone.ok := by
  obtain ⟨h1, h2, h3⟩ := h
  refine ⟨h1, ?_, ?_⟩
  · show i64b (if _ then _ else _)
    split
    · exact h2
    · exact ⟨by decide, by decide⟩
  · show Fo.ok (if _ then _ else _)
    split
    · exact Fo.clone_ok h3
    · trivial
/-- values in a row -/
def Fo.of : List Vl → Fo
  | [] => .nil
  | v :: r => .node v.k v.n v.s v.l (Fo.of r)
theorem Fo.of_vals : ∀ l : List Vl, (Fo.of l).vals = l
  | [] => rfl
  | v :: r => by rw [Fo.of, Fo.vals, Fo.of_vals r]
theorem Fo.of_len (l : List Vl) : (Fo.of l).len = l.length := by rw [← Fo.vals_len, Fo.of_vals]
theorem Fo.vals_of : ∀ f : Fo, Fo.of f.vals = f
  | .nil => rfl
  | .node _ _ _ _ r => by rw [Fo.vals, Fo.of, Fo.vals_of r]
theorem Fo.of_ok : ∀ {l : List Vl}, (∀ v ∈ l, v.ok) → (Fo.of l).ok
  | [], _ => trivial
  | v :: r, h => by
    obtain ⟨h1, h2, h3⟩ := h v (by simp)
    exact ⟨⟨h1, h2⟩, h3, Fo.of_ok fun x hx => h x (by simp [hx])⟩
theorem Fo.of_bytes (l : List Vl) : (Fo.of l).bytes = l.flatMap Vl.bytes := by rw [Fo.bytes_vals, Fo.of_vals]
theorem Fo.of_map_clone (f : Fo) : Fo.of (f.vals.map Vl.clone) = f.clone := by rw [← Fo.clone_vals, Fo.vals_of]
/-- so many values, the count of parts handed on -/
def loopV (g : Nat → RdM (Vl × Nat)) : Nat → Nat → RdM (List Vl × Nat)
  | 0, p => rPure ([], p)
  | m + 1, p => rBind (loopV g m p) fun x => rBind (g x.2) fun y => rPure (x.1 ++ [y.1], y.2)
def overP (p : Nat) : RdM Unit := if 256 < p + 1 then rFail 2 else rPure ()
def overT (t : List UInt8) : RdM Unit := if 256 < t.length then rFail 2 else rPure ()
/-- a value is read; so many lists may still be within -/
def readV : Nat → Nat → RdM (Vl × Nat)
  | f, p => rBind Rd.byte fun x => rBind (overP p) fun _ =>
    if x = 0 then rPure (⟨0, 0, [], .nil⟩, p + 1)
    else if x = 1 then rBind (Rd.num 18446744073709551615) fun n => rPure (⟨1, zagI n, [], .nil⟩, p + 1)
    else if x = 2 then rBind Rd.text fun t => rBind (overT t) fun _ => rPure (⟨2, 0, t, .nil⟩, p + 1)
    else if x = 3 then
      match f with
      | 0 => rBind (rFail 30) fun _ => rPure (⟨3, 0, [], .nil⟩, p + 1)
      | f + 1 => rBind (Rd.num 64) fun m => rBind (loopV (readV f) m (p + 1)) fun y => rPure (⟨3, 0, [], Fo.of y.1⟩, y.2)
    else rBind (rFail 9) fun _ => rPure (⟨x, 0, [], .nil⟩, p + 1)
theorem readV_eq (f p : Nat) : readV f p = rBind Rd.byte fun x => rBind (overP p) fun _ =>
    if x = 0 then rPure (⟨0, 0, [], .nil⟩, p + 1)
    else if x = 1 then rBind (Rd.num 18446744073709551615) fun n => rPure (⟨1, zagI n, [], .nil⟩, p + 1)
    else if x = 2 then rBind Rd.text fun t => rBind (overT t) fun _ => rPure (⟨2, 0, t, .nil⟩, p + 1)
    else if x = 3 then
      match f with
      | 0 => rBind (rFail 30) fun _ => rPure (⟨3, 0, [], .nil⟩, p + 1)
      | f + 1 => rBind (Rd.num 64) fun m => rBind (loopV (readV f) m (p + 1)) fun y => rPure (⟨3, 0, [], Fo.of y.1⟩, y.2)
    else rBind (rFail 9) fun _ => rPure (⟨x, 0, [], .nil⟩, p + 1) := by
  cases f <;> rfl
def overB (e : Int) (i j : Nat) : RdM Unit := if e = 0 ∧ 512 < j - i then rFail 2 else rPure ()
def Vl.zero : Vl := ⟨0, 0, [], .nil⟩
def readVal : RdM Vl := rBind rAt fun i => rBind (readV 8 0) fun x => rBind rErr fun e => rBind rAt fun j => rBind (overB e i j) fun _ => rBind rErr fun e2 => rPure (if e2 = 0 then x.1 else Vl.zero)
theorem Good.overP (p : Nat) : Good (overP p) := Good.ite (fun _ => Good.fail (by decide)) fun _ => Good.pure _
theorem Good.overT (t : List UInt8) : Good (overT t) := Good.ite (fun _ => Good.fail (by decide)) fun _ => Good.pure _
theorem Good.overB (e : Int) (i j : Nat) : Good (overB e i j) := Good.ite (fun _ => Good.fail (by decide)) fun _ => Good.pure _
theorem Good.loopV {g : Nat → RdM (Vl × Nat)} (h : ∀ p, Good (g p)) : ∀ m p, Good (loopV g m p)
  | 0, _ => Good.pure _
  | m + 1, p => (Good.loopV h m p).bind fun _ => (h _).bind fun _ => Good.pure _
theorem Good.readV : ∀ f p, Good (readV f p)
  | f, p => by
    rw [readV_eq]
    refine Good.byte.bind fun x => (Good.overP p).bind fun _ => Good.ite (fun _ => Good.pure _) fun _ => Good.ite (fun _ => (Good.num _).bind fun _ => Good.pure _) fun _ => Good.ite (fun _ => Good.text.bind fun t => (Good.overT t).bind fun _ => Good.pure _) fun _ => Good.ite (fun _ => ?_) fun _ => (Good.fail (by decide)).bind fun _ => Good.pure _
    match f with
    | 0 => exact (Good.fail (by decide)).bind fun _ => Good.pure _
    | f + 1 => exact (Good.num _).bind fun m => (Good.loopV (Good.readV f) _ _).bind fun _ => Good.pure _
theorem Good.readVal : Good readVal :=
  Good.at.bind fun _ => (Good.readV _ _).bind fun _ => Good.err.bind fun _ => Good.at.bind fun _ => (Good.overB _ _ _).bind fun _ => Good.err.bind fun _ => Good.pure _
theorem kindB_lit (x : Nat) (h : x < 256) : kindB (x : Int) = UInt8.ofNat x := by
  unfold kindB
  congr 1
  omega
theorem overP_none (p : Nat) : Wr (overP p) fun _ l => l = [] := Wr.ite (fun _ => Wr.fail (by decide)) fun _ => Wr.pure rfl
theorem overT_none (t : List UInt8) : Wr (overT t) fun _ l => l = [] := Wr.ite (fun _ => Wr.fail (by decide)) fun _ => Wr.pure rfl
theorem overB_none (e : Int) (i j : Nat) : Wr (overB e i j) fun _ l => l = [] := Wr.ite (fun _ => Wr.fail (by decide)) fun _ => Wr.pure rfl
theorem Wr.loopV {g : Nat → RdM (Vl × Nat)} (hg : ∀ p, Good (g p)) (h : ∀ p, Wr (g p) fun y l => l = y.1.bytes) : ∀ m p, Wr (loopV g m p) fun y l => l = y.1.flatMap Vl.bytes ∧ y.1.length = m
  | 0, _ => Wr.pure ⟨rfl, rfl⟩
  | m + 1, p => Wr.bind (Good.loopV hg m p) (fun _ => (hg _).bind fun _ => Good.pure _) (Wr.loopV hg h m p) fun x l ⟨h1, h2⟩ => Wr.bind (hg _) (fun _ => Good.pure _) (h _) fun y l' h3 => Wr.pure (by
      subst h1 h2 h3
      simp)
theorem Wr.readV : ∀ f p, Wr (readV f p) fun y l => l = y.1.bytes
  | f, p => by
    rw [readV_eq]
    have hgood : ∀ (x : Nat), Good (if x = 0 then rPure ((⟨0, 0, [], .nil⟩ : Vl), p + 1)
      else if x = 1 then rBind (Rd.num 18446744073709551615) fun n => rPure (⟨1, zagI n, [], .nil⟩, p + 1)
      else if x = 2 then rBind Rd.text fun t => rBind (overT t) fun _ => rPure (⟨2, 0, t, .nil⟩, p + 1)
      else if x = 3 then
        match f with
        | 0 => rBind (rFail 30) fun _ => rPure (⟨3, 0, [], .nil⟩, p + 1)
        | f + 1 => rBind (Rd.num 64) fun m => rBind (Go.Proofs.Ytkkhcpknldlpoaa.loopV (Go.Proofs.Ytkkhcpknldlpoaa.readV f) m (p + 1)) fun y => rPure (⟨3, 0, [], Fo.of y.1⟩, y.2)
      else rBind (rFail 9) fun _ => rPure (⟨x, 0, [], .nil⟩, p + 1)) := by
      intro x
      refine Good.ite (fun _ => Good.pure _) fun _ => Good.ite (fun _ => (Good.num _).bind fun _ => Good.pure _) fun _ => Good.ite (fun _ => Good.text.bind fun t => (Good.overT t).bind fun _ => Good.pure _) fun _ => Good.ite (fun _ => ?_) fun _ => (Good.fail (by decide)).bind fun _ => Good.pure _
      match f with
      | 0 => exact (Good.fail (by decide)).bind fun _ => Good.pure _
      | f + 1 => exact (Good.num _).bind fun m => (Good.loopV (Good.readV f) _ _).bind fun _ => Good.pure _
    refine Wr.bind Good.byte (fun x => (Good.overP p).bind fun _ => hgood x) Wr.byte fun x l hl => Wr.bind (Good.overP p) (fun _ => hgood x) (overP_none p) fun _ l0 h0 => ?_
    subst hl h0
    refine Wr.ite (fun hx => ?_) fun _ => Wr.ite (fun hx => ?_) fun _ => Wr.ite (fun hx => ?_) fun _ => Wr.ite (fun hx => ?_) fun _ => ?_
    · subst hx
      exact Wr.pure (by rw [Vl.bytes_eq]; rfl)
    · subst hx
      refine Wr.bind (Good.num _) (fun _ => Good.pure _) (Wr.num _) fun n l hl => Wr.pure ?_
      subst hl
      rw [Vl.bytes_eq]
      simp only [if_true]
      rw [zig_zag]
      simp [kindB]
    · subst hx
      refine Wr.bind Good.text (fun t => (Good.overT t).bind fun _ => Good.pure _) Wr.text fun t l hl => Wr.bind (Good.overT t) (fun _ => Good.pure _) (overT_none t) fun _ l0 h0 => Wr.pure ?_
      subst hl h0
      rw [Vl.bytes_eq]
      simp [kindB]
    · subst hx
      match f with
      | 0 => exact Wr.failed (by decide) fun _ => Good.pure _
      | f + 1 =>
        refine Wr.bind (Good.num _) (fun m => (Good.loopV (Good.readV f) _ _).bind fun _ => Good.pure _) (Wr.num _) fun m l hl => Wr.bind (Good.loopV (Good.readV f) _ _) (fun _ => Good.pure _) (Wr.loopV (Good.readV f) (Wr.readV f) _ _) fun y l' h3 => Wr.pure ?_
        obtain ⟨h3, h4⟩ := h3
        subst hl h3
        rw [Vl.bytes_eq]
        simp only [Fo.of_bytes, Fo.of_len, h4]
        simp [kindB]
    · exact Wr.failed (by decide) fun _ => Good.pure _
theorem Wr.readVal : Wr readVal fun v l => l = v.bytes := by
  refine Wr.bind Good.at (fun _ => (Good.readV _ _).bind fun _ => Good.err.bind fun _ => Good.at.bind fun _ => (Good.overB _ _ _).bind fun _ => Good.err.bind fun _ => Good.pure _) Wr.at fun i l0 h0 => ?_
  refine Wr.bind (Good.readV _ _) (fun _ => Good.err.bind fun _ => Good.at.bind fun _ => (Good.overB _ _ _).bind fun _ => Good.err.bind fun _ => Good.pure _) (Wr.readV 8 0) fun x l1 h1 => ?_
  refine Wr.bind Good.err (fun _ => Good.at.bind fun _ => (Good.overB _ _ _).bind fun _ => Good.err.bind fun _ => Good.pure _) Wr.err fun e l2 h2 => ?_
  refine Wr.bind Good.at (fun _ => (Good.overB _ _ _).bind fun _ => Good.err.bind fun _ => Good.pure _) Wr.at fun j l3 h3 => ?_
  refine Wr.bind (Good.overB _ _ _) (fun _ => Good.err.bind fun _ => Good.pure _) (overB_none e i j) fun _ l4 h4 => ?_
  refine Wr.bind Good.err (fun _ => Good.pure _) Wr.err fun e2 l5 h5 => Wr.pure ?_
  obtain ⟨h5, h6⟩ := h5
  obtain ⟨_, h2⟩ := h2
  subst h0 h1 h2 h3 h4 h5 h6
  simp
theorem Ret.byte : Ret Rd.byte fun x => x < 256 := fun s => s.byte_lt
theorem zagI_ok {n : Nat} (h : n < 18446744073709551616) : i64b (zagI n) := by
  unfold zagI i64b
  split <;> omega
theorem Ret.loopV {g : Nat → RdM (Vl × Nat)} (h : ∀ p, Ret (g p) fun y => y.1.ok) : ∀ m p, Ret (loopV g m p) fun y => y.1.length = m ∧ ∀ v ∈ y.1, v.ok
  | 0, _ => Ret.pure ⟨rfl, fun a h => by cases h⟩
  | m + 1, p => Ret.bind (Ret.loopV h m p) fun x ⟨h1, h2⟩ => Ret.bind (h _) fun a ha => Ret.pure ⟨by simp [h1], fun b hb => by
      rcases List.mem_append.1 hb with hb | hb
      · exact h2 b hb
      · rw [List.mem_singleton.1 hb]; exact ha⟩
theorem i64b_nat {x : Nat} (h : x < 256) : i64b (x : Int) := ⟨by omega, by omega⟩
theorem Ret.readV : ∀ f p, Ret (readV f p) fun y => y.1.ok
  | f, p => by
    rw [readV_eq]
    have z0 : i64b 0 := ⟨by decide, by decide⟩
    have hk : ∀ k : Nat, k < 256 → i64b (k : Int) := fun k h => i64b_nat h
    refine Ret.bind Ret.byte fun x hx => Ret.bind (Ret.any _) fun _ _ => Ret.ite (fun _ => Ret.pure ⟨z0, z0, trivial⟩) fun _ => Ret.ite (fun _ => Ret.bind (P := fun n => n < 18446744073709551616) (fun s => s.num_lt _) fun n hn => Ret.pure ⟨hk 1 (by omega), zagI_ok hn, trivial⟩) fun _ => Ret.ite (fun _ => Ret.bind (Ret.any _) fun t _ => Ret.bind (Ret.any _) fun _ _ => Ret.pure ⟨hk 2 (by omega), z0, trivial⟩) fun _ => Ret.ite (fun _ => ?_) fun _ => Ret.bind (Ret.any _) fun _ _ => Ret.pure ⟨hk x hx, z0, trivial⟩
    match f with
    | 0 => exact Ret.bind (Ret.any _) fun _ _ => Ret.pure ⟨hk 3 (by omega), z0, trivial⟩
    | f + 1 => exact Ret.bind (Ret.any _) fun m _ => Ret.bind (Ret.loopV (Ret.readV f) _ _) fun y hy => Ret.pure ⟨hk 3 (by omega), z0, Fo.of_ok hy.2⟩
theorem Ret.readVal : Ret readVal fun v => v.ok :=
  Ret.bind (Ret.any _) fun i _ => Ret.bind (Ret.readV 8 0) fun x hx => Ret.bind (Ret.any _) fun e _ => Ret.bind (Ret.any _) fun j _ => Ret.bind (Ret.any _) fun _ _ => Ret.bind (Ret.any _) fun e2 _ => Ret.pure (by
    split
    · exact hx
    · exact ⟨⟨by decide, by decide⟩, ⟨by decide, by decide⟩, trivial⟩)
theorem walkV_snoc (l : List Vl) (v : Vl) (d m : Nat) : walkV (l ++ [v]) d m = if (walkV l d m).1 ≠ 0 then walkV l d m else v.walk d (walkV l d m).2 := by
  induction l generalizing m with
  | nil =>
    show (if (v.walk d m).1 ≠ 0 then v.walk d m else (0, (v.walk d m).2)) = v.walk d m
    by_cases h : (v.walk d m).1 = 0
    · rw [if_neg (by simpa using h), ← h]
    · rw [if_pos h]
  | cons x r ih =>
    rw [List.cons_append, walkV, walkV]
    by_cases h : (x.walk d m).1 = 0
    · have h' : ¬ ((x.walk d m).1 ≠ 0) := by simpa using h
      rw [if_neg h', if_neg h', ih]
    · rw [if_pos h, if_pos h, if_pos h]
theorem Rb.overP {p : Nat} (h : ¬ 256 < p + 1) : Rb (overP p) [] () := Rb.ite_neg h (Rb.pure _)
theorem Rb.overT {t : List UInt8} (h : ¬ 256 < t.length) : Rb (overT t) [] () := Rb.ite_neg h (Rb.pure _)
theorem walkV_zero {l : List Vl} {d m p : Nat} (h : walkV l d m = (0, p)) : ∀ n, n ≤ l.length → ∃ q, walkV (l.take n) d m = (0, q)
  | 0, _ => ⟨m, by rw [List.take_zero]; rfl⟩
  | n + 1, hn => by
    obtain ⟨q, hq⟩ := walkV_zero h n (by omega)
    obtain ⟨h1, h2⟩ := walkV_take (by omega) hq
    rcases hw : l[n].walk d q with ⟨e, m2⟩
    by_cases he : e = 0
    · subst he; exact ⟨m2, h2 m2 hw⟩
    · have := h1 e m2 hw he
      rw [h] at this
      injection this with h3
      exact absurd h3.symm he
theorem Rb.loopV {g : Nat → RdM (Vl × Nat)} {l : List Vl} {d m p : Nat} (hw : walkV l d m = (0, p)) (h : ∀ v ∈ l, ∀ q q', v.walk d q = (0, q') → Rb (g q) v.bytes (v.clone, q')) :
    ∀ n, n ≤ l.length → ∀ q, walkV (l.take n) d m = (0, q) → Rb (loopV g n m) ((l.take n).flatMap Vl.bytes) ((l.take n).map Vl.clone, q)
  | 0, _, q, hq => by
    rw [List.take_zero] at hq ⊢
    injection hq with _ hq
    subst hq
    exact Rb.pure _
  | n + 1, hn, q, hq => by
    have hlt : n < l.length := by omega
    obtain ⟨q0, hq0⟩ := walkV_zero hw n (by omega)
    have ih := Rb.loopV hw h n (by omega) q0 hq0
    rw [List.take_succ_eq_append_getElem hlt] at hq ⊢
    rw [walkV_snoc, hq0, if_neg (by simp)] at hq
    rw [List.flatMap_append, List.map_append]
    refine Rb.bind ih ?_
    rw [List.flatMap_cons, List.flatMap_nil, List.append_nil]
    exact Rb.last (h _ (List.getElem_mem hlt) _ _ hq) (Rb.pure _)
theorem Fo.vals_ok {f : Fo} (h : f.ok) : ∀ v ∈ f.vals, v.ok := fun _ hv => by
  obtain ⟨h1, h2, h3⟩ := Fo.ok_mem h hv
  exact ⟨h1, h2, h3⟩
theorem Rb.readV : ∀ (f : Nat) (v : Vl) (d p p' : Nat), d + f = 8 → v.ok → v.walk d p = (0, p') → Rb (readV f p) v.bytes (v.clone, p')
  | f, v, d, p, p', hd, hok, hw => by
    obtain ⟨k, n, s, l⟩ := v
    obtain ⟨_, hn, hlo⟩ := hok
    unfold Vl.walk at hw
    simp only at hw hn hlo
    by_cases h0 : 256 < p + 1
    · rw [if_pos h0] at hw; injection hw with hw; exact absurd hw (by decide)
    rw [if_neg h0] at hw
    rw [readV_eq, Vl.bytes_eq]
    simp only
    have hby : ∀ (k : Nat), k < 4 → Rb Rd.byte [kindB (k : Int)] k := fun k hk => by
      have := Rb.byte (UInt8.ofNat k)
      rw [kindB_lit k (by omega)]
      rwa [UInt8.toNat_ofNat_of_lt' (by omega : k < 256)] at this
    by_cases k0 : k = 0
    · subst k0
      rw [if_pos (Or.inl rfl)] at hw
      injection hw with _ hw
      subst hw
      refine Rb.last (hby 0 (by decide)) (Rb.bind0 (Rb.overP h0) (Rb.ite_pos rfl ?_))
      exact Rb.pure _
    by_cases k1 : k = 1
    · subst k1
      rw [if_pos (Or.inr rfl)] at hw
      injection hw with _ hw
      subst hw
      rw [if_pos rfl]
      refine Rb.bind (hby 1 (by decide)) (Rb.bind0 (Rb.overP h0) (Rb.ite_neg (by decide) (Rb.ite_pos rfl ?_)))
      have hz := zigN_lt hn.1 hn.2
      refine Rb.last (Rb.num hz (by omega)) ?_
      rw [zag_zig n hn.1 hn.2]
      exact Rb.pure _
    rw [if_neg (by omega)] at hw
    by_cases k2 : k = 2
    · subst k2
      rw [if_pos rfl] at hw
      by_cases hs : 256 < s.length
      · rw [if_pos hs] at hw; injection hw with hw; exact absurd hw (by decide)
      rw [if_neg hs] at hw
      injection hw with _ hw
      subst hw
      rw [if_neg (by decide), if_pos rfl]
      refine Rb.bind (hby 2 (by decide)) (Rb.bind0 (Rb.overP h0) (Rb.ite_neg (by decide) (Rb.ite_neg (by decide) (Rb.ite_pos rfl ?_))))
      exact Rb.last (Rb.text (by omega)) (Rb.bind0 (Rb.overT hs) (Rb.pure _))
    rw [if_neg k2] at hw
    by_cases k3 : k = 3
    · subst k3
      rw [if_neg (by decide)] at hw
      by_cases h8 : 8 ≤ d
      · rw [if_pos h8] at hw; injection hw with hw; exact absurd hw (by decide)
      rw [if_neg h8] at hw
      by_cases hl : 64 < l.len
      · rw [if_pos hl] at hw; injection hw with hw; exact absurd hw (by decide)
      rw [if_neg hl, walk_vals] at hw
      rw [if_neg (by decide), if_neg (by decide), if_pos rfl]
      refine Rb.bind (hby 3 (by decide)) (Rb.bind0 (Rb.overP h0) (Rb.ite_neg (by decide) (Rb.ite_neg (by decide) (Rb.ite_neg (by decide) (Rb.ite_pos rfl ?_)))))
      match f, hd with
      | 0, hd => omega
      | f + 1, hd =>
        refine Rb.bind (Rb.num (by omega) (by omega)) ?_
        have hL := Rb.loopV (g := Go.Proofs.Ytkkhcpknldlpoaa.readV f) hw (fun v hv q q' hq => Rb.readV f v (d + 1) q q' (by omega) (Fo.vals_ok hlo v hv) hq) l.vals.length (Nat.le_refl _) p' (by rw [List.take_of_length_le (Nat.le_refl _)]; exact hw)
        rw [List.take_of_length_le (Nat.le_refl _), ← Fo.bytes_vals, Fo.vals_len] at hL
        refine Rb.last hL ?_
        simp only [Fo.of_map_clone]
        exact Rb.pure _
    · rw [if_pos k3] at hw
      injection hw with hw
      exact absurd hw (by decide)
theorem Rb.readVal {v : Vl} (hok : v.ok) (hc : v.check = 0) : Rb readVal v.bytes v.clone := by
  intro b i t hd hi
  unfold Vl.check at hc
  rw [one_walk] at hc
  by_cases h1 : (v.walk 0 0).1 = 0
  · rw [if_neg (by simpa using h1)] at hc
    by_cases h2 : 512 < v.bytes.length
    · rw [if_pos h2] at hc; exact absurd hc (by decide)
    have hr := Rb.readV 8 v 0 0 (v.walk 0 0).2 rfl hok (by rw [← h1]) b i t hd hi
    unfold Go.Proofs.Ytkkhcpknldlpoaa.readVal rBind rAt rErr overB
    simp only [hr]
    have hn : ¬ (True ∧ 512 < i + v.bytes.length - i) := fun h => by have := h.2; omega
    rw [if_neg hn]
    rfl
  · rw [if_pos h1] at hc
    exact absurd hc h1
end Go.Proofs.Ytkkhcpknldlpoaa

namespace Go.Proofs.Ytkkhcpknldlpoaa
set_option maxRecDepth 4000
set_option linter.unusedVariables false
set_option linter.unusedSimpArgs false
open Go Go.RowKit
theorem Has.setB {w W : World} {g : Nat} {T : TypeId} {cs : Array Value} {ps : List Asr} (h : Has w W (blkA g T cs :: ps)) (hl : Locs ps) (i : Nat) (u : Value) : Has w (W.setCell ⟨g, i, none⟩ u) (blkA g T (cs.setIfInBounds i u) :: ps) :=
  h.next hl fun F hF => by
    obtain ⟨hb, rfl⟩ := hF
    exact Next.mk (F' := fun k => k = g) ⟨hb.set_ i u, rfl⟩ (Tch.setCell (p := ⟨g, i, none⟩) (Tch.refl (fun k => k = g) W) (fun _ => rfl) u) (fun k hk => Or.inl hk)
theorem Has.ne2 {w W : World} {g g' : Nat} {T T' : TypeId} {cs cs' : Array Value} {ps : List Asr} (h : Has w W (blkA g T cs :: blkA g' T' cs' :: ps)) : g ≠ g' := by
  obtain ⟨F, ⟨_, rfl⟩, h2, G, ⟨_, rfl⟩, h4, _⟩ := h
  exact fun e => (h4 g' rfl).2 (Or.inr e.symm)
theorem vwalk_le (v : Vl) (is : ∀ d m, m ≤ 256 → (v.l.walk d m).1 = 0 → (v.l.walk d m).2 ≤ 256) (d m : Nat) (h : m ≤ 256) (h0 : (v.walk d m).1 = 0) : (v.walk d m).2 ≤ 256 := by
  unfold Vl.walk at h0 ⊢
  by_cases h1 : 256 < m + 1
  · rw [if_pos h1] at h0; exact absurd h0 (show ¬ (2 : Int) = 0 by decide)
  rw [if_neg h1] at h0 ⊢
  by_cases h2 : v.k = 0 ∨ v.k = 1
  · rw [if_pos h2] at h0 ⊢
    show m + 1 ≤ 256
    omega
  rw [if_neg h2] at h0 ⊢
  by_cases h3 : v.k = 2
  · rw [if_pos h3] at h0 ⊢
    show m + 1 ≤ 256
    omega
  rw [if_neg h3] at h0 ⊢
  by_cases h4 : v.k = 3
  case neg => rw [if_pos h4] at h0; exact absurd h0 (show ¬ (9 : Int) = 0 by decide)
  rw [if_neg (fun h => h h4)] at h0 ⊢
  by_cases h5 : 8 ≤ d
  · rw [if_pos h5] at h0; exact absurd h0 (show ¬ (30 : Int) = 0 by decide)
  rw [if_neg h5] at h0 ⊢
  by_cases h6 : 64 < v.l.len
  · rw [if_pos h6] at h0; exact absurd h0 (show ¬ (2 : Int) = 0 by decide)
  rw [if_neg h6] at h0 ⊢
  exact is _ _ (by omega) h0
theorem walk_le : ∀ (f : Fo) (d m : Nat), m ≤ 256 → (f.walk d m).1 = 0 → (f.walk d m).2 ≤ 256
  | .nil, _, _, h, _ => h
  | .node k n s sub r, d, m, h, h0 => by
    have ir := walk_le r d
    have is := walk_le sub
    have e : (Fo.node k n s sub r).walk d m = if (Vl.walk ⟨k, n, s, sub⟩ d m).1 ≠ 0 then Vl.walk ⟨k, n, s, sub⟩ d m else r.walk d (Vl.walk ⟨k, n, s, sub⟩ d m).2 := rfl
    have iv := vwalk_le ⟨k, n, s, sub⟩ is d m h
    rw [e] at h0 ⊢
    by_cases h7 : (Vl.walk ⟨k, n, s, sub⟩ d m).1 = 0
    · have h8 : ¬ ((Vl.walk ⟨k, n, s, sub⟩ d m).1 ≠ 0) := fun h => h h7
      rw [if_neg h8] at h0 ⊢
      exact ir _ (iv h7) h0
    · rw [if_pos h7] at h0; exact absurd h0 h7
theorem walkv_le (v : Vl) (d m : Nat) (h : m ≤ 256) (h0 : (v.walk d m).1 = 0) : (v.walk d m).2 ≤ 256 := by
  rw [← one_walk] at h0 ⊢
  exact walk_le _ d m h h0
theorem walkV_le (l : List Vl) (d m : Nat) (h : m ≤ 256) (h0 : (walkV l d m).1 = 0) : (walkV l d m).2 ≤ 256 := by
  rw [← Fo.of_vals l, ← walk_vals] at h0 ⊢
  exact walk_le _ d m h h0
def WkRel (bt : Bool) (w : World) (cb bx : Nat) (cs : Array Value) (ps : List Asr) (v : Vl) (d p : Nat) (R : Int × Nat) (k : Value) (wr : World) : Prop :=
  ∃ (i : Nat) (e : Int) (m : Nat), k = .int .i64 i ∧ i ≤ v.l.vals.length ∧ Has w wr (blkA cb 121 #[.int .i64 m, .int .i64 e] :: blkA bx 62 cs :: ps) ∧
    ((bt = true ∧ e = 0 ∧ d < 8 ∧ walkV (v.l.vals.take i) (d + 1) p = (0, m) ∧ R = walkV v.l.vals (d + 1) p) ∨ (e ≠ 0 ∧ R = (e, m)))
set_option maxHeartbeats 4000000 in
theorem walk_n : ∀ (m : Nat) (v : Vl), v.l.size < m → ∀ (w W : World) (ps : List Asr) (cb d p : Nat) (pl : Option Addr) (c : Nat), Has w W (blkA cb 121 #[.int .i64 p, .int .i64 0] :: ps) → Locs ps → VlAt w pl c v → i64b v.k → v.l.ok → p ≤ 256 → d ≤ 8 →
    Calls Try.prog 64 #[.pointer (some ⟨cb, 0, none⟩), .agg (v.cells pl c).toArray, .int .i64 d] W fun e W' => e = .returned (.tuple #[]) ∧ Has w W' (blkA cb 121 #[.int .i64 (v.walk d p).2, .int .i64 (v.walk d p).1] :: ps)
  | 0, _, h => by omega
  | m + 1, v, hm => by
    intro w W ps cb d p pl c hH hl hV hk hok hp hd
    have ih := walk_n m
    have H1 := (hH.new (.cons (blkA_loc _ _ _) hl) 62 (v.cells pl c).toArray).swap
    have L1 : Locs (blkA W.heap.size 62 (v.cells pl c).toArray :: ps) := .cons (blkA_loc _ _ _) hl
    have hne : cb ≠ W.heap.size := H1.ne2
    have H3 := H1.setB L1 0 (.int .i64 ((p : Int) + 1))
    have a0 : (W.alloc (.cells (v.cells pl c).toArray 62)).cell? ⟨cb, 0, none⟩ = some (.int .i64 p) := cell_of_row _ _ 0 _ _ _ H1.blk0
    have a1 : (W.alloc (.cells (v.cells pl c).toArray 62)).cell? ⟨cb, 1, none⟩ = some (.int .i64 0) := cell_of_row _ _ 1 _ _ _ H1.blk0
    have f0 := H1.blk0.frozen 0
    simp only [Vl.cells, List.setIfInBounds_toArray, List.set_cons_succ, List.set_cons_zero] at H3 a0 a1 f0
    have hv0 : v.walk d p = if 256 < p + 1 then (2, p + 1)
      else if v.k = 0 ∨ v.k = 1 then (0, p + 1)
      else if v.k = 2 then (if 256 < v.s.length then 2 else 0, p + 1)
      else if v.k ≠ 3 then (9, p + 1)
      else if 8 ≤ d then (30, p + 1)
      else if 64 < v.l.len then (2, p + 1)
      else v.l.walk (d + 1) (p + 1) := rfl
    clear H1 L1 hH
    go_enter Try.func64, Try.ntmps64
    simp only [Vl.cells]
    go_upto_region 3 with fail
    generalize W.heap.size = bx at *
    generalize World.setCell _ _ _ = w3 at *
    clear a0 a1 f0
    have hbl := H3.blk0
    have hbv := H3.swap.blk0
    have a0 : w3.cell? ⟨cb, 0, none⟩ = some (.int .i64 ((p : Int) + 1)) := cell_of_row _ _ 0 _ _ _ hbl
    have a1 : w3.cell? ⟨cb, 1, none⟩ = some (.int .i64 0) := cell_of_row _ _ 1 _ _ _ hbl
    have f1 := hbl.frozen 1
    have b0 : w3.cell? ⟨bx, 0, none⟩ = some (.int .i64 v.k) := cell_of_row _ _ 0 _ _ _ hbv
    have b2 : w3.cell? ⟨bx, 2, none⟩ = some (.string ⟨v.s.toArray⟩) := cell_of_row _ _ 2 _ _ _ hbv
    have b3 : w3.cell? ⟨bx, 3, none⟩ = some (.slice pl v.l.len c) := cell_of_row _ _ 3 _ _ _ hbv
    clear hbv
    by_cases h1 : 256 < p + 1
    · rw [if_pos h1] at hv0
      have HR := Lib.hid hv0
      have g1 : (256 : Int) < (p : Int) + 1 := by omega
      clear hv0 hbl
      have H6 := H3.setB (.cons (blkA_loc _ _ _) hl) 1 (.int .i64 2)
      simp only [List.setIfInBounds_toArray, List.set_cons_succ, List.set_cons_zero] at H6
      go_wp2_with fail
      go_returns
      refine ⟨rfl, ?_⟩
      rw [HR.out]
      exact H6.swap.drop
    rw [if_neg h1] at hv0
    have g1 : ¬ (256 : Int) < (p : Int) + 1 := by omega
    by_cases k0 : v.k = 0 ∨ v.k = 1
    · rw [if_pos k0] at hv0
      have HR := Lib.hid hv0
      clear hv0 hbl
      rcases k0 with k0 | k0
      · have e0 : (v.k == 0) = true := by simpa using k0
        clear k0
        go_wp2_with fail
        go_returns
        refine ⟨rfl, ?_⟩
        rw [HR.out]
        exact H3.swap.drop
      · have e0 : (v.k == 0) = false := by rw [k0]; rfl
        have e1 : (v.k == 1) = true := by simpa using k0
        clear k0
        go_wp2_with fail
        go_returns
        refine ⟨rfl, ?_⟩
        rw [HR.out]
        exact H3.swap.drop
    rw [if_neg k0] at hv0
    have e0 : (v.k == 0) = false := by simp; omega
    have e1 : (v.k == 1) = false := by simp; omega
    clear k0
    by_cases k2 : v.k = 2
    · rw [if_pos k2] at hv0
      have e2 : (v.k == 2) = true := by simpa using k2
      clear k2
      by_cases hs : 256 < v.s.length
      · rw [if_pos hs] at hv0
        have HR := Lib.hid hv0
        have hsz : (256 : Int) < ((⟨v.s.toArray⟩ : ByteArray).size : Int) := by
          have : (⟨v.s.toArray⟩ : ByteArray).size = v.s.length := rfl
          rw [this]; omega
        clear hv0 hbl
        have H6 := H3.setB (.cons (blkA_loc _ _ _) hl) 1 (.int .i64 2)
        simp only [List.setIfInBounds_toArray, List.set_cons_succ, List.set_cons_zero] at H6
        go_wp2_with fail
        go_returns
        refine ⟨rfl, ?_⟩
        rw [HR.out]
        exact H6.swap.drop
      · rw [if_neg hs] at hv0
        have HR := Lib.hid hv0
        have hsz : ¬ (256 : Int) < ((⟨v.s.toArray⟩ : ByteArray).size : Int) := by
          have : (⟨v.s.toArray⟩ : ByteArray).size = v.s.length := rfl
          rw [this]; omega
        clear hv0 hbl
        go_wp2_with fail
        go_returns
        refine ⟨rfl, ?_⟩
        rw [HR.out]
        exact H3.swap.drop
    rw [if_neg k2] at hv0
    have e2 : (v.k == 2) = false := by simpa using k2
    clear k2
    by_cases k3 : v.k = 3
    case neg =>
      rw [if_pos k3] at hv0
      have HR := Lib.hid hv0
      have e3 : (v.k == 3) = false := by simpa using k3
      clear hv0 hbl k3
      have H6 := H3.setB (.cons (blkA_loc _ _ _) hl) 1 (.int .i64 9)
      simp only [List.setIfInBounds_toArray, List.set_cons_succ, List.set_cons_zero] at H6
      go_wp2_with fail
      go_returns
      refine ⟨rfl, ?_⟩
      rw [HR.out]
      exact H6.swap.drop
    rw [if_neg (by simpa using k3)] at hv0
    have e3 : (v.k == 3) = true := by simpa using k3
    have hvl := v.l.vals_len
    have hcm := hV.cap
    have hcl := hV.len
    unfold Go.maxLen at hcm
    clear k3 b2
    by_cases h8 : 8 ≤ d
    · rw [if_pos h8] at hv0
      have HR := Lib.hid hv0
      have g8 : (8 : Int) ≤ d := by omega
      have H6 := H3.setB (.cons (blkA_loc _ _ _) hl) 1 (.int .i64 30)
      simp only [List.setIfInBounds_toArray, List.set_cons_succ, List.set_cons_zero] at H6
      clear hv0
      go_upto_region 17 with fail
      generalize World.setCell _ _ _ = w4 at *
      clear H3 a0 a1 b3 f1 hbl b0
      have H3 := H6
      have hbl := H3.blk0
      have a0 : w4.cell? ⟨cb, 0, none⟩ = some (.int .i64 ((p : Int) + 1)) := cell_of_row _ _ 0 _ _ _ hbl
      have a1 : w4.cell? ⟨cb, 1, none⟩ = some (.int .i64 30) := cell_of_row _ _ 1 _ _ _ hbl
      have f1 := hbl.frozen 1
      have b3 : w4.cell? ⟨bx, 3, none⟩ = some (.slice pl v.l.len c) := cell_of_row _ _ 3 _ _ _ H3.swap.blk0
      clear H6
      go_wp2_with fail
      go_loopw [64] (fun k wr => WkRel false w cb bx #[.int .i64 v.k, .int .i64 v.n, .string ⟨v.s.toArray⟩, .slice pl v.l.len c] ps v d (p + 1) (v.walk d p) k wr) (fun k _ => ((v.l.len : Int) + 1 - intOf k).toNat)
      case atStart => exact ⟨0, 30, p + 1, rfl, by omega, H3, Or.inr ⟨by decide, HR.out⟩⟩
      case round =>
        clear H3 hbl f1 b3 a0 a1
        obtain ⟨i, e, m', rfl, hi, hX, hR⟩ := hrel
        have LX : Locs (blkA bx 62 #[.int .i64 v.k, .int .i64 v.n, .string ⟨v.s.toArray⟩, .slice pl v.l.len c] :: ps) := .cons (blkA_loc _ _ _) hl
        have hbx := hX.blk0
        have e1' : wr.cell? ⟨cb, 1, none⟩ = some (.int .i64 e) := cell_of_row _ _ 1 _ _ _ hbx
        by_cases hlt : i < v.l.vals.length
        · obtain ⟨b, o, q2, c2, rfl, hV2, d0, d1, d2, d3⟩ := hV.fo.get i hlt
          have hmem := List.getElem_mem hlt
          have hsz := Fo.size_mem hmem
          obtain ⟨ok1, ok2, ok3⟩ := Fo.ok_mem hok hmem
          have htk := @walkV_take v.l.vals (d + 1) (p + 1) i m' hlt
          generalize v.l.vals[i] = x at *
          replace d0 := cell_ext hX.base d0
          replace d1 := cell_ext hX.base d1
          replace d2 := cell_ext hX.base d2
          replace d3 := cell_ext hX.base d3
          rw [Nat.zero_add, Nat.mul_comm 4 i] at d0 d1 d2 d3
          have i7 : (i : Int) < v.l.len := by omega
          have X2 := hX.ext (.cons (blkA_loc _ _ _) LX) (ext_alloc wr (.cells (x.cells q2 c2).toArray 62))
          have e2' : (wr.alloc (.cells (x.cells q2 c2).toArray 62)).cell? ⟨cb, 1, none⟩ = some (.int .i64 e) := cell_of_row _ _ 1 _ _ _ X2.blk0
          rcases hR with ⟨hbt, rfl, hd8, hw0, hR⟩ | ⟨he, hR⟩
          · cases hbt
          · have hne1 : (e != 0) = true := by simp [he]
            have hne2 : (e == 0) = false := by simp [he]
            have HR2 := Lib.hid hR
            simp only [Vl.cells] at X2 e2'
            clear hR htk
            go_wp2_with fail
            go_returns
            refine ⟨rfl, ?_⟩
            rw [HR2.out]
            exact X2.swap.drop
        · have hi' : i = v.l.vals.length := by omega
          have i7 : ¬ (i : Int) < v.l.len := by omega
          go_wp2_with fail
          go_returns
          refine ⟨rfl, ?_⟩
          rcases hR with ⟨_, rfl, _, hw0, hR⟩ | ⟨he, hR⟩
          · rw [hi', List.take_of_length_le (Nat.le_refl _)] at hw0
            rw [hR, hw0]
            exact hX.swap.drop
          · rw [hR]
            exact hX.swap.drop
    rw [if_neg h8] at hv0
    have g8 : ¬ (8 : Int) ≤ d := by omega
    by_cases h64 : 64 < v.l.len
    · rw [if_pos h64] at hv0
      have HR := Lib.hid hv0
      have g64 : (64 : Int) < v.l.len := by omega
      have H6 := H3.setB (.cons (blkA_loc _ _ _) hl) 1 (.int .i64 2)
      simp only [List.setIfInBounds_toArray, List.set_cons_succ, List.set_cons_zero] at H6
      clear hv0
      go_upto_region 17 with fail
      generalize World.setCell _ _ _ = w4 at *
      clear H3 a0 a1 b3 f1 hbl b0
      have H3 := H6
      have hbl := H3.blk0
      have a0 : w4.cell? ⟨cb, 0, none⟩ = some (.int .i64 ((p : Int) + 1)) := cell_of_row _ _ 0 _ _ _ hbl
      have a1 : w4.cell? ⟨cb, 1, none⟩ = some (.int .i64 2) := cell_of_row _ _ 1 _ _ _ hbl
      have f1 := hbl.frozen 1
      have b3 : w4.cell? ⟨bx, 3, none⟩ = some (.slice pl v.l.len c) := cell_of_row _ _ 3 _ _ _ H3.swap.blk0
      clear H6
      go_wp2_with fail
      go_loopw [64] (fun k wr => WkRel false w cb bx #[.int .i64 v.k, .int .i64 v.n, .string ⟨v.s.toArray⟩, .slice pl v.l.len c] ps v d (p + 1) (v.walk d p) k wr) (fun k _ => ((v.l.len : Int) + 1 - intOf k).toNat)
      case atStart => exact ⟨0, 2, p + 1, rfl, by omega, H3, Or.inr ⟨by decide, HR.out⟩⟩
      case round =>
        clear H3 hbl f1 b3 a0 a1
        obtain ⟨i, e, m', rfl, hi, hX, hR⟩ := hrel
        have LX : Locs (blkA bx 62 #[.int .i64 v.k, .int .i64 v.n, .string ⟨v.s.toArray⟩, .slice pl v.l.len c] :: ps) := .cons (blkA_loc _ _ _) hl
        have hbx := hX.blk0
        have e1' : wr.cell? ⟨cb, 1, none⟩ = some (.int .i64 e) := cell_of_row _ _ 1 _ _ _ hbx
        by_cases hlt : i < v.l.vals.length
        · obtain ⟨b, o, q2, c2, rfl, hV2, d0, d1, d2, d3⟩ := hV.fo.get i hlt
          have hmem := List.getElem_mem hlt
          have hsz := Fo.size_mem hmem
          obtain ⟨ok1, ok2, ok3⟩ := Fo.ok_mem hok hmem
          have htk := @walkV_take v.l.vals (d + 1) (p + 1) i m' hlt
          generalize v.l.vals[i] = x at *
          replace d0 := cell_ext hX.base d0
          replace d1 := cell_ext hX.base d1
          replace d2 := cell_ext hX.base d2
          replace d3 := cell_ext hX.base d3
          rw [Nat.zero_add, Nat.mul_comm 4 i] at d0 d1 d2 d3
          have i7 : (i : Int) < v.l.len := by omega
          have X2 := hX.ext (.cons (blkA_loc _ _ _) LX) (ext_alloc wr (.cells (x.cells q2 c2).toArray 62))
          have e2' : (wr.alloc (.cells (x.cells q2 c2).toArray 62)).cell? ⟨cb, 1, none⟩ = some (.int .i64 e) := cell_of_row _ _ 1 _ _ _ X2.blk0
          rcases hR with ⟨hbt, rfl, hd8, hw0, hR⟩ | ⟨he, hR⟩
          · cases hbt
          · have hne1 : (e != 0) = true := by simp [he]
            have hne2 : (e == 0) = false := by simp [he]
            have HR2 := Lib.hid hR
            simp only [Vl.cells] at X2 e2'
            clear hR htk
            go_wp2_with fail
            go_returns
            refine ⟨rfl, ?_⟩
            rw [HR2.out]
            exact X2.swap.drop
        · have hi' : i = v.l.vals.length := by omega
          have i7 : ¬ (i : Int) < v.l.len := by omega
          go_wp2_with fail
          go_returns
          refine ⟨rfl, ?_⟩
          rcases hR with ⟨_, rfl, _, hw0, hR⟩ | ⟨he, hR⟩
          · rw [hi', List.take_of_length_le (Nat.le_refl _)] at hw0
            rw [hR, hw0]
            exact hX.swap.drop
          · rw [hR]
            exact hX.swap.drop
    rw [if_neg h64, walk_vals] at hv0
    have HR := Lib.hid hv0
    have g64 : ¬ (64 : Int) < v.l.len := by omega
    clear hv0
    go_wp2_with fail
    go_loopw [64] (fun k wr => WkRel true w cb bx #[.int .i64 v.k, .int .i64 v.n, .string ⟨v.s.toArray⟩, .slice pl v.l.len c] ps v d (p + 1) (v.walk d p) k wr) (fun k _ => ((v.l.len : Int) + 1 - intOf k).toNat)
    case atStart => exact ⟨0, 0, p + 1, rfl, by omega, H3, Or.inl ⟨rfl, rfl, by omega, rfl, HR.out⟩⟩
    case round =>
      clear H3 hbl f1 b3 a0 a1
      obtain ⟨i, e, m', rfl, hi, hX, hR⟩ := hrel
      have LX : Locs (blkA bx 62 #[.int .i64 v.k, .int .i64 v.n, .string ⟨v.s.toArray⟩, .slice pl v.l.len c] :: ps) := .cons (blkA_loc _ _ _) hl
      have hbx := hX.blk0
      have e1' : wr.cell? ⟨cb, 1, none⟩ = some (.int .i64 e) := cell_of_row _ _ 1 _ _ _ hbx
      by_cases hlt : i < v.l.vals.length
      · obtain ⟨b, o, q2, c2, rfl, hV2, d0, d1, d2, d3⟩ := hV.fo.get i hlt
        have hmem := List.getElem_mem hlt
        have hsz := Fo.size_mem hmem
        obtain ⟨ok1, ok2, ok3⟩ := Fo.ok_mem hok hmem
        have htk := @walkV_take v.l.vals (d + 1) (p + 1) i m' hlt
        generalize v.l.vals[i] = x at *
        replace d0 := cell_ext hX.base d0
        replace d1 := cell_ext hX.base d1
        replace d2 := cell_ext hX.base d2
        replace d3 := cell_ext hX.base d3
        rw [Nat.zero_add, Nat.mul_comm 4 i] at d0 d1 d2 d3
        have i7 : (i : Int) < v.l.len := by omega
        have X2 := hX.ext (.cons (blkA_loc _ _ _) LX) (ext_alloc wr (.cells (x.cells q2 c2).toArray 62))
        have e2' : (wr.alloc (.cells (x.cells q2 c2).toArray 62)).cell? ⟨cb, 1, none⟩ = some (.int .i64 e) := cell_of_row _ _ 1 _ _ _ X2.blk0
        rcases hR with ⟨hbt, rfl, hd8, hw0, hR⟩ | ⟨he, hR⟩
        · have hm' : m' ≤ 256 := by
            have := walkV_le (v.l.vals.take i) (d + 1) (p + 1) (by omega) (by rw [hw0])
            rw [hw0] at this; exact this
          have hc := ih x (by omega) _ _ _ cb (d + 1) m' _ _ X2 LX hV2 ok1 ok3 hm' (by omega)
          obtain ⟨t1, t2⟩ := htk hw0
          have HR2 := Lib.hid hR
          have HW := Lib.hid hw0
          have T1 := Lib.hid t1
          have T2 := Lib.hid t2
          simp only [Vl.cells] at hc e2'
          clear X2 LX hV2 hmem hsz ok1 ok2 ok3 hR hw0 t1 t2 htk
          have e3 : ((d + 1 : Nat) : Int) = (d : Int) + 1 := by omega
          rw [e3] at hc
          clear e3
          rcases hwx : x.walk (d + 1) m' with ⟨e2, m2⟩
          rw [hwx] at hc
          have HWX := Lib.hid hwx
          clear hwx
          go_wp2_with fail
          refine hc.mono ?_
          rintro e w4 ⟨rfl, H5⟩
          clear hc d0 d1 d2 d3 e1' e2'
          go_wp2_with fail
          refine ⟨⟨i + 1, e2, m2, by go_num, by omega, H5, ?_⟩, by simp [intOf]; omega⟩
          by_cases he2 : e2 = 0
          · subst he2
            exact Or.inl ⟨rfl, rfl, hd8, T2.out m2 HWX.out, HR2.out⟩
          · exact Or.inr ⟨he2, HR2.out.trans (T1.out e2 m2 HWX.out he2)⟩
        · have hne1 : (e != 0) = true := by simp [he]
          have hne2 : (e == 0) = false := by simp [he]
          have HR2 := Lib.hid hR
          simp only [Vl.cells] at X2 e2'
          clear hR htk
          go_wp2_with fail
          go_returns
          refine ⟨rfl, ?_⟩
          rw [HR2.out]
          exact X2.swap.drop
      · have hi' : i = v.l.vals.length := by omega
        have i7 : ¬ (i : Int) < v.l.len := by omega
        go_wp2_with fail
        go_returns
        refine ⟨rfl, ?_⟩
        rcases hR with ⟨_, rfl, _, hw0, hR⟩ | ⟨he, hR⟩
        · rw [hi', List.take_of_length_le (Nat.le_refl _)] at hw0
          rw [hR, hw0]
          exact hX.swap.drop
        · rw [hR]
          exact hX.swap.drop
end Go.Proofs.Ytkkhcpknldlpoaa

namespace Go.Proofs.Ytkkhcpknldlpoaa
set_option maxRecDepth 4000
set_option linter.unusedVariables false
set_option linter.unusedSimpArgs false
open Go Go.RowKit
/-- values in memory, all in blocks of B -/
def FoB (B : Nat → Prop) (W : World) : Option Addr → Nat → Fo → Prop
  | _, _, .nil => True
  | p, i, .node k n s sub r => (∃ (b o : Nat) (q : Option Addr) (c : Nat), p = some ⟨b, o, none⟩ ∧ B b ∧ W.cell? ⟨b, o + 4 * i, none⟩ = some (.int .i64 k) ∧ W.cell? ⟨b, o + 4 * i + 1, none⟩ = some (.int .i64 n) ∧ W.cell? ⟨b, o + 4 * i + 2, none⟩ = some (.string ⟨s.toArray⟩) ∧
      W.cell? ⟨b, o + 4 * i + 3, none⟩ = some (.slice q sub.len c) ∧ (q = none → sub.len = 0 ∧ c = 0) ∧ sub.len ≤ c ∧ c ≤ Go.maxLen ∧ FoB B W q 0 sub) ∧ FoB B W p (i + 1) r
theorem FoB.at {B : Nat → Prop} {W : World} : ∀ {f : Fo} {p : Option Addr} {i : Nat}, FoB B W p i f → FoAt W p i f
  | .nil, _, _, _ => trivial
  | .node k n s sub r, p, i, h => by
    obtain ⟨⟨b, o, q, c, h1, _, h2, h3, h4, h5, h6, h7, h8, h9⟩, h10⟩ := h
    exact ⟨⟨b, o, q, c, h1, h2, h3, h4, h5, h6, h7, h8, h9.at⟩, h10.at⟩
theorem FoB.keep {B : Nat → Prop} {W W' : World} (hk : ∀ k, B k → k < W.heap.size → W'.heap[k]? = W.heap[k]?) : ∀ {f : Fo} {p : Option Addr} {i : Nat}, FoB B W p i f → FoB B W' p i f
  | .nil, _, _, _ => trivial
  | .node k n s sub r, p, i, h => by
    obtain ⟨⟨b, o, q, c, h1, hb, h2, h3, h4, h5, h6, h7, h8, h9⟩, h10⟩ := h
    have hc : ∀ {a : Nat} {v : Value}, W.cell? ⟨b, a, none⟩ = some v → W'.cell? ⟨b, a, none⟩ = some v := fun {a v} h =>
      (World.cell?_of_block (w := W) (a := ⟨b, a, none⟩) (hk b hb (World.block_lt_of_cell? W _ h))).trans h
    exact ⟨⟨b, o, q, c, h1, hb, hc h2, hc h3, hc h4, hc h5, h6, h7, h8, h9.keep hk⟩, h10.keep hk⟩
theorem FoB.mono {B B' : Nat → Prop} {W : World} (hB : ∀ k, B k → k < W.heap.size → B' k) : ∀ {f : Fo} {p : Option Addr} {i : Nat}, FoB B W p i f → FoB B' W p i f
  | .nil, _, _, _ => trivial
  | .node k n s sub r, p, i, h => by
    obtain ⟨⟨b, o, q, c, h1, hb, h2, h3, h4, h5, h6, h7, h8, h9⟩, h10⟩ := h
    exact ⟨⟨b, o, q, c, h1, hB b hb (World.block_lt_of_cell? W _ h2), h2, h3, h4, h5, h6, h7, h8, h9.mono hB⟩, h10.mono hB⟩
structure VlB (B : Nat → Prop) (W : World) (q : Option Addr) (c : Nat) (v : Vl) : Prop where
  nil_ : q = none → v.l.len = 0 ∧ c = 0
  len : v.l.len ≤ c
  cap : c ≤ Go.maxLen
  fo : FoB B W q 0 v.l
section
variable {B B' : Nat → Prop} {W W' : World} {q : Option Addr} {c : Nat} {v : Vl}
theorem VlB.at (h : VlB B W q c v) : VlAt W q c v := ⟨h.nil_, h.len, h.cap, h.fo.at⟩
theorem VlB.keep (h : VlB B W q c v) (hk : ∀ k, B k → k < W.heap.size → W'.heap[k]? = W.heap[k]?) : VlB B W' q c v := ⟨h.nil_, h.len, h.cap, h.fo.keep hk⟩
theorem VlB.mono (h : VlB B W q c v) (hB : ∀ k, B k → k < W.heap.size → B' k) : VlB B' W q c v := ⟨h.nil_, h.len, h.cap, h.fo.mono hB⟩
theorem VlB.none (k n : Int) (s : List UInt8) : VlB B W .none 0 ⟨k, n, s, .nil⟩ := ⟨fun _ => ⟨rfl, rfl⟩, Nat.le_refl _, Nat.zero_le _, trivial⟩
end
abbrev El := Vl × Option Addr × Nat
def El.cells (e : El) : List Value := e.1.cells e.2.1 e.2.2
def els (es : List El) : List Value := es.flatMap El.cells
theorem els_length (es : List El) : (els es).length = es.length * 4 := by
  unfold els
  induction es with
  | nil => rfl
  | cons e r ih => rw [List.flatMap_cons, List.length_append, ih, List.length_cons, El.cells, Vl.cells]; simp; omega
theorem els_snoc (es : List El) (e : El) : els (es ++ [e]) = els es ++ e.cells := by simp [els]
theorem els_fo {B : Nat → Prop} {W : World} {g o : Nat} (hg : B g) : ∀ (es : List El) (i : Nat), (∀ j u, (els es)[j]? = some u → W.cell? ⟨g, o + 4 * i + j, none⟩ = some u) → (∀ e ∈ es, VlB B W e.2.1 e.2.2 e.1) →
    FoB B W (some ⟨g, o, none⟩) i (Fo.of (es.map Prod.fst))
  | [], _, _, _ => trivial
  | e :: r, i, hc, hv => by
    have h0 := hv e (by simp)
    refine ⟨⟨g, o, e.2.1, e.2.2, rfl, hg, ?_, ?_, ?_, ?_, h0.nil_, h0.len, h0.cap, h0.fo⟩, ?_⟩
    · exact hc 0 _ rfl
    · exact hc 1 _ rfl
    · exact hc 2 _ rfl
    · exact hc 3 _ rfl
    · refine els_fo hg r (i + 1) (fun j u hj => ?_) (fun x hx => hv x (by simp [hx]))
      have := hc (j + 4) u (by
        show (e.cells ++ els r)[j + 4]? = some u
        rw [List.getElem?_append_right (by show 4 ≤ j + 4; omega)]
        exact hj)
      rw [show o + 4 * (i + 1) + j = o + 4 * i + (j + 4) by omega]
      exact this
/-- a row of values of one's own, under way -/
structure RowV (T : TypeId) (F : Nat → Prop) (W : World) (v : Value) (es : List El) : Prop where
  own : W.ownsRow 0 T 4 v es.length (els es)
  vals : ∀ e ∈ es, VlB (fun k => F k ∧ v.ownBlock ≠ some k) W e.2.1 e.2.2 e.1
  in_ : ∀ k, v.ownBlock = some k → F k
  lt : ∀ k, F k → k < W.heap.size
def rvA (T : TypeId) (v : Value) (es : List El) : Asr := fun W F => RowV T F W v es
theorem rvA_loc (T : TypeId) (v : Value) (es : List El) : Loc (rvA T v es) :=
  ⟨fun {W W' F} h hk => ⟨ownsRow_same h.own fun g hg => hk g (h.in_ g hg), fun e he => (h.vals e he).keep fun k hb _ => hk k hb.1, h.in_, fun k hF => by
    have h1 := hk k hF
    have h2 := h.lt k hF
    rcases Nat.lt_or_ge k W'.heap.size with h3 | h3
    · exact h3
    · rw [Array.getElem?_eq_none h3, Array.getElem?_eq_getElem h2] at h1; cases h1⟩, fun h hF => h.lt _ hF⟩
/-- a value of one's own -/
def vlA (q : Option Addr) (c : Nat) (v : Vl) : Asr := fun W F => VlB F W q c v ∧ ∀ k, F k → k < W.heap.size
theorem vlA_loc (q : Option Addr) (c : Nat) (v : Vl) : Loc (vlA q c v) :=
  ⟨fun {W W' F} h hk => ⟨h.1.keep fun k hb _ => hk k hb, fun k hF => by
    have h1 := hk k hF
    have h2 := h.2 k hF
    rcases Nat.lt_or_ge k W'.heap.size with h3 | h3
    · exact h3
    · rw [Array.getElem?_eq_none h3, Array.getElem?_eq_getElem h2] at h1; cases h1⟩, fun h hF => h.2 _ hF⟩
theorem Has.merge {w W : World} {p q r : Asr} {ps : List Asr} (h : Has w W (p :: q :: ps)) (hm : ∀ F G, p W F → q W G → (∀ k, F k → ¬ G k) → r W (fun k => F k ∨ G k)) : Has w W (r :: ps) := by
  obtain ⟨F, h1, h2, G, h3, h4, h5⟩ := h
  refine ⟨fun k => F k ∨ G k, hm F G h1 h3 fun k hF hG => (h4 k hG).2 (Or.inr hF), fun k hk => ⟨?_, id⟩, h5.weaken ?_⟩
  · rcases hk with hk | hk
    · exact (h2 k hk).1
    · exact (h4 k hk).1
  · rintro k (h | h | h)
    · exact h.elim
    · exact Or.inl (Or.inr h)
    · exact Or.inr h
theorem Has.rvnil {w W : World} {ps : List Asr} (h : Has w W ps) (hl : Locs ps) (T : TypeId) : Has w W (rvA T (.slice none 0 0) [] :: ps) :=
  h.add (p := rvA T (.slice none 0 0) []) (F := fun _ => False) hl (Ext.refl W) (show RowV T (fun _ => False) W (.slice none 0 0) [] from ⟨World.ownsRow_nil W 0 T 4, fun e he => (by cases he), fun k hk => (by simp [Value.ownBlock] at hk), fun k hk => hk.elim⟩) (fun k hk => hk.elim)
theorem Has.vl {w W W' : World} {ps : List Asr} {q : Option Addr} {c : Nat} {v : Vl} (h : Has w W ps) (hl : Locs ps) (hE : Ext W W') (hv : VlB (fun k => W.heap.size ≤ k) W' q c v) : Has w W' (vlA q c v :: ps) :=
  h.add (F := fun k => W.heap.size ≤ k ∧ k < W'.heap.size) hl hE ⟨hv.mono fun k h1 h2 => ⟨h1, h2⟩, fun k hk => hk.2⟩ (fun k hk => hk.1)
/-- a row and a value that is to be appended -/
def rvxA (T : TypeId) (v : Value) (es : List El) (e : El) : Asr := fun W F => RowV T F W v es ∧ VlB (fun k => F k ∧ v.ownBlock ≠ some k) W e.2.1 e.2.2 e.1
theorem rvxA_loc (T : TypeId) (v : Value) (es : List El) (e : El) : Loc (rvxA T v es e) :=
  ⟨fun h hk => ⟨(rvA_loc T v es).keep h.1 hk, h.2.keep fun k hb _ => hk k hb.1⟩, fun h hF => h.1.lt _ hF⟩
theorem Has.rvx {w W : World} {ps : List Asr} {T : TypeId} {v : Value} {es : List El} {e : El} (h : Has w W (rvA T v es :: vlA e.2.1 e.2.2 e.1 :: ps)) : Has w W (rvxA T v es e :: ps) :=
  h.merge fun F G h1 h2 hd => ⟨⟨h1.own, fun x hx => (h1.vals x hx).mono fun k hk _ => ⟨Or.inl hk.1, hk.2⟩, fun k hk => Or.inl (h1.in_ k hk), fun k hk => hk.elim (h1.lt k) (h2.2 k)⟩,
    h2.1.mono fun k hk _ => ⟨Or.inr hk, fun he => hd k (h1.in_ k he) hk⟩⟩
theorem RowV.grow {T : TypeId} {F : Nat → Prop} {W W2 : World} {v v' : Value} {es : List El} {e : El} (h : RowV T F W v es) (hxe : VlB (fun k => F k ∧ v.ownBlock ≠ some k) W e.2.1 e.2.2 e.1)
    (hown : W2.ownsRow 0 T 4 v' (es.length + 1) (els es ++ e.cells)) (hg : W.grownBy W2 v.ownBlock) (hf : Fresh W v v') : Next F W W2 (rvA T v' (es ++ [e])) := by
  have hkeep : ∀ k, (F k ∧ v.ownBlock ≠ some k) → k < W.heap.size → W2.heap[k]? = W.heap[k]? := fun k hk hl => hg.block k hl (fun e => hk.2 e.symm)
  have hmono : ∀ (x : El), VlB (fun k => F k ∧ v.ownBlock ≠ some k) W x.2.1 x.2.2 x.1 → VlB (fun k => (F k ∨ v'.ownBlock = some k) ∧ v'.ownBlock ≠ some k) W2 x.2.1 x.2.2 x.1 := fun x hx => by
    have h1 : VlB (fun k => (F k ∧ v.ownBlock ≠ some k) ∧ k < W.heap.size) W x.2.1 x.2.2 x.1 := hx.mono fun k hk hl => ⟨hk, hl⟩
    have h2 := h1.keep (W' := W2) fun k hk hl => hkeep k hk.1 hl
    refine h2.mono fun k hk _ => ⟨Or.inl hk.1.1, fun he => ?_⟩
    rcases hf.1 k he with h3 | h3
    · exact hk.1.2 h3
    · have := hk.2; omega
  refine Next.mk (F' := fun k => F k ∨ v'.ownBlock = some k) ⟨by rw [els_snoc, List.length_append]; exact hown, fun x hx => ?_, fun k hk => Or.inr hk, fun k hk => ?_⟩ ((grownBy.tch hg).mono fun k hk _ => h.in_ k hk) (fun k hk => ?_)
  · rcases List.mem_append.1 hx with hx | hx
    · exact hmono x (h.vals x hx)
    · rw [List.mem_singleton.1 hx]; exact hmono e hxe
  · rcases hk with hk | hk
    · exact Nat.lt_of_lt_of_le (h.lt k hk) hg.size
    · exact (hown.lt k hk).2
  · rcases hk with hk | hk
    · exact Or.inl hk
    · rcases hf.1 k hk with h3 | h3
      · exact Or.inl (h.in_ k h3)
      · exact Or.inr h3
/-- the row is a list of values -/
theorem RowV.fo {T : TypeId} {F : Nat → Prop} {W : World} {p : Option Addr} {n c : Nat} {es : List El} (h : RowV T F W (.slice p n c) es) : n = es.length ∧ (p = none → es.length = 0 ∧ c = 0) ∧ es.length ≤ c ∧ c ≤ Go.maxLen ∧ FoB F W p 0 (Fo.of (es.map Prod.fst)) := by
  rcases h.own.2 with ⟨hv, h0⟩ | ⟨g, cap, cur, hv, _, _, hc, hm, _⟩
  · injection hv with h1 h2 h3
    subst h1 h2 h3
    have : es = [] := List.eq_nil_of_length_eq_zero h0
    subst this
    exact ⟨rfl, fun _ => ⟨rfl, rfl⟩, Nat.le_refl _, Nat.zero_le _, trivial⟩
  · injection hv with h1 h2 h3
    subst h1 h2 h3
    refine ⟨rfl, fun h => (by cases h), hc, hm, ?_⟩
    refine els_fo (h.in_ g rfl) es 0 (fun j u hj => ?_) (fun e he => (h.vals e he).mono fun k hk _ => hk.1)
    have := h.own.cells (g := g) rfl j u hj
    rw [Go.WideShapes.add_plain] at this
    exact this
end Go.Proofs.Ytkkhcpknldlpoaa

namespace Go.Proofs.Ytkkhcpknldlpoaa
set_option maxRecDepth 4000
set_option linter.unusedVariables false
set_option linter.unusedSimpArgs false
open Go
/-- the operand's kind of an instruction: none, a value, a name, a place, an instruction, how many -/
def opTab : List Nat := [0, 1, 0, 0, 0, 0, 0, 0, 0, 0, 0, 4, 4, 3, 3, 0, 0, 0, 0, 0, 2, 0, 2, 2, 0, 0, 2, 0, 2, 5, 0, 0, 0]
def isOp (op : Int) : Prop := 0 ≤ op ∧ op < 33
instance (op : Int) : Decidable (isOp op) := by unfold isOp; exact inferInstance
def opnd (op : Int) : Nat := if isOp op then opTab.getD op.toNat 0 else 0
structure Im where
  code : List (Int × Int)
  consts : Fo
  names : List (List UInt8)
  places : Int
def Im.most (p : Im) (k : Nat) : Int := if k = 1 then p.consts.len else if k = 2 then p.names.length else if k = 3 then p.places else if k = 4 then p.code.length else if k = 5 then 17 else 1
def firstErr {α : Type} (f : α → Int) : List α → Int
  | [] => 0
  | x :: r => if f x ≠ 0 then f x else firstErr f r
def nameErr (s : List UInt8) : Int := if 64 < s.length then 2 else 0
def Im.codeErr (p : Im) (c : Int × Int) : Int := if ¬ isOp c.1 then 110 else if c.2 < 0 ∨ p.most (opnd c.1) ≤ c.2 then 1 else 0
def Im.check (p : Im) : Int :=
  if p.code.length = 0 then 6
  else if 512 < p.code.length ∨ 64 < p.consts.len ∨ 32 < p.names.length then 2
  else if p.places < 0 ∨ 16 < p.places then 1
  else if firstErr Vl.check p.consts.vals ≠ 0 then firstErr Vl.check p.consts.vals
  else if firstErr nameErr p.names ≠ 0 then firstErr nameErr p.names
  else firstErr p.codeErr p.code
def instrB (c : Int × Int) : List UInt8 := kindB c.1 :: if opnd c.1 ≠ 0 then numB c.2.toNat else []
def nameB (s : List UInt8) : List UInt8 := numB s.length ++ s
def Im.bytes (p : Im) : List UInt8 :=
  numB p.places.toNat ++ (numB p.consts.len ++ (p.consts.vals.flatMap Vl.bytes ++ (numB p.names.length ++ (p.names.flatMap nameB ++ (numB p.code.length ++ p.code.flatMap instrB)))))
def Im.clone (p : Im) : Im := ⟨p.code, p.consts.clone, p.names, p.places⟩
def Im.zero : Im := ⟨[], .nil, [], 0⟩
structure Im.ok (p : Im) : Prop where
  code : ∀ c ∈ p.code, i64b c.1 ∧ i64b c.2
  consts : p.consts.ok
  places : i64b p.places
theorem firstErr_zero {α : Type} {f : α → Int} : ∀ {l : List α}, firstErr f l = 0 ↔ ∀ x ∈ l, f x = 0
  | [] => by simp [firstErr]
  | x :: r => by
    rw [firstErr]
    by_cases h : f x = 0
    · rw [if_neg (by simpa using h), firstErr_zero]
      simp [h]
    · rw [if_pos h]
      simp [h]
theorem firstErr_map {α β : Type} {f : β → Int} {g : α → β} : ∀ (l : List α), firstErr f (l.map g) = firstErr (fun x => f (g x)) l
  | [] => rfl
  | x :: r => by rw [List.map_cons, firstErr, firstErr, firstErr_map]
theorem firstErr_take {α : Type} {f : α → Int} {l : List α} {i : Nat} (hi : i < l.length) (h : firstErr f (l.take i) = 0) :
    (f l[i] ≠ 0 → firstErr f l = f l[i]) ∧ (f l[i] = 0 → firstErr f (l.take (i + 1)) = 0) := by
  induction l generalizing i with
  | nil => simp at hi
  | cons v r ih =>
    cases i with
    | zero =>
      constructor
      · intro h1
        rw [List.getElem_cons_zero] at h1 ⊢
        rw [firstErr, if_pos h1]
      · intro h1
        rw [List.getElem_cons_zero] at h1
        rw [List.take_succ_cons, List.take_zero, firstErr, if_neg (by simpa using h1), firstErr]
    | succ i =>
      rw [List.take_succ_cons, firstErr] at h
      by_cases e0 : f v = 0
      · rw [if_neg (by simpa using e0)] at h
        obtain ⟨h1, h2⟩ := ih (by simpa using hi) h
        rw [List.getElem_cons_succ]
        constructor
        · intro h3; rw [firstErr, if_neg (by simpa using e0)]; exact h1 h3
        · intro h3; rw [List.take_succ_cons, firstErr, if_neg (by simpa using e0)]; exact h2 h3
      · rw [if_pos e0] at h
        exact absurd h e0
theorem Im.clone_check (p : Im) : p.clone.check = p.check := by
  have h1 : p.clone.consts.len = p.consts.len := Fo.clone_len _
  have h2 : firstErr Vl.check p.clone.consts.vals = firstErr Vl.check p.consts.vals := by
    show firstErr Vl.check p.consts.clone.vals = _
    rw [Fo.clone_vals, firstErr_map]
    congr 1
    funext v
    exact v.clone_check
  have h3 : p.clone.codeErr = p.codeErr := by
    funext c
    unfold Im.codeErr Im.most
    rw [h1]; rfl
  unfold Im.check
  rw [h1, h2, h3]; rfl
theorem Im.clone_bytes (p : Im) : p.clone.bytes = p.bytes := by
  have h1 : p.clone.consts.len = p.consts.len := Fo.clone_len _
  have h2 : p.clone.consts.vals.flatMap Vl.bytes = p.consts.vals.flatMap Vl.bytes := by
    rw [← Fo.bytes_vals, ← Fo.bytes_vals]; exact Fo.clone_bytes _
  unfold Im.bytes
  rw [h1, h2]; rfl
theorem Im.clone_ok {p : Im} (h : p.ok) : p.clone.ok := ⟨h.code, Fo.clone_ok h.consts, h.places⟩
/-- what an image that may be has -/
structure Im.Fine (p : Im) : Prop where
  ncode : 0 < p.code.length ∧ p.code.length ≤ 512
  nconsts : p.consts.len ≤ 64
  nnames : p.names.length ≤ 32
  nplaces : 0 ≤ p.places ∧ p.places ≤ 16
  consts : ∀ v ∈ p.consts.vals, v.check = 0
  names : ∀ s ∈ p.names, s.length ≤ 64
  code : ∀ c ∈ p.code, isOp c.1 ∧ 0 ≤ c.2 ∧ c.2 < 513
theorem Im.fine {p : Im} (h : p.check = 0) : p.Fine := by
  unfold Im.check at h
  by_cases h1 : p.code.length = 0
  · rw [if_pos h1] at h; exact absurd h (by decide)
  rw [if_neg h1] at h
  by_cases h2 : 512 < p.code.length ∨ 64 < p.consts.len ∨ 32 < p.names.length
  · rw [if_pos h2] at h; exact absurd h (by decide)
  rw [if_neg h2] at h
  by_cases h3 : p.places < 0 ∨ 16 < p.places
  · rw [if_pos h3] at h; exact absurd h (by decide)
  rw [if_neg h3] at h
  by_cases h4 : firstErr Vl.check p.consts.vals = 0
  case neg => rw [if_pos h4] at h; exact absurd h h4
  rw [if_neg (by simpa using h4)] at h
  by_cases h5 : firstErr nameErr p.names = 0
  case neg => rw [if_pos h5] at h; exact absurd h h5
  rw [if_neg (by simpa using h5)] at h
  refine ⟨by omega, by omega, by omega, by omega, firstErr_zero.1 h4, fun s hs => ?_, fun c hc => ?_⟩
  · have := firstErr_zero.1 h5 s hs
    unfold nameErr at this
    split at this
    · exact absurd this (by decide)
    · omega
  · have := firstErr_zero.1 h c hc
    unfold Im.codeErr at this
    by_cases h6 : isOp c.1
    · rw [if_neg (by simpa using h6)] at this
      split at this
      · exact absurd this (by decide)
      · rename_i h7
        refine ⟨h6, by omega, ?_⟩
        have hm : p.most (opnd c.1) ≤ 513 := by
          unfold Im.most
          split
          · omega
          split
          · omega
          split
          · omega
          split
          · omega
          split <;> omega
        omega
    · rw [if_pos h6] at this; exact absurd this (by decide)
def overO (x : Nat) : RdM Unit := if isOp (x : Int) then rPure () else rFail 110
def readIn : RdM (Int × Int) := rBind Rd.byte fun x => rBind (overO x) fun _ => if opnd (x : Int) ≠ 0 then rBind (Rd.num 512) fun a => rPure ((x : Int), (a : Int)) else rPure ((x : Int), 0)
def decodeR : RdM Im := rBind (Rd.num 16) fun pl => rBind (Rd.num 64) fun n => rBind (rep readVal n) fun cs => rBind (Rd.num 32) fun m => rBind (rep Rd.text m) fun ns => rBind (Rd.num 512) fun k => rBind (rep readIn k) fun code => rPure ⟨code, Fo.of cs, ns, (pl : Int)⟩
def decodeE (b : List UInt8) : Im × Int :=
  if (decodeR ⟨b, 0, 0⟩).2.end_ ≠ 0 then (Im.zero, (decodeR ⟨b, 0, 0⟩).2.end_)
  else if (decodeR ⟨b, 0, 0⟩).1.check ≠ 0 then (Im.zero, (decodeR ⟨b, 0, 0⟩).1.check)
  else ((decodeR ⟨b, 0, 0⟩).1, 0)
theorem Good.overO (x : Nat) : Good (overO x) := Good.ite (fun _ => Good.pure _) fun _ => Good.fail (by decide)
theorem Good.readIn : Good readIn := Good.byte.bind fun x => (Good.overO x).bind fun _ => Good.ite (fun _ => (Good.num _).bind fun _ => Good.pure _) fun _ => Good.pure _
theorem Good.decodeR : Good decodeR := (Good.num _).bind fun _ => (Good.num _).bind fun _ => (Good.rep Good.readVal _).bind fun _ => (Good.num _).bind fun _ => (Good.rep Good.text _).bind fun _ => (Good.num _).bind fun _ => (Good.rep Good.readIn _).bind fun _ => Good.pure _
theorem overO_none (x : Nat) : Wr (overO x) fun _ l => l = [] := Wr.ite (fun _ => Wr.pure rfl) fun _ => Wr.fail (by decide)
theorem kindB_ofNat (x : Nat) : kindB (x : Int) = UInt8.ofNat x := by
  unfold kindB
  have : ((x : Int) % 256).toNat = x % 256 := by omega
  rw [this]
  apply UInt8.toNat_inj.1
  simp
theorem Wr.readIn : Wr readIn fun c l => l = instrB c := by
  refine Wr.bind Good.byte (fun x => (Good.overO x).bind fun _ => Good.ite (fun _ => (Good.num _).bind fun _ => Good.pure _) fun _ => Good.pure _) Wr.byte fun x l hl => Wr.bind (Good.overO x) (fun _ => Good.ite (fun _ => (Good.num _).bind fun _ => Good.pure _) fun _ => Good.pure _) (overO_none x) fun _ l0 h0 => ?_
  subst hl h0
  refine Wr.ite (fun h => ?_) fun h => ?_
  · refine Wr.bind (Good.num _) (fun _ => Good.pure _) (Wr.num _) fun n l hl => Wr.pure ?_
    subst hl
    unfold instrB
    rw [if_pos h, kindB_ofNat]
    simp
  · refine Wr.pure ?_
    unfold instrB
    rw [if_neg h, kindB_ofNat]
    simp
theorem Wr.decodeR : Wr decodeR fun p l => l = p.bytes := by
  have g7 : ∀ (cs : List Vl) (ns : List (List UInt8)) (pl k : Nat), Good (rBind (Go.Proofs.Ytkkhcpknldlpoaa.rep Go.Proofs.Ytkkhcpknldlpoaa.readIn k) fun code => rPure (⟨code, Fo.of cs, ns, (pl : Int)⟩ : Im)) := fun cs ns pl k => (Good.rep Good.readIn _).bind fun _ => Good.pure _
  have g6 := fun (cs : List Vl) (ns : List (List UInt8)) (pl : Nat) => (Good.num 512).bind fun k => g7 cs ns pl k
  have g5 := fun (cs : List Vl) (pl m : Nat) => (Good.rep Good.text m).bind fun ns => g6 cs ns pl
  have g4 := fun (cs : List Vl) (pl : Nat) => (Good.num 32).bind fun m => g5 cs pl m
  have g3 := fun (pl n : Nat) => (Good.rep Good.readVal n).bind fun cs => g4 cs pl
  have g2 := fun (pl : Nat) => (Good.num 64).bind fun n => g3 pl n
  refine Wr.bind (Good.num _) g2 (Wr.num _) fun pl l1 h1 => ?_
  refine Wr.bind (Good.num _) (g3 pl) (Wr.num _) fun n l2 h2 => ?_
  refine Wr.bind (Good.rep Good.readVal n) (fun cs => g4 cs pl) (Wr.rep (enc := Vl.bytes) Good.readVal Wr.readVal n) fun cs l3 h3 => ?_
  refine Wr.bind (Good.num _) (g5 cs pl) (Wr.num _) fun m l4 h4 => ?_
  refine Wr.bind (Good.rep Good.text m) (fun ns => g6 cs ns pl) (Wr.rep (enc := nameB) Good.text Wr.text m) fun ns l5 h5 => ?_
  refine Wr.bind (Good.num _) (g7 cs ns pl) (Wr.num _) fun k l6 h6 => ?_
  refine Wr.bind (Good.rep Good.readIn k) (fun _ => Good.pure _) (Wr.rep (enc := instrB) Good.readIn Wr.readIn k) fun code l7 h7 => Wr.pure ?_
  obtain ⟨h3, e3⟩ := h3
  obtain ⟨h5, e5⟩ := h5
  obtain ⟨h7, e7⟩ := h7
  subst h1 h2 h3 h4 h5 h6 h7 e3 e5 e7
  unfold Im.bytes
  simp [Fo.of_vals, Fo.of_len]
theorem Ret.readIn : Ret readIn fun c => i64b c.1 ∧ i64b c.2 :=
  Ret.bind Ret.byte fun x hx => Ret.bind (Ret.any _) fun _ _ => Ret.ite (fun _ => Ret.bind (P := fun n => n ≤ 512) (fun s => Rd.num_le _ s) fun a ha => Ret.pure ⟨i64b_nat hx, by unfold i64b; omega⟩) fun _ => Ret.pure ⟨i64b_nat hx, by unfold i64b; omega⟩
theorem Ret.decodeR : Ret decodeR Im.ok :=
  Ret.bind (P := fun n => n ≤ 16) (fun s => Rd.num_le _ s) fun pl hpl => Ret.bind (Ret.any _) fun n _ => Ret.bind (Ret.rep Ret.readVal n) fun cs hcs => Ret.bind (Ret.any _) fun m _ => Ret.bind (Ret.any _) fun ns _ => Ret.bind (Ret.any _) fun k _ => Ret.bind (Ret.rep Ret.readIn k) fun code hc => Ret.pure ⟨hc.2, Fo.of_ok hcs.2, by unfold i64b; show _ ≤ (pl : Int) ∧ (pl : Int) ≤ _; omega⟩
theorem rd_end0 {s : Rd} (h : s.end_ = 0) : s.err = 0 ∧ ¬ s.at_ < s.b.length := by
  unfold Rd.end_ at h
  by_cases h1 : s.err = 0 ∧ s.at_ < s.b.length
  · rw [if_pos h1] at h; exact absurd h (by decide)
  · rw [if_neg h1] at h
    exact ⟨h, fun h2 => h1 ⟨h, h2⟩⟩
/-- ONE FORM ALONE -/
theorem decode_form {b : List UInt8} {p : Im} (h : decodeE b = (p, 0)) : p.check = 0 ∧ p.bytes = b ∧ p.ok := by
  unfold decodeE at h
  by_cases h1 : (decodeR ⟨b, 0, 0⟩).2.end_ = 0
  case neg => rw [if_pos h1] at h; injection h with _ h; exact absurd h h1
  rw [if_neg (by simpa using h1)] at h
  by_cases h2 : (decodeR ⟨b, 0, 0⟩).1.check = 0
  case neg => rw [if_pos h2] at h; injection h with _ h; exact absurd h h2
  rw [if_neg (by simpa using h2)] at h
  injection h with h _
  subst h
  obtain ⟨e1, e2⟩ := rd_end0 h1
  obtain ⟨l, h3, h4⟩ := Wr.decodeR ⟨b, 0, 0⟩ (Nat.zero_le _) e1
  have h5 := Good.decodeR.same ⟨b, 0, 0⟩
  refine ⟨h2, ?_, Ret.decodeR _⟩
  rw [← h3]
  simp only [List.drop_zero] at h4
  rw [h5] at e2
  simp only at e2
  rw [List.drop_eq_nil_of_le (by omega), List.append_nil] at h4
  exact h4.symm
theorem decode_zero {b : List UInt8} (h : (decodeE b).2 ≠ 0) : (decodeE b).1 = Im.zero := by
  unfold decodeE at h ⊢
  by_cases h1 : (decodeR ⟨b, 0, 0⟩).2.end_ = 0
  · rw [if_neg (by simpa using h1)] at h ⊢
    by_cases h2 : (decodeR ⟨b, 0, 0⟩).1.check = 0
    · rw [if_neg (by simpa using h2)] at h; exact absurd rfl h
    · rw [if_pos h2]
  · rw [if_pos h1]
theorem Rb.readIn {c : Int × Int} (h1 : isOp c.1) (h2 : 0 ≤ c.2) (h3 : c.2 ≤ 512) (h4 : opnd c.1 = 0 → c.2 = 0) : Rb readIn (instrB c) c := by
  obtain ⟨o, a⟩ := c
  obtain ⟨g1, g2⟩ := h1
  simp only at g1 g2 h2 h3 h4
  obtain ⟨x, rfl⟩ := Int.eq_ofNat_of_zero_le g1
  obtain ⟨y, rfl⟩ := Int.eq_ofNat_of_zero_le h2
  have hb : Rb Rd.byte [kindB (x : Int)] x := by
    have := Rb.byte (UInt8.ofNat x)
    rw [kindB_ofNat]
    rwa [UInt8.toNat_ofNat_of_lt' (by omega : x < 256)] at this
  by_cases h5 : opnd (x : Int) = 0
  · have e : instrB ((x : Int), (y : Int)) = [kindB (x : Int)] ++ [] := by
      unfold instrB
      simp only
      rw [if_neg (fun h => h h5)]; rfl
    rw [e]
    refine Rb.bind (l := [kindB (x : Int)]) hb (Rb.bind0 (Rb.ite_pos ⟨g1, g2⟩ (Rb.pure _)) ?_)
    refine Rb.ite_neg (fun h => h h5) ?_
    rw [h4 h5]
    exact Rb.pure _
  · have e : instrB ((x : Int), (y : Int)) = [kindB (x : Int)] ++ numB y := by
      unfold instrB
      simp only
      rw [if_pos h5]; rfl
    rw [e]
    refine Rb.bind (l := [kindB (x : Int)]) hb (Rb.bind0 (Rb.ite_pos ⟨g1, g2⟩ (Rb.pure _)) ?_)
    refine Rb.ite_pos h5 ?_
    exact Rb.last (Rb.num (by omega) (by omega)) (Rb.pure _)
theorem most_none (p : Im) {k : Nat} (h : k = 0) : p.most k = 1 := by subst h; rfl
theorem Im.code_none {p : Im} (h : p.check = 0) : ∀ c ∈ p.code, opnd c.1 = 0 → c.2 = 0 := by
  intro c hc h0
  have hf := (Im.fine h).code c hc
  have : p.codeErr c = 0 := by
    have h' := h
    unfold Im.check at h'
    split at h'
    · exact absurd h' (by decide)
    split at h'
    · exact absurd h' (by decide)
    split at h'
    · exact absurd h' (by decide)
    split at h'
    · rename_i hh; exact absurd h' hh
    split at h'
    · rename_i hh; exact absurd h' hh
    exact firstErr_zero.1 h' c hc
  unfold Im.codeErr at this
  rw [if_neg (by simpa using hf.1), most_none p h0] at this
  split at this
  · exact absurd this (by decide)
  · omega
theorem Im.read {p : Im} (h : p.check = 0) (hok : p.ok) : Rb decodeR p.bytes p.clone := by
  have hf := Im.fine h
  have hn := Im.code_none h
  obtain ⟨pl, hpl⟩ := Int.eq_ofNat_of_zero_le hf.nplaces.1
  have hplN : p.places.toNat = pl := by rw [hpl]; rfl
  have hp1 := hf.nplaces
  have hp2 := hf.nconsts
  have hp3 := hf.nnames
  have hp4 := hf.ncode
  have h512 : ∀ c ∈ p.code, c.2 ≤ 512 := fun c hc => by have := (hf.code c hc).2; omega
  have r3 := Rb.rep (m := Go.Proofs.Ytkkhcpknldlpoaa.readVal) (enc := Vl.bytes) (dec := Vl.clone) p.consts.vals (fun v hv => Rb.readVal (Fo.vals_ok hok.consts v hv) (hf.consts v hv)) p.consts.len (Nat.le_of_eq (Fo.vals_len _).symm)
  have r5 := Rb.rep (m := Rd.text) (enc := nameB) (dec := id) p.names (fun s hs => Rb.text (by have := hf.names s hs; omega)) p.names.length (Nat.le_refl _)
  have r7 := Rb.rep (m := Go.Proofs.Ytkkhcpknldlpoaa.readIn) (enc := instrB) (dec := id) p.code (fun c hc => Rb.readIn (hf.code c hc).1 (hf.code c hc).2.1 (h512 c hc) (hn c hc)) p.code.length (Nat.le_refl _)
  rw [← Fo.vals_len, List.take_of_length_le (Nat.le_refl _), Fo.vals_len] at r3
  rw [List.take_of_length_le (Nat.le_refl _), List.map_id] at r5 r7
  unfold Im.bytes
  rw [hplN]
  have e : p.clone = ⟨p.code, Fo.of (p.consts.vals.map Vl.clone), p.names, (pl : Int)⟩ := by
    unfold Im.clone
    rw [Fo.of_map_clone, hpl]
  rw [e]
  refine Rb.bind (Rb.num (by omega) (by omega)) ?_
  refine Rb.bind (Rb.num (by omega) hf.nconsts) ?_
  refine Rb.bind r3 ?_
  refine Rb.bind (Rb.num (by omega) hf.nnames) ?_
  refine Rb.bind r5 ?_
  refine Rb.bind (Rb.num (by omega) hf.ncode.2) ?_
  exact Rb.last r7 (Rb.pure _)
theorem decode_read {p : Im} (h : p.check = 0) (hok : p.ok) (t : List UInt8) : decodeR ⟨p.bytes ++ t, 0, 0⟩ = (p.clone, ⟨p.bytes ++ t, p.bytes.length, 0⟩) := by
  have := Im.read h hok (p.bytes ++ t) 0 t rfl (Nat.zero_le _)
  rwa [Nat.zero_add] at this
theorem decode_bytes {p : Im} (h : p.check = 0) (hok : p.ok) : decodeE p.bytes = (p.clone, 0) := by
  have := decode_read h hok []
  rw [List.append_nil] at this
  unfold decodeE
  rw [this]
  have he : Rd.end_ ⟨p.bytes, p.bytes.length, 0⟩ = 0 := by
    unfold Rd.end_
    rw [if_neg (by simp)]
  simp only
  rw [he, if_neg (by decide), if_neg (by rw [Im.clone_check, h]; decide)]
theorem decode_more {p : Im} (h : p.check = 0) (hok : p.ok) (x : UInt8) : (decodeE (p.bytes ++ [x])).2 = 8 := by
  have := decode_read h hok [x]
  unfold decodeE
  rw [this]
  have he : Rd.end_ ⟨p.bytes ++ [x], p.bytes.length, 0⟩ = 8 := by
    unfold Rd.end_
    rw [if_pos ⟨rfl, by simp⟩]
  simp only
  rw [he, if_pos (by decide)]
theorem decode_cut {p : Im} (h : p.check = 0) (hok : p.ok) {n : Nat} (hn : n < p.bytes.length) : (decodeE (p.bytes.take n)).2 = 6 := by
  have h1 := decode_read h hok []
  rw [List.append_nil] at h1
  have h2 := Good.decodeR.cut ⟨p.bytes, 0, 0⟩ n rfl (Nat.zero_le _) (Nat.le_of_lt hn) (by rw [h1])
  rw [h1] at h2
  rcases h2 with ⟨h3, _⟩ | ⟨_, h3⟩
  · exact absurd h3 (by simp only; omega)
  · have h4 : (decodeR ⟨p.bytes.take n, 0, 0⟩).2.err = 6 := h3
    have h5 : (decodeR ⟨p.bytes.take n, 0, 0⟩).2.end_ = 6 := by
      unfold Rd.end_
      rw [if_neg (fun h => by rw [h4] at h; exact absurd h.1 (by decide)), h4]
    unfold decodeE
    rw [h5, if_pos (by decide)]
end Go.Proofs.Ytkkhcpknldlpoaa

namespace Go.Proofs.Ytkkhcpknldlpoaa
set_option maxRecDepth 4000
set_option linter.unusedVariables false
set_option linter.unusedSimpArgs false
open Go Go.RowKit
structure IRow where
  name : List UInt8
  operand : Nat
  in_ : Nat
  out : Nat
  blocks : Bool
  ends : Bool
  flow : Bool
def IRow.cells (r : IRow) : List Value := [.string ⟨r.name.toArray⟩, .int .i64 r.operand, .int .i64 r.in_, .int .i64 r.out, .bool r.blocks, .bool r.ends, .bool r.flow]
def IRow.zero : IRow := ⟨[], 0, 0, 0, false, false, false⟩
def infoTab : List IRow := [
  ⟨[110, 111, 112], 0, 0, 0, false, false, false⟩,
  ⟨[112, 117, 115, 104], 1, 0, 1, false, false, false⟩,
  ⟨[112, 111, 112], 0, 1, 0, false, false, false⟩,
  ⟨[100, 117, 112], 0, 1, 2, false, false, false⟩,
  ⟨[115, 119, 97, 112], 0, 2, 2, false, false, false⟩,
  ⟨[97, 100, 100], 0, 2, 1, false, false, false⟩,
  ⟨[115, 117, 98], 0, 2, 1, false, false, false⟩,
  ⟨[109, 117, 108], 0, 2, 1, false, false, false⟩,
  ⟨[115, 97, 109, 101], 0, 2, 1, false, false, false⟩,
  ⟨[108, 101, 115, 115], 0, 2, 1, false, false, false⟩,
  ⟨[110, 111, 116], 0, 1, 1, false, false, false⟩,
  ⟨[106, 117, 109, 112], 4, 0, 0, false, false, true⟩,
  ⟨[117, 110, 108, 101, 115, 115], 4, 1, 0, false, false, true⟩,
  ⟨[108, 111, 97, 100], 3, 0, 1, false, false, false⟩,
  ⟨[115, 116, 111, 114, 101], 3, 1, 0, false, false, false⟩,
  ⟨[105, 110, 112, 117, 116], 0, 0, 1, false, false, false⟩,
  ⟨[110, 111, 119], 0, 0, 1, false, false, false⟩,
  ⟨[116, 105, 109, 101, 114], 0, 1, 1, false, false, false⟩,
  ⟨[119, 97, 105, 116], 0, 1, 1, true, false, false⟩,
  ⟨[99, 97, 110, 99, 101, 108], 0, 1, 1, false, false, false⟩,
  ⟨[99, 97, 108, 108], 2, 2, 1, false, false, false⟩,
  ⟨[106, 111, 105, 110], 0, 1, 2, true, false, false⟩,
  ⟨[115, 105, 103, 110, 97, 108], 2, 0, 1, true, false, false⟩,
  ⟨[112, 111, 108, 108], 2, 0, 2, false, false, false⟩,
  ⟨[97, 115, 107, 101, 100], 0, 0, 1, false, false, false⟩,
  ⟨[114, 101, 116, 117, 114, 110], 0, 1, 0, false, true, false⟩,
  ⟨[102, 97, 105, 108], 2, 0, 0, false, true, false⟩,
  ⟨[97, 103, 97, 105, 110], 0, 1, 0, false, true, false⟩,
  ⟨[101, 105, 116, 104, 101, 114], 2, 1, 2, true, false, false⟩,
  ⟨[112, 97, 99, 107], 5, 0, 1, false, false, false⟩,
  ⟨[105, 116, 101, 109], 0, 2, 1, false, false, false⟩,
  ⟨[115, 105, 122, 101], 0, 1, 1, false, false, false⟩,
  ⟨[99, 97, 116], 0, 2, 1, false, false, false⟩]
def info (op : Int) : IRow := if isOp op then infoTab.getD op.toNat IRow.zero else IRow.zero
def isOpB (op : Int) : Bool := decide (isOp op)
theorem info_lit (k : Nat) (h : k < 33) : info (k : Int) = infoTab.getD k IRow.zero := by
  unfold info
  rw [if_pos ⟨by omega, by omega⟩]; rfl
theorem isOpB_lit (k : Nat) (h : k < 33) : isOpB (k : Int) = true := decide_eq_true ⟨by omega, by omega⟩
theorem info_none {op : Int} (h : ¬ isOp op) : info op = IRow.zero := if_neg h
theorem isOpB_none {op : Int} (h : ¬ isOp op) : isOpB op = false := decide_eq_false h
theorem isOp_nat {op : Int} (h : isOp op) : ∃ k : Nat, k < 33 ∧ op = k := ⟨op.toNat, by have := h.2; omega, by have := h.1; omega⟩
theorem info_operand (op : Int) : (info op).operand = opnd op := by
  by_cases h : isOp op
  · obtain ⟨k, hk, rfl⟩ := isOp_nat h
    have : ∀ k : Fin 33, (infoTab.getD k.1 IRow.zero).operand = opTab.getD k.1 0 := by decide
    rw [info_lit k hk]
    unfold opnd
    rw [if_pos h]
    exact this ⟨k, hk⟩
  · rw [info_none h]; unfold opnd; rw [if_neg h]; rfl
def signTab : List Nat := [45, 99, 45, 45, 45, 45, 45, 45, 45, 45, 45, 116, 116, 112, 112, 45, 45, 45, 45, 45, 110, 45, 110, 110, 45, 45, 110, 45, 110, 107, 45, 45, 45]
theorem below33 {k : Nat} (h : k < 33) : k = 0 ∨ k = 1 ∨ k = 2 ∨ k = 3 ∨ k = 4 ∨ k = 5 ∨ k = 6 ∨ k = 7 ∨ k = 8 ∨ k = 9 ∨ k = 10 ∨ k = 11 ∨ k = 12 ∨ k = 13 ∨ k = 14 ∨ k = 15 ∨ k = 16 ∨ k = 17 ∨ k = 18 ∨ k = 19 ∨ k = 20 ∨ k = 21 ∨ k = 22 ∨ k = 23 ∨ k = 24 ∨ k = 25 ∨ k = 26 ∨ k = 27 ∨ k = 28 ∨ k = 29 ∨ k = 30 ∨ k = 31 ∨ k = 32 := by omega
set_option maxHeartbeats 8000000 in
theorem waits_lit (k : Nat) (hk : k < 33)(h17 : 17 ≤ k) (W : World) : Calls Try.prog 56 #[.int .i64 k] W fun e W' => e = .returned (.tuple #[.agg (infoTab.getD k IRow.zero).cells.toArray, .bool true]) ∧ Ext W W' := by
  rcases below33 hk with rfl | rfl | rfl | rfl | rfl | rfl | rfl | rfl | rfl | rfl | rfl | rfl | rfl | rfl | rfl | rfl | rfl | rfl | rfl | rfl | rfl | rfl | rfl | rfl | rfl | rfl | rfl | rfl | rfl | rfl | rfl | rfl | rfl
  all_goals first | (exfalso; omega) | skip
  all_goals (
    go_enter Try.func56, Try.ntmps56
    go_wp2_with fail
    go_returns
    exact ⟨rfl, ext_alloc _ _⟩)
theorem waits_none (op : Int) (h : ¬ isOp op) (W : World) : Calls Try.prog 56 #[.int .i64 op] W fun e W' => e = .returned (.tuple #[.agg IRow.zero.cells.toArray, .bool false]) ∧ Ext W W' := by
  unfold isOp at h
  have e0 : (op == 0) = false := by simp; omega
  have e1 : (op == 1) = false := by simp; omega
  have e2 : (op == 2) = false := by simp; omega
  have e3 : (op == 3) = false := by simp; omega
  have e4 : (op == 4) = false := by simp; omega
  have e5 : (op == 5) = false := by simp; omega
  have e6 : (op == 6) = false := by simp; omega
  have e7 : (op == 7) = false := by simp; omega
  have e8 : (op == 8) = false := by simp; omega
  have e9 : (op == 9) = false := by simp; omega
  have e10 : (op == 10) = false := by simp; omega
  have e11 : (op == 11) = false := by simp; omega
  have e12 : (op == 12) = false := by simp; omega
  have e13 : (op == 13) = false := by simp; omega
  have e14 : (op == 14) = false := by simp; omega
  have e15 : (op == 15) = false := by simp; omega
  have e16 : (op == 16) = false := by simp; omega
  have e17 : (op == 17) = false := by simp; omega
  have e18 : (op == 18) = false := by simp; omega
  have e19 : (op == 19) = false := by simp; omega
  have e20 : (op == 20) = false := by simp; omega
  have e21 : (op == 21) = false := by simp; omega
  have e22 : (op == 22) = false := by simp; omega
  have e23 : (op == 23) = false := by simp; omega
  have e24 : (op == 24) = false := by simp; omega
  have e25 : (op == 25) = false := by simp; omega
  have e26 : (op == 26) = false := by simp; omega
  have e27 : (op == 27) = false := by simp; omega
  have e28 : (op == 28) = false := by simp; omega
  have e29 : (op == 29) = false := by simp; omega
  have e30 : (op == 30) = false := by simp; omega
  have e31 : (op == 31) = false := by simp; omega
  have e32 : (op == 32) = false := by simp; omega
  clear h
  go_enter Try.func56, Try.ntmps56
  go_wp2_with fail
  go_returns
  exact ⟨rfl, ext_alloc _ _⟩
set_option maxHeartbeats 8000000 in
theorem of_small (k : Nat) (hk : k < 33)(h17 : k < 17) (W : World) : Calls Try.prog 21 #[.int .i64 k] W fun e W' => e = .returned (.tuple #[.agg (infoTab.getD k IRow.zero).cells.toArray, .bool true]) ∧ Ext W W' := by
  rcases below33 hk with rfl | rfl | rfl | rfl | rfl | rfl | rfl | rfl | rfl | rfl | rfl | rfl | rfl | rfl | rfl | rfl | rfl | rfl | rfl | rfl | rfl | rfl | rfl | rfl | rfl | rfl | rfl | rfl | rfl | rfl | rfl | rfl | rfl
  all_goals first | (exfalso; omega) | skip
  all_goals (
    go_enter Try.func21, Try.ntmps21
    go_wp2_with fail
    go_returns
    exact ⟨rfl, ext_alloc _ _⟩)
set_option maxHeartbeats 8000000 in
theorem of_big (op : Int) (b : Bool) (c : IRow) (h : op < 0 ∨ 17 ≤ op) (hw : ∀ X, Calls Try.prog 56 #[.int .i64 op] X fun e W' => e = .returned (.tuple #[.agg c.cells.toArray, .bool b]) ∧ Ext X W') (W : World) : Calls Try.prog 21 #[.int .i64 op] W fun e W' => e = .returned (.tuple #[.agg c.cells.toArray, .bool b]) ∧ Ext W W' := by
  have e0 : (op == 0) = false := by simp; omega
  have e1 : (op == 1) = false := by simp; omega
  have e2 : (op == 2) = false := by simp; omega
  have e3 : (op == 3) = false := by simp; omega
  have e4 : (op == 4) = false := by simp; omega
  have e5 : (op == 5) = false := by simp; omega
  have e6 : (op == 6) = false := by simp; omega
  have e7 : (op == 7) = false := by simp; omega
  have e8 : (op == 8) = false := by simp; omega
  have e9 : (op == 9) = false := by simp; omega
  have e10 : (op == 10) = false := by simp; omega
  have e11 : (op == 11) = false := by simp; omega
  have e12 : (op == 12) = false := by simp; omega
  have e13 : (op == 13) = false := by simp; omega
  have e14 : (op == 14) = false := by simp; omega
  have e15 : (op == 15) = false := by simp; omega
  have e16 : (op == 16) = false := by simp; omega
  have hE := ext_alloc W (.cells IRow.zero.cells.toArray 46)
  simp only [IRow.cells, IRow.zero] at hw hE
  simp only [IRow.cells]
  clear h
  go_enter Try.func21, Try.ntmps21
  go_wp2_with fail
  refine (hw _).mono ?_
  rintro e w2 ⟨rfl, hE2⟩
  have hbl := (Blk.new W 46 (IRow.cells IRow.zero).toArray).of_eq (hE2.block _ (Blk.new W 46 (IRow.cells IRow.zero).toArray).lt)
  simp only [IRow.cells, IRow.zero] at hbl
  have c0 := hbl.cell 0
  have c1 := hbl.cell 1
  have c2 := hbl.cell 2
  have c3 := hbl.cell 3
  have c4 := hbl.cell 4
  have c5 := hbl.cell 5
  have c6 := hbl.cell 6
  have f0 := hbl.frozen 0
  have f1 := hbl.frozen 1
  have f2 := hbl.frozen 2
  have f3 := hbl.frozen 3
  have f4 := hbl.frozen 4
  have f5 := hbl.frozen 5
  have f6 := hbl.frozen 6
  simp only [List.getElem?_toArray, List.getElem?_cons_zero, List.getElem?_cons_succ] at c0 c1 c2 c3 c4 c5 c6
  have hx : W.heap.size < w2.heap.size := hbl.lt
  go_wp2_with fail
  have hF := ((((((hbl.set_ 0 (.string ⟨c.name.toArray⟩)).set_ 1 (.int .i64 c.operand)).set_ 2 (.int .i64 c.in_)).set_ 3 (.int .i64 c.out)).set_ 4 (.bool c.blocks)).set_ 5 (.bool c.ends)).set_ 6 (.bool c.flow)
  simp only [List.setIfInBounds_toArray, List.set_cons_succ, List.set_cons_zero] at hF
  have hE9 : Ext W (((((((w2.setCell ⟨W.heap.size, 0, none⟩ (.string ⟨c.name.toArray⟩)).setCell ⟨W.heap.size, 1, none⟩ (.int .i64 c.operand)).setCell ⟨W.heap.size, 2, none⟩ (.int .i64 c.in_)).setCell ⟨W.heap.size, 3, none⟩ (.int .i64 c.out)).setCell ⟨W.heap.size, 4, none⟩ (.bool c.blocks)).setCell ⟨W.heap.size, 5, none⟩ (.bool c.ends)).setCell ⟨W.heap.size, 6, none⟩ (.bool c.flow)) :=
    (((((((hE.trans hE2).setCell (Nat.le_refl _) _).setCell (Nat.le_refl _) _).setCell (Nat.le_refl _) _).setCell (Nat.le_refl _) _).setCell (Nat.le_refl _) _).setCell (Nat.le_refl _) _).setCell (Nat.le_refl _) _
  generalize World.setCell _ _ _ = w9 at *
  clear c0 c1 c2 c3 c4 c5 c6
  have c0 := hF.cell 0
  have c1 := hF.cell 1
  have c2 := hF.cell 2
  have c3 := hF.cell 3
  have c4 := hF.cell 4
  have c5 := hF.cell 5
  have c6 := hF.cell 6
  simp only [List.getElem?_toArray, List.getElem?_cons_zero, List.getElem?_cons_succ] at c0 c1 c2 c3 c4 c5 c6
  (try simp only [Exit.inBlock, Exit.then])
  refine bodyPost_ret (by simp [results, Try.results21, go_sem, c0, c1, c2, c3, c4, c5, c6]; try rfl) rfl ?_
  exact ⟨rfl, hE9⟩
theorem of_any (op : Int) (W : World) : Calls Try.prog 21 #[.int .i64 op] W fun e W' => e = .returned (.tuple #[.agg (info op).cells.toArray, .bool (isOpB op)]) ∧ Ext W W' := by
  by_cases h : isOp op
  · obtain ⟨k, hk, rfl⟩ := isOp_nat h
    rw [info_lit k hk, isOpB_lit k hk]
    rcases Nat.lt_or_ge k 17 with h17 | h17
    · exact of_small k hk h17 W
    · exact of_big k true _ (by omega) (fun X => waits_lit k hk h17 X) W
  · rw [info_none h, isOpB_none h]
    exact of_big op false _ (by unfold isOp at h; omega) (fun X => waits_none op h X) W
theorem tab_name : ∀ k : Fin 33, ((infoTab.map fun r => Value.string ⟨r.name.toArray⟩)[k.1]'k.2) = .string ⟨(infoTab.getD k.1 IRow.zero).name.toArray⟩ := by
  rintro ⟨k, hk⟩
  rcases below33 hk with rfl | rfl | rfl | rfl | rfl | rfl | rfl | rfl | rfl | rfl | rfl | rfl | rfl | rfl | rfl | rfl | rfl | rfl | rfl | rfl | rfl | rfl | rfl | rfl | rfl | rfl | rfl | rfl | rfl | rfl | rfl | rfl | rfl
  all_goals rfl
theorem rname_lit (k : Nat) (hk : k < 33) (W : World) : Calls Try.prog 19 #[.int .i64 k] W fun e W' => e = .returned (.string ⟨(infoTab.getD k IRow.zero).name.toArray⟩) ∧ Ext W W' := by
  have hT := Lib.hid (tab_name ⟨k, hk⟩)
  go_enter Try.func19, Try.ntmps19
  go_wp2_with fail
  go_returns
  refine ⟨?_, ext_alloc _ _⟩
  exact congrArg Ending.returned hT.out
theorem rname_any (op : Int) (W : World) : Calls Try.prog 19 #[.int .i64 op] W fun e W' => e = .returned (.string ⟨(info op).name.toArray⟩) ∧ Ext W W' := by
  by_cases h : isOp op
  · obtain ⟨k, hk, rfl⟩ := isOp_nat h
    rw [info_lit k hk]
    exact rname_lit k hk W
  · rw [info_none h]
    unfold isOp at h
    by_cases h0 : op < 0
    · clear h
      go_enter Try.func19, Try.ntmps19
      go_wp2_with fail
      go_returns
      exact ⟨rfl, ext_alloc _ _⟩
    · have h1 : (33 : Int) ≤ op := by omega
      clear h
      go_enter Try.func19, Try.ntmps19
      go_wp2_with fail
      go_returns
      exact ⟨rfl, ext_alloc _ _⟩
theorem roperand_lit (k : Nat) (hk : k < 33) (W : World) : Calls Try.prog 22 #[.int .i64 k] W fun e W' => e = .returned (.int .u8 (signTab.getD k 0 : Nat)) ∧ W = W' := by
  rcases below33 hk with rfl | rfl | rfl | rfl | rfl | rfl | rfl | rfl | rfl | rfl | rfl | rfl | rfl | rfl | rfl | rfl | rfl | rfl | rfl | rfl | rfl | rfl | rfl | rfl | rfl | rfl | rfl | rfl | rfl | rfl | rfl | rfl | rfl
  all_goals (
    go_enter Try.func22, Try.ntmps22
    go_wp2_with fail
    go_returns
    exact ⟨rfl, rfl⟩)
theorem tab_out : ∀ k : Fin 33, ((infoTab.map fun r => Value.int .i64 r.out)[k.1]'k.2) = .int .i64 (infoTab.getD k.1 IRow.zero).out := by
  rintro ⟨k, hk⟩
  rcases below33 hk with rfl | rfl | rfl | rfl | rfl | rfl | rfl | rfl | rfl | rfl | rfl | rfl | rfl | rfl | rfl | rfl | rfl | rfl | rfl | rfl | rfl | rfl | rfl | rfl | rfl | rfl | rfl | rfl | rfl | rfl | rfl | rfl | rfl
  all_goals rfl
theorem rout_lit (k : Nat) (hk : k < 33) (W : World) : Calls Try.prog 24 #[.int .i64 k] W fun e W' => e = .returned (.int .i64 (infoTab.getD k IRow.zero).out) ∧ Ext W W' := by
  have hT := Lib.hid (tab_out ⟨k, hk⟩)
  go_enter Try.func24, Try.ntmps24
  go_wp2_with fail
  go_returns
  refine ⟨?_, ext_alloc _ _⟩
  exact congrArg Ending.returned hT.out
theorem tab_in : ∀ k : Fin 33, ((infoTab.map fun r => Value.int .i64 r.in_)[k.1]'k.2) = .int .i64 (infoTab.getD k.1 IRow.zero).in_ := by
  rintro ⟨k, hk⟩
  rcases below33 hk with rfl | rfl | rfl | rfl | rfl | rfl | rfl | rfl | rfl | rfl | rfl | rfl | rfl | rfl | rfl | rfl | rfl | rfl | rfl | rfl | rfl | rfl | rfl | rfl | rfl | rfl | rfl | rfl | rfl | rfl | rfl | rfl | rfl
  all_goals rfl
theorem rtakes_lit (k : Nat) (hk : k < 33) (W : World) : Calls Try.prog 57 #[.int .i64 k] W fun e W' => e = .returned (.int .i64 (infoTab.getD k IRow.zero).in_) ∧ Ext W W' := by
  have hT := Lib.hid (tab_in ⟨k, hk⟩)
  go_enter Try.func57, Try.ntmps57
  go_wp2_with fail
  go_returns
  refine ⟨?_, ext_alloc _ _⟩
  exact congrArg Ending.returned hT.out
theorem rin_lit (k : Nat) (hk : k < 33) (W : World) : Calls Try.prog 23 #[.agg #[.int .i64 k, .int .i64 0]] W fun e W' => e = .returned (.int .i64 (infoTab.getD k IRow.zero).in_) ∧ Ext W W' := by
  have hT := Lib.hid (fun X => rtakes_lit k hk X)
  by_cases h : k = 29
  · subst h
    go_enter Try.func23, Try.ntmps23
    go_wp2_with fail
    go_returns
    exact ⟨rfl, ext_alloc _ _⟩
  · have e1 : ((k : Int) == 29) = false := by simp; omega
    have hE := ext_alloc W (.cells #[.int .i64 k, .int .i64 0] 52)
    clear h
    go_enter Try.func23, Try.ntmps23
    go_wp2_with fail
    refine (hT.out _).mono ?_
    rintro e w2 ⟨rfl, hE2⟩
    go_wp2_with fail
    go_returns
    exact ⟨rfl, hE.trans hE2⟩
theorem rblocks_lit (k : Nat) (hk : k < 33) (W : World) : Calls Try.prog 25 #[.int .i64 k] W fun e W' => e = .returned (.bool (infoTab.getD k IRow.zero).blocks) ∧ W = W' := by
  rcases below33 hk with rfl | rfl | rfl | rfl | rfl | rfl | rfl | rfl | rfl | rfl | rfl | rfl | rfl | rfl | rfl | rfl | rfl | rfl | rfl | rfl | rfl | rfl | rfl | rfl | rfl | rfl | rfl | rfl | rfl | rfl | rfl | rfl | rfl
  all_goals (
    go_enter Try.func25, Try.ntmps25
    go_wp2_with fail
    go_returns
    exact ⟨rfl, rfl⟩)
theorem rends_lit (k : Nat) (hk : k < 33) (W : World) : Calls Try.prog 26 #[.int .i64 k] W fun e W' => e = .returned (.bool (infoTab.getD k IRow.zero).ends) ∧ W = W' := by
  rcases below33 hk with rfl | rfl | rfl | rfl | rfl | rfl | rfl | rfl | rfl | rfl | rfl | rfl | rfl | rfl | rfl | rfl | rfl | rfl | rfl | rfl | rfl | rfl | rfl | rfl | rfl | rfl | rfl | rfl | rfl | rfl | rfl | rfl | rfl
  all_goals (
    go_enter Try.func26, Try.ntmps26
    go_wp2_with fail
    go_returns
    exact ⟨rfl, rfl⟩)
theorem vof_any (n : Int) (W : World) : Calls Try.prog 28 #[.int .i64 n] W fun e W' => e = .returned (.agg #[.int .i64 1, .int .i64 n, .string ⟨#[]⟩, .slice none 0 0]) ∧ Ext W W' := by
  go_enter Try.func28, Try.ntmps28
  go_wp2_with fail
  go_returns
  exact ⟨rfl, ext_alloc _ _⟩
end Go.Proofs.Ytkkhcpknldlpoaa

namespace Go.Proofs.Ytkkhcpknldlpoaa
set_option maxRecDepth 4000
set_option linter.unusedVariables false
set_option linter.unusedSimpArgs false
open Go Go.RowKit
/-- where an image's parts lie -/
structure Ip where
  pc : Option Addr
  cc : Nat
  pk : Option Addr
  ck : Nat
  pn : Option Addr
  cn : Nat
def Im.cells (p : Im) (a : Ip) : List Value := [.slice a.pc p.code.length a.cc, .slice a.pk p.consts.len a.ck, .slice a.pn p.names.length a.cn, .int .i64 p.places]
structure SlOk (q : Option Addr) (n c : Nat) : Prop where
  nil_ : q = none → n = 0 ∧ c = 0
  len : n ≤ c
  cap : c ≤ Go.maxLen
def CodeB (B : Nat → Prop) (W : World) (q : Option Addr) (l : List (Int × Int)) : Prop :=
  ∀ i (h : i < l.length), ∃ b o, q = some ⟨b, o, none⟩ ∧ B b ∧ W.cell? ⟨b, o + 2 * i, none⟩ = some (.int .i64 l[i].1) ∧ W.cell? ⟨b, o + 2 * i + 1, none⟩ = some (.int .i64 l[i].2)
def NameB (B : Nat → Prop) (W : World) (q : Option Addr) (l : List (List UInt8)) : Prop :=
  ∀ i (h : i < l.length), ∃ b o, q = some ⟨b, o, none⟩ ∧ B b ∧ W.cell? ⟨b, o + i, none⟩ = some (.string ⟨l[i].toArray⟩)
structure ImB (B : Nat → Prop) (W : World) (a : Ip) (p : Im) : Prop where
  code : CodeB B W a.pc p.code
  codeOk : SlOk a.pc p.code.length a.cc
  consts : VlB B W a.pk a.ck ⟨0, 0, [], p.consts⟩
  names : NameB B W a.pn p.names
  namesOk : SlOk a.pn p.names.length a.cn
abbrev ImAt (W : World) (a : Ip) (p : Im) : Prop := ImB (fun _ => True) W a p
section
variable {B B' : Nat → Prop} {W W' : World} {a : Ip} {p : Im}
theorem CodeB.keep {q : Option Addr} {l : List (Int × Int)} (h : CodeB B W q l) (hk : ∀ k, B k → k < W.heap.size → W'.heap[k]? = W.heap[k]?) : CodeB B W' q l := fun i hi => by
  obtain ⟨b, o, h1, h2, h3, h4⟩ := h i hi
  have hc : ∀ {a : Nat} {v : Value}, W.cell? ⟨b, a, none⟩ = some v → W'.cell? ⟨b, a, none⟩ = some v := fun {a v} h =>
    (World.cell?_of_block (w := W) (a := ⟨b, a, none⟩) (hk b h2 (World.block_lt_of_cell? W _ h))).trans h
  exact ⟨b, o, h1, h2, hc h3, hc h4⟩
theorem NameB.keep {q : Option Addr} {l : List (List UInt8)} (h : NameB B W q l) (hk : ∀ k, B k → k < W.heap.size → W'.heap[k]? = W.heap[k]?) : NameB B W' q l := fun i hi => by
  obtain ⟨b, o, h1, h2, h3⟩ := h i hi
  exact ⟨b, o, h1, h2, (World.cell?_of_block (w := W) (a := ⟨b, o + i, none⟩) (hk b h2 (World.block_lt_of_cell? W _ h3))).trans h3⟩
theorem ImB.keep (h : ImB B W a p) (hk : ∀ k, B k → k < W.heap.size → W'.heap[k]? = W.heap[k]?) : ImB B W' a p := ⟨h.code.keep hk, h.codeOk, h.consts.keep hk, h.names.keep hk, h.namesOk⟩
theorem CodeB.mono {q : Option Addr} {l : List (Int × Int)} (h : CodeB B W q l) (hB : ∀ k, B k → k < W.heap.size → B' k) : CodeB B' W q l := fun i hi => by
  obtain ⟨b, o, h1, h2, h3, h4⟩ := h i hi
  exact ⟨b, o, h1, hB b h2 (World.block_lt_of_cell? W _ h3), h3, h4⟩
theorem NameB.mono {q : Option Addr} {l : List (List UInt8)} (h : NameB B W q l) (hB : ∀ k, B k → k < W.heap.size → B' k) : NameB B' W q l := fun i hi => by
  obtain ⟨b, o, h1, h2, h3⟩ := h i hi
  exact ⟨b, o, h1, hB b h2 (World.block_lt_of_cell? W _ h3), h3⟩
theorem ImB.mono (h : ImB B W a p) (hB : ∀ k, B k → k < W.heap.size → B' k) : ImB B' W a p := ⟨h.code.mono hB, h.codeOk, h.consts.mono hB, h.names.mono hB, h.namesOk⟩
theorem ImB.at (h : ImB B W a p) : ImAt W a p := h.mono fun _ _ _ => trivial
theorem ImB.ext (h : ImB B W a p) (hE : Ext W W') : ImB B W' a p := h.keep fun k _ hl => hE.block k hl
theorem ImB.lt (h : ImB B W a p) : ImB (fun k => B k ∧ k < W.heap.size) W a p := h.mono fun _ h1 h2 => ⟨h1, h2⟩
end
/-- an image of one's own -/
def imA (a : Ip) (p : Im) : Asr := fun W F => ImB F W a p ∧ ∀ k, F k → k < W.heap.size
theorem imA_loc (a : Ip) (p : Im) : Loc (imA a p) :=
  ⟨fun {W W' F} h hk => ⟨h.1.keep fun k hb _ => hk k hb, fun k hF => by
    have h1 := hk k hF
    have h2 := h.2 k hF
    rcases Nat.lt_or_ge k W'.heap.size with h3 | h3
    · exact h3
    · rw [Array.getElem?_eq_none h3, Array.getElem?_eq_getElem h2] at h1; cases h1⟩, fun h hF => h.2 _ hF⟩
theorem Has.im {w W : World} {ps : List Asr} {a : Ip} {p : Im} (h : Has w W (imA a p :: ps)) : ImAt W a p := by
  obtain ⟨F, hF⟩ := h.head
  exact hF.1.at
end Go.Proofs.Ytkkhcpknldlpoaa

namespace Go.Proofs.Ytkkhcpknldlpoaa
set_option maxRecDepth 4000
set_option linter.unusedVariables false
set_option linter.unusedSimpArgs false
open Go
section
variable {P : Program} {ops : Array Oper} {md : Region.Mode} {Q : Exit → Act → World → Prop} {z : Nat}
def anyZ (P : Program) (md : Region.Mode) (ops : Array Oper) (z : Nat) (C : World → Prop) (Q : Exit → Act → World → Prop) : Nat → Array Bool → Act → World → Prop
  | 0, listed, a, w => Region.ready md ops listed = [] ∧ Q .normal a w
  | fuel + 1, listed, a, w => (Region.ready md ops listed = [] → Q .normal a w) ∧
    ∀ i ∈ Region.ready md ops listed, wpOp P ops Q i (fun a' w' => (i ≠ z → C w') ∧ anyZ P md ops z C Q fuel (listed.setIfInBounds i true) a' w') a w
theorem any_of_anyZ {C : World → Prop} : ∀ (fuel : Nat) (listed : Array Bool) (a : Act) (w : World), anyZ P md ops z C Q fuel listed a w → wpAny P md ops Q fuel listed a w
  | 0, _, _, _, h => h
  | fuel + 1, _, _, _, h => ⟨h.1, fun i hi => wpOp_mono (fun a' w' h' => any_of_anyZ fuel _ a' w' h'.2) (h.2 i hi)⟩
theorem anyZ_mono {C C' : World → Prop} (h : ∀ w, C' w → C w) : ∀ (n : Nat) (listed : Array Bool) (a : Act) (w : World), anyZ P md ops z C' Q n listed a w → anyZ P md ops z C Q n listed a w
  | 0, _, _, _, hh => hh
  | n + 1, _, _, _, hh => ⟨hh.1, fun i hi => wpOp_mono (fun _ _ h' => ⟨fun hz => h _ (h'.1 hz), anyZ_mono h n _ _ _ h'.2⟩) (hh.2 i hi)⟩
/-- the last one waits for all others -/
def sinkZ (md : Region.Mode) (ops : Array Oper) (z : Nat) : Bool :=
  match ops[z]? with
  | some o => (List.range ops.size).all fun i => i == z || o.after.any (fun e => Region.binds md e && e.on == i)
  | none => false
theorem sinkZ_spec (h : sinkZ md ops z = true) {i : Nat} (hi : i < ops.size) (hne : i ≠ z) {listed : Array Bool} (hz : z ∈ Region.ready md ops listed) : listed.getD i false = true := by
  obtain ⟨hu, o, ho, hall⟩ := mem_ready.1 hz
  unfold sinkZ at h
  rw [ho] at h
  have h1 := List.all_eq_true.1 h i (List.mem_range.2 hi)
  rw [Bool.or_eq_true] at h1
  rcases h1 with h1 | h1
  · exact absurd (by simpa using h1) hne
  · obtain ⟨e, he, hb⟩ := Array.any_eq_true'.1 h1
    rw [Bool.and_eq_true, beq_iff_eq] at hb
    have h2 := hall e he hb.1
    rw [hb.2] at h2
    exact h2
theorem anyZ_first {C : World → Prop} {i : Nat} {oi : Oper} {v : Value} (hS : sinkZ md ops z = true) (hiz : i ≠ z) (hi : ops[i]? = some oi) (hsel : ∀ (j : Nat) (o : Oper) cs b, ops[j]? = some o → o.op ≠ .select cs b)
    (hQ : ∀ c a w, ¬ Q (.panic c) a w) :
    ∀ (fuel : Nat) (listed : Array Bool) (a : Act) (w : World), C w →
      (∀ j oj, ops[j]? = some oj → j ≠ i → listed.getD j true = false → (∀ e ∈ oj.after, Region.binds md e = true → e.on ≠ i) → oi.apart ops oj = true) →
      i ∈ Region.ready md ops listed → YieldsC P ops C oi v a →
      anyZ P md ops z C Q fuel (listed.setIfInBounds i true) (a.put oi.dst v) w → anyZ P md ops z C Q (fuel + 1) listed a w := by
  have his : i < ops.size := (Array.getElem?_eq_some_iff.1 hi).1
  intro fuel
  induction fuel with
  | zero =>
    intro listed a w hC _ hr hy H
    refine ⟨fun h => (by rw [h] at hr; cases hr), fun j hj => ?_⟩
    by_cases hji : j = i
    · subst hji; exact hy.op hi hC ⟨fun _ => hC, H⟩
    · have := ready_mono hj hji
      rw [H.1] at this
      cases this
  | succ fuel ih =>
    intro listed a w hC hfree hr hy H
    refine ⟨fun h => (by rw [h] at hr; cases hr), fun j hj => ?_⟩
    by_cases hji : j = i
    · subst hji; exact hy.op hi hC ⟨fun _ => hC, H⟩
    · have hjz : j ≠ z := fun e => by
        subst e
        have h1 := sinkZ_spec hS his hiz hj
        have h2 := (mem_ready.1 hr).1
        rcases Nat.lt_or_ge i listed.size with h' | h'
        · simp [h'] at h1 h2; rw [h1] at h2; cases h2
        · simp [Array.getElem?_eq_none h'] at h1
      have h1 := H.2 j (ready_mono hj hji)
      obtain ⟨hjun, oj, hoj, hall⟩ := mem_ready.1 hj
      have hnot : ∀ e ∈ oj.after, Region.binds md e = true → e.on ≠ i := fun e he hb heq => by
        have h1 := hall e he hb
        have h0 := (mem_ready.1 hr).1
        rw [heq] at h1
        rcases Nat.lt_or_ge i listed.size with h' | h'
        · simp [h'] at h0 h1; rw [h0] at h1; cases h1
        · simp [Array.getElem?_eq_none h'] at h1
      have h2 := wpOp_putC hoj (hfree j oj hoj hji hjun hnot) (fun cs b => hsel i oi cs b hi) (fun cs b => hsel j oj cs b hoj) hQ hy h1
      have hfree' : ∀ k ok, ops[k]? = some ok → k ≠ i → (listed.setIfInBounds j true).getD k true = false →
          (∀ e ∈ ok.after, Region.binds md e = true → e.on ≠ i) → oi.apart ops ok = true := fun k ok hk hki hun hno => by
        refine hfree k ok hk hki ?_ hno
        by_cases hjk : j = k
        · subst hjk; exact hjun
        · rw [getD_set_ne true hjk] at hun; exact hun
      refine wpOp_mono (fun a' w' h3 => ⟨fun _ => h3.2.1 hjz, ih (listed.setIfInBounds j true) a' w' (h3.2.1 hjz) hfree' (ready_mono hr (Ne.symm hji)) h3.1 ?_⟩) h2
      rw [Array.setIfInBounds_comm _ _ hji]
      exact h3.2.2
theorem wpOp_of_walkZ {L : (World → Prop) → Act → World → Prop} {k : Nat} {o : Oper} {ts : List Bool} {l : List Oper} {F : World → Prop} {a : Act} {w : World} {n : Nat} {listed : Array Bool} (h0 : ops[k]? = some o) (hC : F w)
    (hK : ∀ F' a' w', F' w' → walkL P ops L Q ts l F' a' w' → anyZ P md ops z (cls F') Q n listed a' w') (h : walkL P ops L Q (false :: ts) (o :: l) F a w) :
    wpOp P ops Q k (fun a' w' => (k ≠ z → cls F w') ∧ anyZ P md ops z (cls F) Q n listed a' w') a w := by
  unfold wpOp
  simp only [h0]
  unfold walkL at h
  split
  · rename_i hw
    rw [if_pos hw] at h
    exact .inl (Oper.wp_mono (fun a' w' ⟨F', h1, h2, h3⟩ => ⟨fun _ => cls_mk (h2 _ h1), anyZ_mono (fun _ hc => cls_mk (h2 _ (cls_get hc))) _ _ _ _ (hK F' a' w' h1 h3)⟩) h)
  · rename_i hw
    rw [if_neg hw] at h
    exact ⟨fun _ => cls_mk hC, hK F _ _ hC h⟩
theorem anyZ_seg (hS : sinkZ md ops z = true) (hsel : Region.noSelect ops = true) (hQ : ∀ c a w, ¬ Q (.panic c) a w) {L : (World → Prop) → Act → World → Prop} {m : Nat} : ∀ (ks : List Nat) (ts : List Bool) (F : World → Prop) (listed : Array Bool) (a : Act) (w : World), F w →
    ks.all (· != z) = true → segB md ops ks ts listed = true → walkL P ops L Q ts (ks.filterMap (ops[·]?)) F a w → (∀ F a w, F w → L F a w → anyZ P md ops z (cls F) Q m (setAll ks listed) a w) → anyZ P md ops z (cls F) Q (ks.length + m) listed a w
  | [], [], F, _, a, w, hC, _, _, h, hL => by
    simp only [List.length_nil, Nat.zero_add]
    exact hL F a w hC h
  | [], _ :: _, _, _, _, _, _, _, hB, _, _ => by simp [segB] at hB
  | _ :: _, [], _, _, _, _, _, _, hB, _, _ => by simp [segB] at hB
  | k :: ks, true :: ts, F, listed, a, w, hC, hz, hB, h, hL => by
    simp only [segB, Bool.and_eq_true, decide_eq_true_eq] at hB
    obtain ⟨⟨⟨hk, hr⟩, hf⟩, hB'⟩ := hB
    rw [List.all_cons, Bool.and_eq_true] at hz
    have h0 : ops[k]? = some ops[k] := Array.getElem?_eq_getElem hk
    rw [List.filterMap_cons_some h0] at h
    obtain ⟨v, hy, hK⟩ := h
    rw [show (k :: ks).length + m = (ks.length + m) + 1 by simp only [List.length_cons]; omega]
    exact anyZ_first hS (by simpa using hz.1) h0 (Region.noSelect_spec hsel) hQ (ks.length + m) listed a w (cls_mk hC) (Region.free_spec h0 hf) (by simpa using hr) hy (anyZ_seg hS hsel hQ ks ts F _ _ _ hC hz.2 hB' hK hL)
  | k :: ks, false :: ts, F, listed, a, w, hC, hz, hB, h, hL => by
    simp only [segB, Bool.and_eq_true, decide_eq_true_eq] at hB
    obtain ⟨⟨hk, hr⟩, hB'⟩ := hB
    rw [List.all_cons, Bool.and_eq_true] at hz
    have h0 : ops[k]? = some ops[k] := Array.getElem?_eq_getElem hk
    rw [List.filterMap_cons_some h0] at h
    rw [show (k :: ks).length + m = (ks.length + m) + 1 by simp only [List.length_cons]; omega]
    refine ⟨fun h1 => (by rw [hr] at h1; cases h1), fun i hi => ?_⟩
    rw [hr] at hi
    have hik : i = k := by simpa using hi
    subst hik
    exact wpOp_of_walkZ h0 hC (fun F' a' w' h1 h3 => anyZ_seg hS hsel hQ ks ts F' _ a' w' h1 hz.2 hB' h3 hL) h
/-- the plan's leaf: the last one alone is ready -/
def planZ (md : Region.Mode) (ops : Array Oper) (z : Nat) : Plan → Array Bool → Bool
  | .done, listed => decide (Region.ready md ops listed = [z]) && (Region.ready md ops (listed.setIfInBounds z true)).isEmpty
  | .seg ks ts p, listed => ks.all (· != z) && segB md ops ks ts listed && planZ md ops z p (setAll ks listed)
  | .fork k1 p1 k2 p2, listed => decide (k1 < ops.size) && decide (k2 < ops.size) && decide (Region.ready md ops listed = [k1, k2]) && decide (p2.size = p1.size) && planZ md ops z p1 (listed.setIfInBounds k1 true) && planZ md ops z p2 (listed.setIfInBounds k2 true)
  | .fork3 .., _ => false
def walkZ (P : Program) (ops : Array Oper) (z : Nat) (Q : Exit → Act → World → Prop) : Plan → (World → Prop) → Act → World → Prop
  | .done, _, a, w => ∀ o, ops[z]? = some o → Region.wanted o (yielded ops a.tmps) = true ∧ o.wp P a w (fun a' w' => Q .normal a' w') Q
  | .seg ks ts p, F, a, w => walkL P ops (walkZ P ops z Q p) Q ts (ks.filterMap (ops[·]?)) F a w
  | .fork k1 p1 k2 p2, F, a, w => walkL P ops (walkZ P ops z Q p1) Q [false] ([k1].filterMap (ops[·]?)) F a w ∧ walkL P ops (walkZ P ops z Q p2) Q [false] ([k2].filterMap (ops[·]?)) F a w
  | .fork3 .., _, _, _ => False
theorem anyZ_plan (hS : sinkZ md ops z = true) (hsel : Region.noSelect ops = true) (hQ : ∀ c a w, ¬ Q (.panic c) a w) : ∀ (p : Plan) (F : World → Prop) (listed : Array Bool) (a : Act) (w : World), F w →
    planZ md ops z p listed = true → walkZ P ops z Q p F a w → anyZ P md ops z (cls F) Q (p.size + 1) listed a w
  | .done, F, listed, a, w, hC, hB, h => by
    simp only [planZ, Bool.and_eq_true, decide_eq_true_eq] at hB
    obtain ⟨hr, he⟩ := hB
    refine ⟨fun h1 => (by rw [hr] at h1; cases h1), fun i hi => ?_⟩
    rw [hr] at hi
    have hik : i = z := by simpa using hi
    subst hik
    obtain ⟨o, ho⟩ : ∃ o, ops[i]? = some o := by
      unfold sinkZ at hS
      split at hS
      · rename_i o ho; exact ⟨o, ho⟩
      · cases hS
    obtain ⟨hw, hwp⟩ := h o ho
    unfold wpOp
    simp only [ho, hw, if_true]
    exact .inl (Oper.wp_mono (fun a' w' h' => ⟨fun h => absurd rfl h, by simpa using he, h'⟩) hwp)
  | .seg ks ts p, F, listed, a, w, hC, hB, h => by
    simp only [planZ, Bool.and_eq_true] at hB
    have := anyZ_seg hS hsel hQ ks ts F listed a w hC hB.1.1 hB.1.2 h fun F' a' w' h1 h2 => anyZ_plan hS hsel hQ p F' _ a' w' h1 hB.2 h2
    rw [show (Plan.seg ks ts p).size + 1 = ks.length + (p.size + 1) by simp only [Plan.size]; omega]
    exact this
  | .fork k1 p1 k2 p2, F, listed, a, w, hC, hB, h => by
    simp only [planZ, Bool.and_eq_true, decide_eq_true_eq] at hB
    obtain ⟨⟨⟨⟨⟨hk1, hk2⟩, hr⟩, hs⟩, hB1⟩, hB2⟩ := hB
    have e1 : ops[k1]? = some ops[k1] := Array.getElem?_eq_getElem hk1
    have e2 : ops[k2]? = some ops[k2] := Array.getElem?_eq_getElem hk2
    rw [show (Plan.fork k1 p1 k2 p2).size + 1 = (p1.size + 1) + 1 by simp only [Plan.size]]
    refine ⟨fun h1 => (by rw [hr] at h1; cases h1), fun i hi => ?_⟩
    rw [hr] at hi
    have hik : i = k1 ∨ i = k2 := by simpa using hi
    obtain ⟨h1, h2⟩ := h
    rw [List.filterMap_cons_some e1] at h1
    rw [List.filterMap_cons_some e2] at h2
    rcases hik with rfl | rfl
    · exact wpOp_of_walkZ (L := walkZ P ops z Q p1) (ts := []) (l := []) e1 hC (fun F' a' w' h3 h4 => anyZ_plan hS hsel hQ p1 F' _ a' w' h3 hB1 h4) h1
    · exact wpOp_of_walkZ (L := walkZ P ops z Q p2) (ts := []) (l := []) e2 hC (fun F' a' w' h3 h4 => hs ▸ anyZ_plan hS hsel hQ p2 F' _ a' w' h3 hB2 h4) h2
  | .fork3 .., _, _, _, _, _, hB, _ => by simp [planZ] at hB
theorem region_planZ {id : Nat} {Q : Exit → Act → World → Prop} {a : Act} {w : World} {l : List Oper} (z : Nat) (p : Plan) (F : World → Prop) (hm : P.follows .mixedOrders = true)
    (hB : (Region.noSelect l.toArray && decide (p.size + 1 = l.toArray.size) && sinkZ .any l.toArray z && planZ .any l.toArray z p (Array.replicate l.toArray.size false)) = true) (hF : F w.drew)
    (h : walkZ P l.toArray z (NoPanic Q) p F a w.drew) : (Code.region id l.toArray true).wp P Q a w := by
  simp only [Bool.and_eq_true, decide_eq_true_eq] at hB
  obtain ⟨⟨⟨h1, h2⟩, hS⟩, h3⟩ := hB
  refine wp_region_noPanic (wp_region_any hm (any_of_anyZ (z := z) (C := cls F) _ _ _ _ ?_))
  have := anyZ_plan (md := .any) (Q := NoPanic Q) hS h1 (fun c a w hh => hh) p F _ a w.drew hF h3 h
  rwa [h2] at this
theorem walkZ_seg {ks : List Nat} {ts : List Bool} {p : Plan} {F : World → Prop} {a : Act} {w : World} {l : List Oper} (h : walkL P l.toArray (walkZ P l.toArray z Q p) Q ts (ks.filterMap (l[·]?)) F a w) : walkZ P l.toArray z Q (.seg ks ts p) F a w := by
  simpa [walkZ] using h
theorem walkZ_fork {k1 k2 : Nat} {p1 p2 : Plan} {F : World → Prop} {a : Act} {w : World} {l : List Oper} (h1 : walkL P l.toArray (walkZ P l.toArray z Q p1) Q [false] ([k1].filterMap (l[·]?)) F a w) (h2 : walkL P l.toArray (walkZ P l.toArray z Q p2) Q [false] ([k2].filterMap (l[·]?)) F a w) :
    walkZ P l.toArray z Q (.fork k1 p1 k2 p2) F a w := ⟨by simpa using h1, by simpa using h2⟩
theorem walkZ_done {F : World → Prop} {a : Act} {w : World} {Q : Exit → Act → World → Prop} {l : List Oper} {o : Oper} (ho : l[z]? = some o) (hg : o.guard = none)
    (h : ∀ K : Act → World → Prop, (∀ a w, Q .normal a w → K a w) → o.wp P a w K (NoPanic Q)) : walkZ P l.toArray z (NoPanic Q) .done F a w := by
  intro o' ho'
  have : o' = o := by
    have h1 : l.toArray[z]? = some o := by simpa using ho
    rw [h1] at ho'
    exact (Option.some.inj ho').symm
  subst this
  refine ⟨by simp [Region.wanted, hg], h _ fun a w hq => NoPanic.normal hq⟩
end
end Go.Proofs.Ytkkhcpknldlpoaa

namespace Go.Proofs.Ytkkhcpknldlpoaa
set_option maxRecDepth 4000
set_option linter.unusedVariables false
set_option linter.unusedSimpArgs false
open Go Go.RowKit
/-- lists with no more values than may be -/
def Fo.thin : Fo → Prop
  | .nil => True
  | .node k _ _ sub r => (k = 3 → sub.len ≤ 64 ∧ sub.thin) ∧ r.thin
theorem Fo.thin_mem : ∀ {f : Fo} {v : Vl}, f.thin → v ∈ f.vals → v.k = 3 → v.l.len ≤ 64 ∧ v.l.thin
  | .nil, v, _, h => by simp [Fo.vals] at h
  | .node k n s sub r, v, ho, h => by
    rw [Fo.vals] at h
    rcases List.mem_cons.1 h with rfl | h
    · exact ho.1
    · exact Fo.thin_mem ho.2 h
def zeroV : List Value := [.int .i64 0, .int .i64 0, .string ⟨#[]⟩, .slice none 0 0]
theorem valueInfo : (Try.prog.info? 62).map (fun i => (i.zero, i.size, i.bytes)) = some (some (.agg zeroV.toArray), 4, 56) := by kernel_rfl
/-- what out holds is handed back -/
def ClIs (W : World) (v : Vl) (e : Ending) (W' : World) : Prop := (∃ q c, e = .returned (.agg (v.clone.cells q c).toArray) ∧ VlB (fun k => W.heap.size ≤ k) W' q c v.clone) ∧ Ext W W'
def ClRel (W : World) (v : Vl) (pl : Option Addr) (c bx rx ox : Nat) (k : Value) (wr : World) : Prop :=
  ∃ (i : Nat) (s : Value) (es : List El), k = .int .i64 i ∧ i ≤ v.l.vals.length ∧ es.map Prod.fst = (v.l.vals.take i).map Vl.clone ∧
    Has W wr [rvA 62 s es, blkA ox 62 #[.int .i64 v.k, .int .i64 0, .string ⟨#[]⟩, s], blkA rx 62 #[.int .i64 0, .int .i64 0, .string ⟨#[]⟩, .slice none 0 0], blkA bx 62 #[.int .i64 v.k, .int .i64 v.n, .string ⟨v.s.toArray⟩, .slice pl v.l.len c]]
theorem RowV.slice {T : TypeId} {F : Nat → Prop} {W : World} {v : Value} {es : List El} (h : RowV T F W v es) : ∃ p c, v = .slice p es.length c := ownsRow_slice h.own
theorem cells_one (v : Vl) (q : Option Addr) (c : Nat) : ∀ u ∈ v.cells q c, u.oneCell' = true := by
  intro u hu
  simp only [Vl.cells, List.mem_cons, List.not_mem_nil, or_false] at hu
  rcases hu with rfl | rfl | rfl | rfl <;> rfl
theorem Has.row_ne {w W : World} {T T' : TypeId} {v : Value} {es : List El} {g : Nat} {cs : Array Value} {ps : List Asr} (h : Has w W (rvA T v es :: blkA g T' cs :: ps)) : v.ownBlock ≠ some g := by
  obtain ⟨F, h1, h2, G, ⟨_, rfl⟩, h4, _⟩ := h
  exact fun e => (h4 g rfl).2 (Or.inr (h1.in_ g e))
theorem clone_n : ∀ (m : Nat) (v : Vl), v.l.size < m → ∀ (W : World) (pl : Option Addr) (c : Nat), VlAt W pl c v → (v.k = 3 → v.l.len ≤ 64 ∧ v.l.thin) →
    Calls Try.prog 55 #[.agg (v.cells pl c).toArray] W fun e W' => ClIs W v e W'
  | 0, _, h => by omega
  | m + 1, v, hm => by
    intro W pl c hV ht
    have ih := clone_n m
    obtain ⟨i0, hi0, hz0, hz1, hz2⟩ := info_parts valueInfo
    have H1 := (Has.nil (Ext.refl W)).new .nil 62 (v.cells pl c).toArray
    have L1 : Locs [blkA W.heap.size 62 (v.cells pl c).toArray] := .cons (blkA_loc _ _ _) .nil
    have H2 := H1.new L1 62 zeroV.toArray
    have L2 := Locs.cons (blkA_loc (W.alloc (.cells (v.cells pl c).toArray 62)).heap.size 62 zeroV.toArray) L1
    have H3 := H2.new L2 62 #[.int .i64 v.k, .int .i64 0, .string ⟨#[]⟩, .slice none 0 0]
    simp only [Vl.cells, zeroV] at H3
    go_enter Try.func55, Try.ntmps55
    simp only [Vl.cells]
    go_upto_region 2 with fail
    have e1 : (W.alloc (.cells (v.cells pl c).toArray 62)).heap.size = W.heap.size + 1 := by simp
    have e2 : ((W.alloc (.cells (v.cells pl c).toArray 62)).alloc (.cells zeroV.toArray 62)).heap.size = W.heap.size + 1 + 1 := by simp
    simp only [Vl.cells, zeroV] at e1 e2
    rw [e1, e2] at H3
    clear H1 H2 L1 L2 e1 e2
    generalize World.alloc _ _ = W3 at *
    have hbase : ∀ k, W.heap.size ≤ k → W.heap.size ≤ k := fun _ h => h
    generalize hbx : W.heap.size = bx at *
    generalize hrx : bx + 1 = rx at *
    generalize hox : rx + 1 = ox at *
    have L1 : Locs [blkA bx 62 #[.int .i64 v.k, .int .i64 v.n, .string ⟨v.s.toArray⟩, .slice pl v.l.len c]] := .cons (blkA_loc _ _ _) .nil
    have L2 : Locs [blkA rx 62 #[.int .i64 0, .int .i64 0, .string ⟨#[]⟩, .slice none 0 0], blkA bx 62 #[.int .i64 v.k, .int .i64 v.n, .string ⟨v.s.toArray⟩, .slice pl v.l.len c]] := .cons (blkA_loc _ _ _) L1
    have hbl := H3.third.blk0
    have b0 : W3.cell? ⟨bx, 0, none⟩ = some (.int .i64 v.k) := hbl.cell 0
    have b1 : W3.cell? ⟨bx, 1, none⟩ = some (.int .i64 v.n) := hbl.cell 1
    have b2 : W3.cell? ⟨bx, 2, none⟩ = some (.string ⟨v.s.toArray⟩) := hbl.cell 2
    have b3 : W3.cell? ⟨bx, 3, none⟩ = some (.slice pl v.l.len c) := hbl.cell 3
    have g1 := H3.blk0.frozen 1
    have g2 := H3.blk0.frozen 2
    have d1 : W3.cell? ⟨ox, 1, none⟩ = some (.int .i64 0) := H3.blk0.cell 1
    have d2 : W3.cell? ⟨ox, 2, none⟩ = some (.string ⟨#[]⟩) := H3.blk0.cell 2
    have hcl : v.clone = ⟨v.k, if v.k = 1 then v.n else 0, if v.k = 2 then v.s else [], if v.k = 3 then v.l.clone else .nil⟩ := rfl
    clear hbl
    by_cases k1 : v.k = 1
    · have e1 : (v.k == 1) = true := by simpa using k1
      rw [if_pos k1, if_neg (by omega), if_neg (by omega)] at hcl
      have HC := Lib.hid hcl
      have H4 := H3.setB L2 1 (.int .i64 v.n)
      simp only [List.setIfInBounds_toArray, List.set_cons_succ, List.set_cons_zero] at H4
      have LO : Locs [blkA ox 62 #[.int .i64 v.k, .int .i64 v.n, .string ⟨#[]⟩, .slice none 0 0], blkA bx 62 #[.int .i64 v.k, .int .i64 v.n, .string ⟨v.s.toArray⟩, .slice pl v.l.len c]] := .cons (blkA_loc _ _ _) L1
      clear hcl H3 k1
      go_upto_region 13 with fail
      generalize World.setCell _ _ _ = W4 at *
      clear b0 b1 b2 b3 g1 g2 d1 d2
      have hbo := H4.blk0
      have hbr := H4.swap.blk0
      have o0 := hbo.cell 0
      have o1 := hbo.cell 1
      have o2 := hbo.cell 2
      have o3 := hbo.cell 3
      have r0 := hbr.cell 0
      have r1 := hbr.cell 1
      have r2 := hbr.cell 2
      have r3 := hbr.cell 3
      have f0 := hbr.frozen 0
      have f1 := hbr.frozen 1
      have f2 := hbr.frozen 2
      have f3 := hbr.frozen 3
      simp only [List.getElem?_toArray, List.getElem?_cons_zero, List.getElem?_cons_succ] at o0 o1 o2 o3 r0 r1 r2 r3
      have H8 := (((H4.swap.setB LO 0 (.int .i64 v.k)).setB LO 1 (.int .i64 v.n)).setB LO 2 (.string ⟨#[]⟩)).setB LO 3 (.slice none 0 0)
      simp only [List.setIfInBounds_toArray, List.set_cons_succ, List.set_cons_zero] at H8
      go_wp2_with fail
      generalize World.setCell _ _ _ = w9 at *
      clear o0 o1 o2 o3 r0 r1 r2 r3 f0 f1 f2 f3 hbo hbr
      have hbr := H8.blk0
      have r0 := hbr.cell 0
      have r1 := hbr.cell 1
      have r2 := hbr.cell 2
      have r3 := hbr.cell 3
      simp only [List.getElem?_toArray, List.getElem?_cons_zero, List.getElem?_cons_succ] at r0 r1 r2 r3
      (try simp only [Exit.inBlock, Exit.then])
      refine bodyPost_ret (by simp [results, Try.results55, go_sem, r0, r1, r2, r3]; try rfl) rfl ?_
      refine ⟨⟨none, 0, ?_, ?_⟩, H8.base⟩
      · rw [HC.out]; rfl
      · rw [HC.out]; exact VlB.none _ _ _
    have e1 : (v.k == 1) = false := by simpa using k1
    rw [if_neg k1] at hcl
    by_cases k2 : v.k = 2
    · have e2 : (v.k == 2) = true := by simpa using k2
      rw [if_pos k2, if_neg (by omega)] at hcl
      have HC := Lib.hid hcl
      have H4 := H3.setB L2 2 (.string ⟨v.s.toArray⟩)
      simp only [List.setIfInBounds_toArray, List.set_cons_succ, List.set_cons_zero] at H4
      have LO : Locs [blkA ox 62 #[.int .i64 v.k, .int .i64 0, .string ⟨v.s.toArray⟩, .slice none 0 0], blkA bx 62 #[.int .i64 v.k, .int .i64 v.n, .string ⟨v.s.toArray⟩, .slice pl v.l.len c]] := .cons (blkA_loc _ _ _) L1
      clear hcl H3 k1 k2
      go_upto_region 13 with fail
      generalize World.setCell _ _ _ = W4 at *
      clear b0 b1 b2 b3 g1 g2 d1 d2
      have hbo := H4.blk0
      have hbr := H4.swap.blk0
      have o0 := hbo.cell 0
      have o1 := hbo.cell 1
      have o2 := hbo.cell 2
      have o3 := hbo.cell 3
      have r0 := hbr.cell 0
      have r1 := hbr.cell 1
      have r2 := hbr.cell 2
      have r3 := hbr.cell 3
      have f0 := hbr.frozen 0
      have f1 := hbr.frozen 1
      have f2 := hbr.frozen 2
      have f3 := hbr.frozen 3
      simp only [List.getElem?_toArray, List.getElem?_cons_zero, List.getElem?_cons_succ] at o0 o1 o2 o3 r0 r1 r2 r3
      have H8 := (((H4.swap.setB LO 0 (.int .i64 v.k)).setB LO 1 (.int .i64 0)).setB LO 2 (.string ⟨v.s.toArray⟩)).setB LO 3 (.slice none 0 0)
      simp only [List.setIfInBounds_toArray, List.set_cons_succ, List.set_cons_zero] at H8
      go_wp2_with fail
      generalize World.setCell _ _ _ = w9 at *
      clear o0 o1 o2 o3 r0 r1 r2 r3 f0 f1 f2 f3 hbo hbr
      have hbr := H8.blk0
      have r0 := hbr.cell 0
      have r1 := hbr.cell 1
      have r2 := hbr.cell 2
      have r3 := hbr.cell 3
      simp only [List.getElem?_toArray, List.getElem?_cons_zero, List.getElem?_cons_succ] at r0 r1 r2 r3
      (try simp only [Exit.inBlock, Exit.then])
      refine bodyPost_ret (by simp [results, Try.results55, go_sem, r0, r1, r2, r3]; try rfl) rfl ?_
      refine ⟨⟨none, 0, ?_, ?_⟩, H8.base⟩
      · rw [HC.out]; rfl
      · rw [HC.out]; exact VlB.none _ _ _
    have e2 : (v.k == 2) = false := by simpa using k2
    rw [if_neg k2] at hcl
    by_cases k3 : v.k = 3
    case neg =>
      rw [if_neg k3] at hcl
      have HC := Lib.hid hcl
      have e3 : (v.k == 3) = false := by simpa using k3
      have LO : Locs [blkA ox 62 #[.int .i64 v.k, .int .i64 0, .string ⟨#[]⟩, .slice none 0 0], blkA bx 62 #[.int .i64 v.k, .int .i64 v.n, .string ⟨v.s.toArray⟩, .slice pl v.l.len c]] := .cons (blkA_loc _ _ _) L1
      clear hcl k1 k2 k3
      go_upto_region 13 with fail
      clear b0 b1 b2 b3 g1 g2 d1 d2
      have hbo := H3.blk0
      have hbr := H3.swap.blk0
      have o0 := hbo.cell 0
      have o1 := hbo.cell 1
      have o2 := hbo.cell 2
      have o3 := hbo.cell 3
      have r0 := hbr.cell 0
      have r1 := hbr.cell 1
      have r2 := hbr.cell 2
      have r3 := hbr.cell 3
      have f0 := hbr.frozen 0
      have f1 := hbr.frozen 1
      have f2 := hbr.frozen 2
      have f3 := hbr.frozen 3
      simp only [List.getElem?_toArray, List.getElem?_cons_zero, List.getElem?_cons_succ] at o0 o1 o2 o3 r0 r1 r2 r3
      have H8 := (((H3.swap.setB LO 0 (.int .i64 v.k)).setB LO 1 (.int .i64 0)).setB LO 2 (.string ⟨#[]⟩)).setB LO 3 (.slice none 0 0)
      simp only [List.setIfInBounds_toArray, List.set_cons_succ, List.set_cons_zero] at H8
      go_wp2_with fail
      generalize World.setCell _ _ _ = w9 at *
      clear o0 o1 o2 o3 r0 r1 r2 r3 f0 f1 f2 f3 hbo hbr
      have hbr := H8.blk0
      have r0 := hbr.cell 0
      have r1 := hbr.cell 1
      have r2 := hbr.cell 2
      have r3 := hbr.cell 3
      simp only [List.getElem?_toArray, List.getElem?_cons_zero, List.getElem?_cons_succ] at r0 r1 r2 r3
      (try simp only [Exit.inBlock, Exit.then])
      refine bodyPost_ret (by simp [results, Try.results55, go_sem, r0, r1, r2, r3]; try rfl) rfl ?_
      refine ⟨⟨none, 0, ?_, ?_⟩, H8.base⟩
      · rw [HC.out]; rfl
      · rw [HC.out]; exact VlB.none _ _ _
    rw [if_pos k3] at hcl
    have HC := Lib.hid hcl
    have e3 : (v.k == 3) = true := by simpa using k3
    obtain ⟨ht1, ht2⟩ := ht k3
    have hvl := v.l.vals_len
    have hcm := hV.cap
    have hcl' := hV.len
    unfold Go.maxLen at hcm
    have hLB : Loc (blkA bx 62 #[.int .i64 v.k, .int .i64 v.n, .string ⟨v.s.toArray⟩, .slice pl v.l.len c]) := blkA_loc _ _ _
    have hLR : Loc (blkA rx 62 #[.int .i64 0, .int .i64 0, .string ⟨#[]⟩, .slice none 0 0]) := blkA_loc _ _ _
    clear hcl k1 k2 k3 ht
    go_wp2_with fail
    clear b0 b1 b2 b3 g1 g2 d1 d2
    go_loopw [26] (fun k wr => ClRel W v pl c bx rx ox k wr) (fun k _ => ((v.l.len : Int) + 1 - intOf k).toNat)
    case atStart => exact ⟨0, .slice none 0 0, [], rfl, by omega, rfl, H3.rvnil (.cons (blkA_loc _ _ _) L2) _⟩
    case round =>
      clear H3
      obtain ⟨i, sl, es, rfl, hi, hes, hX⟩ := hrel
      have hel : es.length = i := by
        have := congrArg List.length hes
        simp only [List.length_map, List.length_take] at this
        omega
      have hLO : Loc (blkA ox 62 #[.int .i64 v.k, .int .i64 0, .string ⟨#[]⟩, sl]) := blkA_loc _ _ _
      have LX : Locs [rvA 62 sl es, blkA ox 62 #[.int .i64 v.k, .int .i64 0, .string ⟨#[]⟩, sl], blkA rx 62 #[.int .i64 0, .int .i64 0, .string ⟨#[]⟩, .slice none 0 0], blkA bx 62 #[.int .i64 v.k, .int .i64 v.n, .string ⟨v.s.toArray⟩, .slice pl v.l.len c]] := .cons (rvA_loc _ _ _) (.cons hLO L2)
      obtain ⟨ps, cs, hsl⟩ : ∃ p c, sl = .slice p i c := by
        obtain ⟨F, hF⟩ := hX.head
        exact hel ▸ RowV.slice hF
      subst hsl
      by_cases hlt : i < v.l.vals.length
      · obtain ⟨b, o, q2, c2, rfl, hV2, d0, d1, d2, d3⟩ := hV.fo.get i hlt
        have hmem := List.getElem_mem hlt
        have hsz := Fo.size_mem hmem
        have hthx := Fo.thin_mem ht2 hmem
        have hes2 : (v.l.vals.take (i + 1)).map Vl.clone = (v.l.vals.take i).map Vl.clone ++ [v.l.vals[i].clone] := by
          rw [List.take_succ_eq_append_getElem hlt, List.map_append]; rfl
        have HES := Lib.hid hes2
        have HE0 := Lib.hid hes
        clear hes2 hes
        generalize v.l.vals[i] = x at *
        replace d0 := cell_ext hX.base d0
        replace d1 := cell_ext hX.base d1
        replace d2 := cell_ext hX.base d2
        replace d3 := cell_ext hX.base d3
        rw [Nat.zero_add, Nat.mul_comm 4 i] at d0 d1 d2 d3
        have i7 : (i : Int) < v.l.len := by omega
        have X2 := hX.new LX 62 (x.cells q2 c2).toArray
        have hbx2 := X2.blk0
        have hbo2 := X2.third.blk0
        simp only [Vl.cells] at X2 hbx2 hbo2
        go_upto_region 11 with fail
        generalize World.alloc _ _ = wr2 at *
        generalize hxb : wr.heap.size = xb at *
        clear d0 d1 d2 d3 hX
        have o3 : ∀ y : Of (fun X => Blk X ox 62 #[.int .i64 v.k, .int .i64 0, .string ⟨#[]⟩, (.slice ps i cs)] ∧ Blk X xb 62 #[.int .i64 x.k, .int .i64 x.n, .string ⟨x.s.toArray⟩, .slice q2 x.l.len c2]), y.val.cell? ⟨ox, 3, none⟩ = some (.slice ps i cs) := fun y => y.property.1.cell 3
        have x0 : ∀ y : Of (fun X => Blk X ox 62 #[.int .i64 v.k, .int .i64 0, .string ⟨#[]⟩, (.slice ps i cs)] ∧ Blk X xb 62 #[.int .i64 x.k, .int .i64 x.n, .string ⟨x.s.toArray⟩, .slice q2 x.l.len c2]), y.val.cell? ⟨xb, 0, none⟩ = some (.int .i64 x.k) := fun y => y.property.2.cell 0
        have x1 : ∀ y : Of (fun X => Blk X ox 62 #[.int .i64 v.k, .int .i64 0, .string ⟨#[]⟩, (.slice ps i cs)] ∧ Blk X xb 62 #[.int .i64 x.k, .int .i64 x.n, .string ⟨x.s.toArray⟩, .slice q2 x.l.len c2]), y.val.cell? ⟨xb, 1, none⟩ = some (.int .i64 x.n) := fun y => y.property.2.cell 1
        have x2 : ∀ y : Of (fun X => Blk X ox 62 #[.int .i64 v.k, .int .i64 0, .string ⟨#[]⟩, (.slice ps i cs)] ∧ Blk X xb 62 #[.int .i64 x.k, .int .i64 x.n, .string ⟨x.s.toArray⟩, .slice q2 x.l.len c2]), y.val.cell? ⟨xb, 2, none⟩ = some (.string ⟨x.s.toArray⟩) := fun y => y.property.2.cell 2
        have x3 : ∀ y : Of (fun X => Blk X ox 62 #[.int .i64 v.k, .int .i64 0, .string ⟨#[]⟩, (.slice ps i cs)] ∧ Blk X xb 62 #[.int .i64 x.k, .int .i64 x.n, .string ⟨x.s.toArray⟩, .slice q2 x.l.len c2]), y.val.cell? ⟨xb, 3, none⟩ = some (.slice q2 x.l.len c2) := fun y => y.property.2.cell 3
        have hV3 : VlAt wr2.drew q2 c2 x := (hV2.ext X2.base).ext (Ext.refl _).drew
        have hc := ih x (by omega) wr2.drew q2 c2 hV3 hthx
        simp only [Vl.cells] at hc
        have HCL := Lib.hid hc
        clear hc hV2 hV3 hmem hsz hthx
        have hFd := (And.intro hbo2.drew hbx2.drew)
        have hne_ : Nonempty (Of ((fun X => Blk X ox 62 #[.int .i64 v.k, .int .i64 0, .string ⟨#[]⟩, (.slice ps i cs)] ∧ Blk X xb 62 #[.int .i64 x.k, .int .i64 x.n, .string ⟨x.s.toArray⟩, .slice q2 x.l.len c2]))) := ⟨⟨_, hFd⟩⟩
        refine region_planZ 7 (.seg [0,2,1,3,4,5,6] [true,true,true,false,false,false,true] .done) ((fun X => Blk X ox 62 #[.int .i64 v.k, .int .i64 0, .string ⟨#[]⟩, (.slice ps i cs)] ∧ Blk X xb 62 #[.int .i64 x.k, .int .i64 x.n, .string ⟨x.s.toArray⟩, .slice q2 x.l.len c2])) (by kernel_rfl) (by kernel_rfl) hFd ?_
        refine walkZ_seg ?_
        simp only [List.filterMap_cons, List.filterMap_nil, List.getElem?_cons_zero, List.getElem?_cons_succ]
        refine steps_quiet 3 (by kernel_rfl) ?_
        simp only [List.take_succ_cons, List.take_zero, List.drop_succ_cons, List.drop_zero]
        repeat (go_big_quiet_step (fail))
        refine wpQuiet_nil ?_
        clear o3 x0 x1 x2 x3
        have LX2 : Locs [blkA xb 62 #[.int .i64 x.k, .int .i64 x.n, .string ⟨x.s.toArray⟩, .slice q2 x.l.len c2], rvA 62 (.slice ps i cs) es, blkA ox 62 #[.int .i64 v.k, .int .i64 0, .string ⟨#[]⟩, (.slice ps i cs)], blkA rx 62 #[.int .i64 0, .int .i64 0, .string ⟨#[]⟩, .slice none 0 0], blkA bx 62 #[.int .i64 v.k, .int .i64 v.n, .string ⟨v.s.toArray⟩, .slice (some ⟨b, o, none⟩) v.l.len c]] := .cons (blkA_loc _ _ _) LX
        have X3 := X2.ext LX2 (Ext.refl _).drew
        refine steps_want rfl (fun K hK => ?_)
        go_simp
        refine HCL.out.mono ?_
        rintro e w4 ⟨⟨q3, c3, rfl, hvx⟩, hE4⟩
        clear HCL
        generalize x.clone = xc at *
        have Y4 := X3.vl LX2 hE4 hvx
        have LY4 := Locs.cons (vlA_loc q3 c3 xc) LX2
        clear X3 X2 hvx hE4 hbo2 hbx2
        refine hK _ _ (fun X => Blk X ox 62 #[.int .i64 v.k, .int .i64 0, .string ⟨#[]⟩, (.slice ps i cs)] ∧ Blk X xb 62 #[.int .i64 x.k, .int .i64 x.n, .string ⟨x.s.toArray⟩, .slice q2 x.l.len c2]) ⟨Y4.perm (List.perm_append_comm (l₁ := [_, _, _]) (l₂ := [_, _, _])) |>.blk0, Y4.swap.blk0⟩ (fun _ h => h) ?_
        clear hK K
        (try simp only [Act.put, List.setIfInBounds_toArray, List.set_cons_succ, List.set_cons_zero])
        have Y5 := Y4.ext LY4 (ext_alloc w4 (.cells (xc.cells q3 c3).toArray 62))
        have hnews := news_new w4 (xc.cells q3 c3) 62
        simp only [Vl.cells] at Y5 hnews
        simp only [Vl.cells]
        refine steps_want rfl (fun K hK => ?_)
        go_simp
        generalize World.alloc _ _ = w5 at *
        clear Y4
        refine hK _ _ (fun X => Blk X ox 62 #[.int .i64 v.k, .int .i64 0, .string ⟨#[]⟩, (.slice ps i cs)] ∧ Blk X xb 62 #[.int .i64 x.k, .int .i64 x.n, .string ⟨x.s.toArray⟩, .slice q2 x.l.len c2]) ⟨Y5.perm (List.perm_append_comm (l₁ := [_, _, _]) (l₂ := [_, _, _])) |>.blk0, Y5.swap.blk0⟩ (fun _ h => h) ?_
        clear hK K
        (try simp only [Act.put, List.setIfInBounds_toArray, List.set_cons_succ, List.set_cons_zero])
        have Y6 := (Y5.third).rvx (e := (xc, q3, c3))
        have LY6 : Locs [blkA xb 62 #[.int .i64 x.k, .int .i64 x.n, .string ⟨x.s.toArray⟩, .slice q2 x.l.len c2], blkA ox 62 #[.int .i64 v.k, .int .i64 0, .string ⟨#[]⟩, (.slice ps i cs)], blkA rx 62 #[.int .i64 0, .int .i64 0, .string ⟨#[]⟩, .slice none 0 0], blkA bx 62 #[.int .i64 v.k, .int .i64 v.n, .string ⟨v.s.toArray⟩, .slice (some ⟨b, o, none⟩) v.l.len c]] := .cons (blkA_loc _ _ _) (.cons hLO L2)
        obtain ⟨FR, hFR⟩ := Y6.head
        clear Y5
        refine steps_want rfl (fun K hK => ?_)
        refine wp_append_new _ _ 23 rfl 62 i0 (.agg zeroV.toArray) 4 56 Try.underlying23 hi0 hz0 hz1 hz2 rfl (by decide) _ i (els es) rfl (hel ▸ hFR.1.own) (some ⟨w4.heap.size, 0, none⟩) 1 1 (xc.cells q3 c3) rfl rfl (fun h => nomatch h) hnews (cells_one _ _ _) (by unfold maxLen; omega) (by omega) ?_
        intro v6 w6 hown6 hg6 hf6
        have Z6 := Y6.next LY6 (fun F hF => RowV.grow hF.1 hF.2 (hel.symm ▸ hown6) hg6 hf6)
        clear Y6 hFR hnews hown6 hg6 hf6
        obtain ⟨p6, c6, rfl⟩ : ∃ p c, v6 = .slice p (i + 1) c := by
          obtain ⟨F, hF⟩ := Z6.head
          obtain ⟨p, c, h⟩ := RowV.slice hF
          exact ⟨p, c, by rw [h, List.length_append, hel]; rfl⟩
        refine hK _ _ (fun X => Blk X ox 62 #[.int .i64 v.k, .int .i64 0, .string ⟨#[]⟩, (.slice ps i cs)] ∧ Blk X xb 62 #[.int .i64 x.k, .int .i64 x.n, .string ⟨x.s.toArray⟩, .slice q2 x.l.len c2]) ⟨Z6.third.blk0, Z6.swap.blk0⟩ (fun _ h => h) ?_
        clear hK K
        (try simp only [Act.put, List.setIfInBounds_toArray, List.set_cons_succ, List.set_cons_zero])
        have o6 : w6.cell? ⟨ox, 3, none⟩ = some (.slice ps i cs) := Z6.third.blk0.cell 3
        have f6 := Z6.third.blk0.frozen 3
        refine steps_quiet 1 (by kernel_rfl) ?_
        simp only [List.take_succ_cons, List.take_zero, List.drop_succ_cons, List.drop_zero]
        repeat (go_big_quiet_step (fail))
        refine wpQuiet_nil ?_
        refine steps_end ?_
        refine walkZ_done rfl rfl (fun K hK => ?_)
        go_simp
        refine hK _ _ ?_
        clear hK K
        try simp only [Act.put, List.setIfInBounds_toArray, List.set_cons_succ, List.set_cons_zero]
        have Z7 := Z6.third.setB (.cons (rvA_loc _ _ _) (.cons (blkA_loc _ _ _) L2)) 3 (.slice p6 (i + 1) c6)
        simp only [List.setIfInBounds_toArray, List.set_cons_succ, List.set_cons_zero] at Z7
        generalize World.setCell _ _ _ = w7 at *
        have Z8 := Z7.third.drop.swap
        clear Z6 Z7 o6 f6
        go_wp2_with fail
        refine ⟨⟨i + 1, .slice p6 (i + 1) c6, es ++ [(xc, q3, c3)], by go_num, by omega, ?_, Z8⟩, by simp [intOf]; omega⟩
        rw [HES.out, List.map_append, HE0.out]; rfl
      · have hi' : i = v.l.len := by omega
        subst hi'
        have i7 : ¬ (v.l.len : Int) < v.l.len := by omega
        rw [List.take_of_length_le (by omega)] at hes
        have HE0 := Lib.hid hes
        have H4 : Has W wr [blkA ox 62 #[.int .i64 v.k, .int .i64 0, .string ⟨#[]⟩, (.slice ps v.l.len cs)], blkA rx 62 #[.int .i64 0, .int .i64 0, .string ⟨#[]⟩, .slice none 0 0], blkA bx 62 #[.int .i64 v.k, .int .i64 v.n, .string ⟨v.s.toArray⟩, .slice pl v.l.len c], rvA 62 (.slice ps v.l.len cs) es] :=
          hX.perm (List.perm_append_comm (l₁ := [rvA 62 (.slice ps v.l.len cs) es]) (l₂ := [_, _, _]))
        have LO : Locs [blkA ox 62 #[.int .i64 v.k, .int .i64 0, .string ⟨#[]⟩, (.slice ps v.l.len cs)], blkA bx 62 #[.int .i64 v.k, .int .i64 v.n, .string ⟨v.s.toArray⟩, .slice pl v.l.len c], rvA 62 (.slice ps v.l.len cs) es] := .cons hLO (.cons hLB (.cons (rvA_loc _ _ _) .nil))
        clear hes hX
        go_upto_region 13 with fail
        have hbo := H4.blk0
        have hbr := H4.swap.blk0
        have o0 := hbo.cell 0
        have o1 := hbo.cell 1
        have o2 := hbo.cell 2
        have o3 := hbo.cell 3
        have r0 := hbr.cell 0
        have r1 := hbr.cell 1
        have r2 := hbr.cell 2
        have r3 := hbr.cell 3
        have f0 := hbr.frozen 0
        have f1 := hbr.frozen 1
        have f2 := hbr.frozen 2
        have f3 := hbr.frozen 3
        simp only [List.getElem?_toArray, List.getElem?_cons_zero, List.getElem?_cons_succ] at o0 o1 o2 o3 r0 r1 r2 r3
        have H8 := (((H4.swap.setB LO 0 (.int .i64 v.k)).setB LO 1 (.int .i64 0)).setB LO 2 (.string ⟨#[]⟩)).setB LO 3 (.slice ps v.l.len cs)
        simp only [List.setIfInBounds_toArray, List.set_cons_succ, List.set_cons_zero] at H8
        go_wp2_with fail
        generalize World.setCell _ _ _ = w9 at *
        clear o0 o1 o2 o3 r0 r1 r2 r3 f0 f1 f2 f3 hbo hbr
        have hbr := H8.blk0
        have r0 := hbr.cell 0
        have r1 := hbr.cell 1
        have r2 := hbr.cell 2
        have r3 := hbr.cell 3
        simp only [List.getElem?_toArray, List.getElem?_cons_zero, List.getElem?_cons_succ] at r0 r1 r2 r3
        (try simp only [Exit.inBlock, Exit.then])
        refine bodyPost_ret (by simp [results, Try.results55, go_sem, r0, r1, r2, r3]; try rfl) rfl ?_
        refine ⟨⟨ps, cs, ?_, ?_⟩, H8.base⟩
        · rw [HC.out]
          simp only [Vl.cells, Fo.clone_len]
        · rw [HC.out]
          have H9 := H8.perm (List.perm_append_comm (l₁ := [_, _, _]) (l₂ := [_]))
          obtain ⟨F, hF, hb, _⟩ := H9
          obtain ⟨h1, h2, h3, h4, h5⟩ := RowV.fo hF
          rw [HE0.out, Fo.of_map_clone] at h5
          have hcl3 : v.l.clone.len = v.l.len := Fo.clone_len _
          exact ⟨fun h => by rw [hcl3]; exact ⟨by have := (h2 h).1; omega, (h2 h).2⟩, by rw [hcl3]; omega, h4, h5.mono fun k hk _ => (hb k hk).1⟩
end Go.Proofs.Ytkkhcpknldlpoaa

namespace Go.Proofs.Ytkkhcpknldlpoaa
set_option maxRecDepth 4000
set_option linter.unusedVariables false
set_option linter.unusedSimpArgs false
open Go Go.RowKit
theorem Has.grow {w W W' : World} {e : TypeId} {sz n n' : Nat} {v v' : Value} {xs xs' : List Value} {ps : List Asr} (h : Has w W (rowA e sz v n xs :: ps)) (hl : Locs ps) (hown : W'.ownsRow 0 e sz v' n' xs') (hg : W.grownBy W' v.ownBlock) (hf : Fresh W v v') : Has w W' (rowA e sz v' n' xs' :: ps) :=
  h.next hl fun F hF => by
    obtain ⟨_, rfl⟩ := hF
    exact Next.mk ⟨hown, rfl⟩ (grownBy.tch hg) hf.1
theorem Has.rowNil {w W : World} {ps : List Asr} (h : Has w W ps) (hl : Locs ps) (e : TypeId) (sz : Nat) : Has w W (rowA e sz (.slice none 0 0) 0 [] :: ps) :=
  h.add hl (Ext.refl W) (F := fun k => (Value.slice none 0 0).ownBlock = some k) ⟨World.ownsRow_nil _ _ _ _, rfl⟩ (fun k hk => by simp [Value.ownBlock] at hk)
theorem Has.row0 {w W : World} {e : TypeId} {sz n : Nat} {v : Value} {xs : List Value} {ps : List Asr} (h : Has w W (rowA e sz v n xs :: ps)) : W.ownsRow 0 e sz v n xs := by
  obtain ⟨F, hF⟩ := h.head
  exact hF.1
def nmV (s : List UInt8) : Value := .string ⟨s.toArray⟩
def cdV (c : Int × Int) : List Value := [.int .i64 c.1, .int .i64 c.2]
def cdVs (l : List (Int × Int)) : List Value := l.flatMap cdV
theorem cdVs_length (l : List (Int × Int)) : (cdVs l).length = l.length * 2 := by
  unfold cdVs
  induction l with
  | nil => rfl
  | cons c r ih => rw [List.flatMap_cons, List.length_append, ih, List.length_cons]; show 2 + _ = _; omega
theorem cdVs_get : ∀ (l : List (Int × Int)) (i : Nat) (h : i < l.length), (cdVs l)[2 * i]? = some (.int .i64 l[i].1) ∧ (cdVs l)[2 * i + 1]? = some (.int .i64 l[i].2)
  | [], _, h => by simp at h
  | c :: r, 0, _ => ⟨rfl, rfl⟩
  | c :: r, i + 1, h => by
    obtain ⟨h1, h2⟩ := cdVs_get r i (by simpa using h)
    have e : cdVs (c :: r) = .int .i64 c.1 :: .int .i64 c.2 :: cdVs r := rfl
    rw [e, show 2 * (i + 1) = 2 * i + 1 + 1 by omega, List.getElem?_cons_succ, List.getElem?_cons_succ, List.getElem?_cons_succ, List.getElem?_cons_succ]
    exact ⟨h1, h2⟩
theorem cdVs_one (l : List (Int × Int)) : ∀ u ∈ cdVs l, u.oneCell' = true := by
  intro u hu
  unfold cdVs at hu
  obtain ⟨c, _, hc⟩ := List.mem_flatMap.1 hu
  simp only [cdV, List.mem_cons, List.not_mem_nil, or_false] at hc
  rcases hc with rfl | rfl <;> rfl
theorem nmV_one (l : List (List UInt8)) : ∀ u ∈ l.map nmV, u.oneCell' = true := by
  intro u hu
  obtain ⟨s, _, rfl⟩ := List.mem_map.1 hu
  rfl
section
variable {B F : Nat → Prop} {W : World} {q : Option Addr} {n c : Nat} {e : TypeId}
theorem slOk_of_row {sz : Nat} {xs : List Value} (h : W.ownsRow 0 e sz (.slice q n c) n xs) : SlOk q n c := by
  rcases h.2 with ⟨hv, h0⟩ | ⟨g, cap, cur, hv, _, _, hc, hm, _⟩
  · injection hv with h1 h2 h3
    subst h1 h2 h3
    exact ⟨fun _ => ⟨rfl, rfl⟩, Nat.le_refl _, Nat.zero_le _⟩
  · injection hv with h1 h2 h3
    subst h1 h3
    exact ⟨fun h => (by cases h), hc, hm⟩
theorem cells_of_row {sz : Nat} {xs : List Value} (h : W.ownsRow 0 e sz (.slice q n c) n xs) (hF : ∀ k, (Value.slice q n c).ownBlock = some k → F k) (hx : xs ≠ []) : ∃ g, q = some ⟨g, 0, none⟩ ∧ F g ∧ ∀ j u, xs[j]? = some u → W.cell? ⟨g, j, none⟩ = some u := by
  rcases h.2 with ⟨hv, h0⟩ | ⟨g, cap, cur, hv, _⟩
  · have := h.1
    rw [h0, Nat.zero_mul] at this
    exact absurd (List.eq_nil_of_length_eq_zero this) hx
  · have h1 := h.cells (g := g) (by rw [hv]; rfl)
    injection hv with h2
    subst h2
    refine ⟨g, rfl, hF g rfl, fun j u hj => ?_⟩
    have := h1 j u hj
    rwa [Go.WideShapes.add_plain, Nat.zero_add] at this
theorem NameB.of_row {l : List (List UInt8)} (h : W.ownsRow 0 e 1 (.slice q n c) n (l.map nmV)) (hF : ∀ k, (Value.slice q n c).ownBlock = some k → F k) : NameB F W q l := fun i hi => by
  obtain ⟨g, h1, h2, h3⟩ := cells_of_row h hF (fun h0 => by
    have := congrArg List.length h0
    simp only [List.length_map, List.length_nil] at this
    omega)
  exact ⟨g, 0, h1, h2, h3 _ _ (by rw [Nat.zero_add, List.getElem?_map, List.getElem?_eq_getElem hi]; rfl)⟩
theorem CodeB.of_row {l : List (Int × Int)} (h : W.ownsRow 0 e 2 (.slice q n c) n (cdVs l)) (hF : ∀ k, (Value.slice q n c).ownBlock = some k → F k) : CodeB F W q l := fun i hi => by
  obtain ⟨g, h1, h2, h3⟩ := cells_of_row h hF (fun h0 => by
    have := congrArg List.length h0
    rw [cdVs_length, List.length_nil] at this
    omega)
  obtain ⟨g1, g2⟩ := cdVs_get l i hi
  exact ⟨g, 0, h1, h2, h3 _ _ (by rw [Nat.zero_add]; exact g1), h3 _ _ (by rw [Nat.zero_add]; exact g2)⟩
theorem NameB.news {l : List (List UInt8)} (h : NameB B W q l) : ∀ a, q = some a → ∀ j u, (l.map nmV)[j]? = some u → W.cell? (a.add j) = some u := by
  rintro a rfl j u hj
  have hlt : j < l.length := by
    have := (List.getElem?_eq_some_iff.1 hj).1
    rwa [List.length_map] at this
  obtain ⟨b, o, ha, _, hc⟩ := h j hlt
  injection ha with ha
  subst ha
  rw [Go.WideShapes.add_plain, hc, ← hj, List.getElem?_map, List.getElem?_eq_getElem hlt]; rfl
theorem CodeB.news {l : List (Int × Int)} (h : CodeB B W q l) : ∀ a, q = some a → ∀ j u, (cdVs l)[j]? = some u → W.cell? (a.add j) = some u := by
  rintro a rfl j u hj
  have hlt : j < l.length * 2 := by
    have := (List.getElem?_eq_some_iff.1 hj).1
    rwa [cdVs_length] at this
  obtain ⟨b, o, ha, _, h1, h2⟩ := h (j / 2) (by omega)
  injection ha with ha
  subst ha
  obtain ⟨g1, g2⟩ := cdVs_get l (j / 2) (by omega)
  rw [Go.WideShapes.add_plain]
  rcases (show j % 2 = 0 ∨ j % 2 = 1 by omega) with hm | hm
  · have e : 2 * (j / 2) = j := by omega
    rw [e] at g1 h1
    rw [h1, ← hj, g1]
  · have e : 2 * (j / 2) + 1 = j := by omega
    rw [Nat.add_assoc, e] at h2
    rw [e] at g2
    rw [h2, ← hj, g2]
end
/-- an image of one's own out of its rows -/
theorem Has.mkIm {w W : World} {ps : List Asr} {T S C : TypeId} {pk pn pc : Option Addr} {nk nn nc ck cn cc : Nat} {es : List El} {names : List (List UInt8)} {code : List (Int × Int)}
    (h : Has w W (rvA T (.slice pk nk ck) es :: rowA S 1 (.slice pn nn cn) nn (names.map nmV) :: rowA C 2 (.slice pc nc cc) nc (cdVs code) :: ps)) (pl : Int) :
    Has w W (imA ⟨pc, cc, pk, ck, pn, cn⟩ ⟨code, Fo.of (es.map Prod.fst), names, pl⟩ :: ps) := by
  have h1 : Has w W ((fun W F => VlB F W pk ck ⟨0, 0, [], Fo.of (es.map Prod.fst)⟩ ∧ NameB F W pn names ∧ SlOk pn names.length cn ∧ ∀ k, F k → k < W.heap.size) :: rowA C 2 (.slice pc nc cc) nc (cdVs code) :: ps) := by
    refine h.merge fun F G hF hG _ => ?_
    obtain ⟨h1, h2, h3, h4, h5⟩ := RowV.fo hF
    have e : (Fo.of (es.map Prod.fst)).len = es.length := by rw [Fo.of_len, List.length_map]
    obtain ⟨hr, rfl⟩ := hG
    have hn : nn = names.length := by have := hr.1; rw [List.length_map] at this; omega
    refine ⟨⟨fun h => by show (Fo.of _).len = 0 ∧ _; rw [e]; exact h2 h, by show (Fo.of _).len ≤ _; rw [e]; exact h3, h4, h5.mono fun k hk _ => Or.inl hk⟩, NameB.of_row hr fun k hk => Or.inr hk, hn ▸ slOk_of_row hr, fun k hk => ?_⟩
    rcases hk with hk | hk
    · exact hF.lt k hk
    · exact (hr.lt k hk).2
  refine h1.merge fun F G hF hG _ => ?_
  obtain ⟨a1, a2, a3, a4⟩ := hF
  obtain ⟨hr, rfl⟩ := hG
  have hn : nc = code.length := by have := hr.1; rw [cdVs_length] at this; omega
  refine ⟨⟨CodeB.of_row hr fun k hk => Or.inr hk, hn ▸ slOk_of_row hr, a1.mono fun k hk _ => Or.inl hk, a2.mono fun k hk _ => Or.inl hk, a3⟩, fun k hk => ?_⟩
  rcases hk with hk | hk
  · exact a4 k hk
  · exact (hr.lt k hk).2
def Ip.nil : Ip := ⟨none, 0, none, 0, none, 0⟩
theorem ImB.zero (B : Nat → Prop) (W : World) : ImB B W Ip.nil Im.zero :=
  ⟨fun i hi => absurd hi (Nat.not_lt_zero _), ⟨fun _ => ⟨rfl, rfl⟩, Nat.le_refl _, Nat.zero_le _⟩, VlB.none 0 0 [], fun i hi => absurd hi (Nat.not_lt_zero _), ⟨fun _ => ⟨rfl, rfl⟩, Nat.le_refl _, Nat.zero_le _⟩⟩
theorem Has.imB {w W : World} {ps : List Asr} {a : Ip} {p : Im} (h : Has w W (imA a p :: ps)) : ImB (fun k => w.heap.size ≤ k) W a p := by
  obtain ⟨F, hF, hb, _⟩ := h
  exact hF.1.mono fun k hk _ => (hb k hk).1
def imzV : List Value := [.slice none 0 0, .slice none 0 0, .slice none 0 0, .int .i64 0]
theorem strInfoI : (Try.prog.info? 9).map (fun i => (i.zero, i.size, i.bytes)) = some (some (.string ⟨#[]⟩), 1, 16) := by kernel_rfl
theorem instrInfo : (Try.prog.info? 52).map (fun i => (i.zero, i.size, i.bytes)) = some (some (.agg #[.int .i64 0, .int .i64 0]), 2, 16) := by kernel_rfl
end Go.Proofs.Ytkkhcpknldlpoaa

namespace Go.Proofs.Ytkkhcpknldlpoaa
set_option maxRecDepth 4000
set_option linter.unusedVariables false
set_option linter.unusedSimpArgs false
open Go Go.RowKit
def setMany (cs : Array Value) : Nat → List Value → Array Value
  | _, [] => cs
  | o, v :: r => setMany (cs.setIfInBounds o v) (o + 1) r
theorem Blk.many {g : Nat} {T : TypeId} : ∀ (vs : List Value) (o : Nat) {W : World} {cs : Array Value}, Blk W g T cs → Blk (W.setCells g o vs) g T (setMany cs o vs)
  | [], _, _, _, h => h
  | v :: r, o, _, _, h => by
    rw [World.setCells, setMany]
    exact Blk.many r (o + 1) (h.set_ o v)
theorem tch_many (g : Nat) : ∀ (vs : List Value) (o : Nat) (W : World), Tch (fun k => k = g) W (W.setCells g o vs)
  | [], _, W => Tch.refl _ W
  | v :: r, o, W => by
    rw [World.setCells]
    exact (Tch.setCell (p := ⟨g, o, none⟩) (Tch.refl (fun k => k = g) W) (fun _ => rfl) v).trans (tch_many g r (o + 1) _) (fun _ h _ => h)
theorem Has.many {w W : World} {g : Nat} {T : TypeId} {cs : Array Value} {ps : List Asr} (h : Has w W (blkA g T cs :: ps)) (hl : Locs ps) (o : Nat) (vs : List Value) : Has w (W.setCells g o vs) (blkA g T (setMany cs o vs) :: ps) :=
  h.next hl fun F hF => by
    obtain ⟨hb, rfl⟩ := hF
    exact Next.mk (F' := fun k => k = g) ⟨hb.many vs o, rfl⟩ (tch_many g vs o W) (fun k hk => Or.inl hk)
theorem setMany_list : ∀ (new old pre post : List Value), old.length = new.length → setMany (pre ++ (old ++ post)).toArray pre.length new = (pre ++ (new ++ post)).toArray
  | [], [], _, _, _ => rfl
  | [], _ :: _, _, _, h => by simp at h
  | _ :: _, [], _, _, h => by simp at h
  | v :: r, u :: s, pre, post, h => by
    rw [setMany]
    have e : (pre ++ (u :: s ++ post)).toArray.setIfInBounds pre.length v = ((pre ++ [v]) ++ (s ++ post)).toArray := by
      simp
    have e2 : pre.length + 1 = (pre ++ [v]).length := by simp
    rw [e, e2, setMany_list r s (pre ++ [v]) post (by simpa using h)]
    simp
def pgPre (nm : List UInt8) (vc vk vn : Value) (pl d mu : Int) : List Value := [.string ⟨nm.toArray⟩, vc, vk, vn, .int .i64 pl, .int .u32 d, .int .i32 mu, .int .u32 0]
def pgL (nm : List UInt8) (vc vk vn : Value) (pl d mu : Int) (sm : List UInt8) (z : Int) : List Value := pgPre nm vc vk vn pl d mu ++ (u8s sm ++ [.int .i64 z])
section
variable {nm sm sm' : List UInt8} {vc vk vn : Value} {pl d mu z : Int}
theorem pg_sum (h : sm.length = sm'.length) : setMany (pgL nm vc vk vn pl d mu sm z).toArray 8 (u8s sm') = (pgL nm vc vk vn pl d mu sm' z).toArray :=
  setMany_list (u8s sm') (u8s sm) (pgPre nm vc vk vn pl d mu) [.int .i64 z] (by rw [u8s_length, u8s_length, h])
theorem pg_size (h : sm.length = 32) (z' : Int) : (pgL nm vc vk vn pl d mu sm z).toArray.setIfInBounds 40 (.int .i64 z') = (pgL nm vc vk vn pl d mu sm z').toArray := by
  have h1 : (u8s sm).length = 32 := by rw [u8s_length, h]
  have := setMany_list [.int .i64 z'] [.int .i64 z] (pgPre nm vc vk vn pl d mu ++ u8s sm) [] rfl
  have h2 : (pgPre nm vc vk vn pl d mu ++ u8s sm).length = 40 := by rw [List.length_append, h1]; rfl
  rw [h2] at this
  simpa [pgL, setMany] using this
theorem pg_done (d' : Int) : (pgL nm vc vk vn pl d mu sm z).toArray.setIfInBounds 5 (.int .u32 d') = (pgL nm vc vk vn pl d' mu sm z).toArray := rfl
theorem pg_mu (m' : Int) : (pgL nm vc vk vn pl d mu sm z).toArray.setIfInBounds 6 (.int .i32 m') = (pgL nm vc vk vn pl d m' sm z).toArray := rfl
theorem pg_at40 (h : sm.length = 32) : (pgL nm vc vk vn pl d mu sm z).toArray[40]? = some (.int .i64 z) := by
  have h1 : (u8s sm).length = 32 := by rw [u8s_length, h]
  rw [List.getElem?_toArray, pgL, List.getElem?_append_right (by show 8 ≤ 40; omega)]
  show (u8s sm ++ [_])[32]? = _
  rw [List.getElem?_append_right (by omega), h1]; rfl
theorem pg_len (h : sm.length = 32) : (pgL nm vc vk vn pl d mu sm z).length = 41 := by
  have h1 : (u8s sm).length = 32 := by rw [u8s_length, h]
  rw [pgL, List.length_append, List.length_append, h1]; rfl
theorem pg_range {W : World} {b : Nat} {T : TypeId} (hb : Blk W b T (pgL nm vc vk vn pl d mu sm z).toArray) : W.rangeAt b 8 (u8s sm) := by
  intro j v hj
  rw [hb.cell, List.getElem?_toArray, pgL, List.getElem?_append_right (by show 8 ≤ 8 + j; omega)]
  show (u8s sm ++ [_])[8 + j - 8]? = _
  rw [show 8 + j - 8 = j by omega, List.getElem?_append_left (List.getElem?_eq_some_iff.1 hj).1]
  exact hj
theorem pg_there {W : World} {b : Nat} {T : TypeId} (hb : Blk W b T (pgL nm vc vk vn pl d mu sm z).toArray) (h : sm.length = 32) : W.there b 8 32 := by
  intro j hj
  refine ⟨?_, hb.frozen _⟩
  rw [hb.cell, List.getElem?_toArray, List.getElem?_eq_getElem (by rw [pg_len h]; omega)]
  rfl
end
theorem ext_bytes (w : World) (e : TypeId) (s : ByteArray) : Ext w (Go.Lib.bytesWorld w e s) :=
  ⟨rfl, rfl, rfl, by rw [Go.Lib.bytesWorld_size]; omega, fun k hk => Go.Lib.bytesWorld_at_old w e s k hk⟩
theorem bytes_nums (w : World) (e : TypeId) (l : List UInt8) : NumsAt .u8 (Go.Lib.bytesWorld w e ⟨l.toArray⟩) (some ⟨w.heap.size, 0, none⟩) (byI l) := by
  intro j hj
  have hj' : j < l.length := by rw [byI_length] at hj; exact hj
  refine ⟨_, rfl, by rw [Go.Lib.bytesWorld_size]; exact Nat.lt_succ_self _, ?_⟩
  rw [Go.WideShapes.add_plain, Nat.zero_add, Go.Lib.bytesWorld_cell w e ⟨l.toArray⟩ j hj', byI, List.getD_eq_getElem?_getD, List.getD_eq_getElem?_getD, List.getElem?_map, List.getElem?_eq_getElem hj']
  simp [List.getElem?_eq_getElem hj']
theorem PartsAt.three {X : World} {g : Nat} {t : TypeId} {q1 q2 q3 : Option Addr} {c1 c2 c3 : Nat} {l1 l2 l3 : List UInt8} (hb : Blk X g t #[.slice q1 l1.length c1, .slice q2 l2.length c2, .slice q3 l3.length c3])
    (h1 : NumsAt .u8 X q1 (byI l1)) (h2 : NumsAt .u8 X q2 (byI l2)) (h3 : NumsAt .u8 X q3 (byI l3)) (n1 : q1 = none → l1.length = 0 ∧ c1 = 0) (n2 : q2 = none → l2.length = 0 ∧ c2 = 0) (n3 : q3 = none → l3.length = 0 ∧ c3 = 0)
    (e1 : l1.length ≤ c1 ∧ c1 ≤ maxLen) (e2 : l2.length ≤ c2 ∧ c2 ≤ maxLen) (e3 : l3.length ≤ c3 ∧ c3 ≤ maxLen) : PartsAt (fun _ => False) X (some ⟨g, 0, none⟩) [l1, l2, l3] := by
  intro i hi
  have : i = 0 ∨ i = 1 ∨ i = 2 := by simp at hi; omega
  rcases this with rfl | rfl | rfl
  · exact ⟨g, 0, rfl, hb.lt, id, q1, c1, by rw [hb.cell]; rfl, h1, fun _ _ _ => id, n1, e1⟩
  · exact ⟨g, 0, rfl, hb.lt, id, q2, c2, by rw [hb.cell]; rfl, h2, fun _ _ _ => id, n2, e2⟩
  · exact ⟨g, 0, rfl, hb.lt, id, q3, c3, by rw [hb.cell]; rfl, h3, fun _ _ _ => id, n3, e3⟩
end Go.Proofs.Ytkkhcpknldlpoaa

namespace Go.Proofs.Ytkkhcpknldlpoaa
set_option maxRecDepth 4000
set_option linter.unusedVariables false
set_option linter.unusedSimpArgs false
open Go Go.RowKit
def signOf (k : Nat) : Nat := if k = 1 then 99 else if k = 2 then 110 else if k = 3 then 112 else if k = 4 then 116 else if k = 5 then 107 else 45
theorem sign_tab : ∀ k : Fin 33, signTab.getD k.1 0 = signOf (opTab.getD k.1 0) := by decide
theorem opTab_le : ∀ k : Fin 33, opTab.getD k.1 0 ≤ 5 := by decide
theorem opnd_le (op : Int) : opnd op ≤ 5 := by
  unfold opnd
  split
  · rename_i h
    obtain ⟨k, hk, rfl⟩ := isOp_nat h
    exact opTab_le ⟨k, hk⟩
  · omega
theorem roperand_any {op : Int} (h : isOp op) (W : World) : Calls Try.prog 22 #[.int .i64 op] W fun e W' => e = .returned (.int .u8 (signOf (opnd op) : Nat)) ∧ W = W' := by
  obtain ⟨k, hk, rfl⟩ := isOp_nat h
  have e : opnd (k : Int) = opTab.getD k 0 := if_pos h
  rw [e, ← sign_tab ⟨k, hk⟩]
  exact roperand_lit k hk W
theorem most_any (p : Im) (a : Ip) (k : Nat) (hk : k ≤ 5) (W : World) : Calls Try.prog 44 #[.agg (p.cells a).toArray, .int .i64 k] W fun e W' => e = .returned (.int .i64 (p.most k)) ∧ Ext W W' := by
  have hE := ext_alloc W (.cells (p.cells a).toArray 26)
  simp only [Im.cells] at hE
  simp only [Im.cells]
  rcases (show k = 0 ∨ k = 1 ∨ k = 2 ∨ k = 3 ∨ k = 4 ∨ k = 5 by omega) with rfl | rfl | rfl | rfl | rfl | rfl
  all_goals (
    go_enter Try.func44, Try.ntmps44
    go_wp2_with fail
    go_returns
    exact ⟨rfl, hE⟩)
theorem below_any (p : Im) (a : Ip) (k : Nat) (hk : k ≤ 5) (W : World) : Calls Try.prog 37 #[.agg (p.cells a).toArray, .int .u8 (signOf k : Nat)] W fun e W' => e = .returned (.int .i64 (p.most k)) ∧ Ext W W' := by
  have hE := ext_alloc W (.cells (p.cells a).toArray 26)
  simp only [Im.cells] at hE
  simp only [Im.cells]
  rcases (show k = 0 ∨ k = 1 ∨ k = 2 ∨ k = 3 ∨ k = 4 ∨ k = 5 by omega) with rfl | rfl | rfl | rfl | rfl | rfl
  all_goals (
    go_enter Try.func37, Try.ntmps37
    go_wp2_with fail
    go_returns
    exact ⟨rfl, hE⟩)
end Go.Proofs.Ytkkhcpknldlpoaa

namespace Go.Proofs.Ytkkhcpknldlpoaa
set_option maxRecDepth 4000
set_option linter.unusedVariables false
set_option linter.unusedSimpArgs false
open Go Go.RowKit
theorem check_any (v : Vl) (w W : World) (ps : List Asr) (pl : Option Addr) (c : Nat) (hH : Has w W ps) (hl : Locs ps) (hV : VlAt w pl c v) (hok : v.ok) (hb : v.bytes.length ≤ 70368744170000) :
    Calls Try.prog 43 #[.agg (v.cells pl c).toArray] W fun e W' => e = .returned (.int .i64 v.check) ∧ Has w W' ps := by
  obtain ⟨hk, hn, hlo⟩ := hok
  have H1 := hH.new hl 62 (v.cells pl c).toArray
  have L1 : Locs (blkA W.heap.size 62 (v.cells pl c).toArray :: ps) := .cons (blkA_loc _ _ _) hl
  have H2 := H1.new L1 121 #[.int .i64 0, .int .i64 0]
  have hsz : (W.alloc (.cells (v.cells pl c).toArray 62)).heap.size = W.heap.size + 1 := by simp
  rw [hsz] at H2
  have hc := walk_n _ v (Nat.lt_succ_self _) w _ _ (W.heap.size + 1) 0 0 pl c H2 L1 hV hk hlo (by omega) (by omega)
  have hch : v.check = if (v.walk 0 0).1 ≠ 0 then (v.walk 0 0).1 else if 512 < v.bytes.length then 2 else 0 := by
    unfold Vl.check; rw [one_walk]
  rcases hwx : v.walk 0 0 with ⟨e0, m0⟩
  rw [hwx] at hc hch
  simp only at hch
  clear hsz hwx H1 hH
  simp only [Vl.cells] at hc
  simp only [Vl.cells] at H2
  simp only [Vl.cells] at L1
  go_enter Try.func43, Try.ntmps43
  simp only [Vl.cells]
  go_wp2_with fail
  refine hc.mono ?_
  rintro e w2 ⟨rfl, H3⟩
  clear hc H2
  generalize W.heap.size = bx at *
  generalize hcb : bx + 1 = cb at *
  have b1 : w2.cell? ⟨cb, 1, none⟩ = some (.int .i64 e0) := cell_of_row _ _ 1 _ _ _ H3.blk0
  by_cases he : e0 = 0
  · have he1 : (e0 != 0) = false := by simp [he]
    rw [if_neg (fun h => h he)] at hch
    have H4 := H3.writer (.cons (blkA_loc _ _ _) L1)
    have L4 : Locs (blkA cb 121 #[.int .i64 m0, .int .i64 e0] :: blkA bx 62 #[.int .i64 v.k, .int .i64 v.n, .string ⟨v.s.toArray⟩, .slice pl v.l.len c] :: ps) := .cons (blkA_loc _ _ _) L1
    have hx := H4.third.blk0
    have d0 := cell_of_row _ _ 0 _ _ _ hx
    have d1 := cell_of_row _ _ 1 _ _ _ hx
    have d2 := cell_of_row _ _ 2 _ _ _ hx
    have d3 := cell_of_row _ _ 3 _ _ _ hx
    simp only [List.getElem?_toArray, List.getElem?_cons_zero, List.getElem?_cons_succ] at d0 d1 d2 d3
    have hcw := write_n _ v (Nat.lt_succ_self _) w _ _ _ [] pl c H4 L4 hV hk hn hlo (by simp; omega)
    simp only [Vl.cells, List.nil_append] at hcw
    clear H3 hx
    go_wp2_with fail
    refine hcw.mono ?_
    rintro e w3 ⟨rfl, H5⟩
    clear hcw H4 b1 d0 d1 d2 d3
    go_wp2_with fail
    refine (H5.keeps' fun F hF => wlen_any hF).mono ?_
    rintro e w4 ⟨rfl, rfl⟩
    have hres := H5.drop.drop.drop
    by_cases h5 : 512 < v.bytes.length
    · rw [if_pos h5] at hch
      have HC := Lib.hid hch
      have g5 : (512 : Int) < v.bytes.length := by omega
      clear hch H5 h5
      go_wp2_with fail
      go_returns
      exact ⟨by rw [HC.out]; rfl, hres⟩
    · rw [if_neg h5] at hch
      have HC := Lib.hid hch
      have g5 : ¬ (512 : Int) < v.bytes.length := by omega
      clear hch H5 h5
      go_wp2_with fail
      go_returns
      exact ⟨by rw [HC.out]; rfl, hres⟩
  · have he1 : (e0 != 0) = true := by simp [he]
    have he2 : (e0 == 0) = false := by simp [he]
    rw [if_pos he] at hch
    have HC := Lib.hid hch
    have hres := H3.drop.drop
    clear hch
    go_wp2_with fail
    go_returns
    exact ⟨by rw [HC.out]; rfl, hres⟩
end Go.Proofs.Ytkkhcpknldlpoaa
