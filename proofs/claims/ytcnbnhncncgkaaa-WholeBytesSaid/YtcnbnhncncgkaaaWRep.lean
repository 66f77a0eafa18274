/- What a writer is in memory; what numbers are in bytes. -/
import Derived.Test.YtcnbnhncncgkaaaRows
import Derived.Test.YtcnbnhncncgkaaaRow
import Derived.Test.YtcnbnhncncgkaaaBytes
import Derived.Test.YtcnbnhncncgkaaaMix
namespace Go.Proofs.Ytcnbnhncncgkaaa
set_option linter.unusedVariables false
set_option linter.unusedSimpArgs false
open Go Go.RowKit
/-- seven bits a byte, the lowest first -/
def numB (n : Nat) : List UInt8 := if n < 128 then [UInt8.ofNat n] else UInt8.ofNat (n % 128 + 128) :: numB (n / 128)
termination_by n
theorem numB_small {n : Nat} (h : n < 128) : numB n = [UInt8.ofNat n] := by unfold numB; rw [if_pos h]
theorem numB_big {n : Nat} (h : ¬ n < 128) : numB n = UInt8.ofNat (n % 128 + 128) :: numB (n / 128) := by rw [numB]; rw [if_neg h]
theorem numB_le (k : Nat) : ∀ n, n < 128 ^ (k + 1) → (numB n).length ≤ k + 1 := by
  induction k with
  | zero => intro n h; rw [numB_small (by simpa using h)]; simp
  | succ k ih =>
    intro n h
    by_cases hn : n < 128
    · rw [numB_small hn]; simp
    · rw [numB_big hn]
      have := ih (n / 128) (by rw [Nat.div_lt_iff_lt_mul (by omega)]; rw [← Nat.pow_succ]; exact h)
      simp; omega
theorem numB_len {n : Nat} (h : n < 18446744073709551616) : (numB n).length ≤ 10 := numB_le 9 n (by omega)
theorem numsB_len : ∀ (ns : List Nat) (_ : ∀ n ∈ ns, n < 18446744073709551616), (ns.flatMap numB).length ≤ 10 * ns.length
  | [], _ => by simp
  | n :: ns, h => by
    have h1 := numB_len (h n (by simp))
    have h2 := numsB_len ns (fun m hm => h m (by simp [hm]))
    simp only [List.flatMap_cons, List.length_append, List.length_cons]; omega
/-- a writer of one's own: its block, its bytes -/
structure WRep (W : World) (q : Nat) (v : Value) (l : List UInt8) : Prop where
  blk : Blk W q 32 #[v]
  own : W.ownsRow 0 5 1 v l.length (u8s l)
def WFoot (q : Nat) (v : Value) (k : Nat) : Prop := k = q ∨ v.ownBlock = some k
def wA (q : Nat) (l : List UInt8) : Asr := fun W F => ∃ v, WRep W q v l ∧ F = WFoot q v
theorem wA_loc (q : Nat) (l : List UInt8) : Loc (wA q l) := by
  constructor
  · rintro W W' F ⟨v, h, rfl⟩ hk
    exact ⟨v, ⟨h.blk.of_eq (hk q (Or.inl rfl)), ownsRow_same h.own fun g hg => hk g (Or.inr hg)⟩, rfl⟩
  · rintro W F k ⟨v, h, rfl⟩ (rfl | hk)
    · exact h.blk.lt
    · exact (h.own.lt _ hk).2
/-- how a writer stands within a call that began in W -/
structure WSt (F : Nat → Prop) (W wr : World) (q : Nat) (v : Value) (l : List UInt8) : Prop where
  rep : WRep wr q v l
  tch : Tch F W wr
  foot : ∀ k, WFoot q v k → F k ∨ W.heap.size ≤ k
theorem WSt.next {F : Nat → Prop} {W wr : World} {q : Nat} {v : Value} {l : List UInt8} (h : WSt F W wr q v l) : Next F W wr (wA q l) := ⟨_, ⟨v, h.rep, rfl⟩, h.tch, h.foot⟩
theorem WSt.of {F : Nat → Prop} {W : World} {q : Nat} {l : List UInt8} (h : wA q l W F) : ∃ v, WSt F W W q v l := by
  obtain ⟨v, h, rfl⟩ := h
  exact ⟨v, h, Tch.refl _ _, fun _ h => Or.inl h⟩
theorem WSt.ext {F : Nat → Prop} {W wr w2 : World} {q : Nat} {v : Value} {l : List UInt8} (h : WSt F W wr q v l) (hE : Ext wr w2) : WSt F W w2 q v l :=
  ⟨⟨h.rep.blk.of_eq (hE.block _ h.rep.blk.lt), ownsRow_ext h.rep.own hE⟩, h.tch.trans (Tch.of_ext (S := F) hE) (fun _ h _ => h), h.foot⟩
/-- bytes were appended and the row noted -/
theorem WSt.put {F : Nat → Prop} {W wr w3 : World} {q n : Nat} {v v' : Value} {l l' : List UInt8} (h : WSt F W wr q v l) (hown : w3.ownsRow 0 5 1 v' n (u8s l')) (hn : n = l'.length) (hg : wr.grownBy w3 v.ownBlock) (hf : Fresh wr v v') :
    WSt F W (w3.setCell ⟨q, 0, none⟩ v') q v' l' := by
  subst hn
  have hne := row_ne h.rep.blk (by decide) h.rep.own
  have hb3 : Blk w3 q 32 #[v] := h.rep.blk.of_eq (hg.block _ h.rep.blk.lt (fun e => hne e.symm))
  have hne' := row_ne hb3 (by decide) hown
  have hfv : ∀ k, v'.ownBlock = some k → F k ∨ W.heap.size ≤ k := fun k hk => by
    rcases hf.1 k hk with h1 | h1
    · exact h.foot k (Or.inr h1)
    · exact Or.inr (Nat.le_trans h.tch.size h1)
  refine ⟨⟨by simpa using hb3.set_ 0 v', ownsRow_same hown fun g hg => Below.heap_setCell _ _ _ _ (fun e => hne' (by rw [hg, e]))⟩, ?_, ?_⟩
  · refine Tch.setCell (h.tch.trans (grownBy.tch hg) (fun k hk hl => (h.foot k (Or.inr hk)).elim id (fun h => absurd hl (by omega)))) (fun hl => ?_) _
    exact (h.foot q (Or.inl rfl)).elim id (fun h => absurd hl (Nat.not_lt.2 h))
  · rintro k (rfl | hk)
    · exact h.foot _ (Or.inl rfl)
    · exact hfv k hk
theorem WSt.put1 {F : Nat → Prop} {W wr w3 : World} {o : Obj} {q n : Nat} {v v' : Value} {l l' : List UInt8} (h : WSt F W wr q v l) (hown : w3.ownsRow 0 5 1 v' n (u8s l')) (hn : n = l'.length) (hg : (wr.alloc o).grownBy w3 v.ownBlock) (hf : Fresh (wr.alloc o) v v') :
    WSt F W (w3.setCell ⟨q, 0, none⟩ v') q v' l' := (h.ext (ext_alloc _ _)).put hown hn hg hf
theorem WSt.blk1 {F : Nat → Prop} {W wr w3 : World} {q : Nat} {v : Value} {l : List UInt8} (h : WSt F W wr q v l) (hg : wr.grownBy w3 v.ownBlock) : Blk w3 q 32 #[v] :=
  h.rep.blk.of_eq (hg.block _ h.rep.blk.lt (fun e => (row_ne h.rep.blk (by decide) h.rep.own) e.symm))
theorem WSt.blk2 {F : Nat → Prop} {W wr w3 : World} {o : Obj} {q : Nat} {v : Value} {l : List UInt8} (h : WSt F W wr q v l) (hg : (wr.alloc o).grownBy w3 v.ownBlock) : Blk w3 q 32 #[v] := (h.ext (ext_alloc _ _)).blk1 hg
theorem u8Info : (Try.prog.info? 5).map (fun i => (i.zero, i.size, i.bytes)) = some (some (.int .u8 0), 1, 1) := by kernel_rfl
end Go.Proofs.Ytcnbnhncncgkaaa
