/- A hash of one's own: its block, the bytes that wait; what Add and Sum make of it. -/
import Derived.Test.YtkkhcpknldlpoaaSBytes
namespace Go.Proofs.Ytkkhcpknldlpoaa
set_option maxRecDepth 4000
set_option linter.unusedVariables false
set_option linter.unusedSimpArgs false
open Go Go.RowKit
def St.zero : St := ⟨0, 0, 0, 0, 0, 0, 0, 0⟩
/-- a hash: its numbers, whether it has begun, the bytes that wait, how many there were -/
structure HS where
  s : St
  any : Bool
  rest : List UInt8
  n : Nat
def HS.zero : HS := ⟨St.zero, false, [], 0⟩
def HS.start (h : HS) : HS := if h.any then h else { h with s := St.begin, any := true }
def HS.push (h : HS) (p : List UInt8) : HS := ⟨(eat h.s (h.rest ++ p)).1, h.any, (eat h.s (h.rest ++ p)).2, (h.n + p.length) % 18446744073709551616⟩
def HS.addAll (h : HS) (ps : List (List UInt8)) : HS := ps.foldl HS.push h.start
def HS.sum (h : HS) : List UInt8 := (eat (if h.any then h.s else St.begin) (h.rest ++ (0x80 :: (zb (zeros h.rest.length) ++ len8 h.n)))).1.bytes
/-- l are all bytes that were added -/
structure HS.Of (h : HS) (l : List UInt8) : Prop where
  n : h.n = l.length % 18446744073709551616
  yes : h.any = true → (h.s, h.rest) = eat St.begin l
  no : h.any = false → l = [] ∧ h.rest = []
theorem HS.Of.zero : HS.zero.Of [] := ⟨rfl, fun h => (by cases h), fun _ => ⟨rfl, rfl⟩⟩
theorem HS.Of.start {h : HS} {l : List UInt8} (hh : h.Of l) : h.start.Of l ∧ h.start.any = true := by
  unfold HS.start
  by_cases ha : h.any = true
  · rw [if_pos ha]; exact ⟨hh, ha⟩
  · rw [if_neg ha]
    obtain ⟨h1, h2⟩ := hh.no (by simpa using ha)
    exact ⟨⟨hh.n, fun _ => by rw [h1]; show (St.begin, h.rest) = _; rw [h2, eat_small (by simp)], fun h => (by cases h)⟩, rfl⟩
theorem HS.Of.push {h : HS} {l : List UInt8} (hh : h.Of l) (ha : h.any = true) (p : List UInt8) : (h.push p).Of (l ++ p) ∧ (h.push p).any = true := by
  have h1 := hh.yes ha
  refine ⟨⟨?_, fun _ => ?_, fun e => ?_⟩, ha⟩
  · show (h.n + p.length) % _ = _
    rw [hh.n, List.length_append]; omega
  · rw [eat_append _ _ _ _ (Nat.le_refl _), ← h1]
    rfl
  · exact absurd e (by show ¬ h.any = false; rw [ha]; decide)
theorem HS.Of.addAll : ∀ (ps : List (List UInt8)) {h : HS} {l : List UInt8}, h.Of l → h.any = true → (ps.foldl HS.push h).Of (l ++ ps.flatten) ∧ (ps.foldl HS.push h).any = true := by
  intro ps
  induction ps with
  | nil => intro h l hh ha; exact ⟨by simpa using hh, ha⟩
  | cons p ps ih =>
    intro h l hh ha
    obtain ⟨h1, h2⟩ := hh.push ha p
    have := ih h1 h2
    rw [List.append_assoc] at this
    exact this
theorem len8_mod (n : Nat) : len8 (n % 18446744073709551616) = len8 n := by
  unfold len8
  have : n % 18446744073709551616 * 8 % 18446744073709551616 = n * 8 % 18446744073709551616 := by omega
  rw [this]
theorem zeros_mod (n : Nat) : zeros (n % 64) = zeros n := by unfold zeros; omega
theorem HS.Of.sum {h : HS} {l : List UInt8} (hh : h.Of l) : h.sum = sha l := by
  unfold HS.sum
  rw [sha_go, hh.n, len8_mod]
  have hp : pad l.length = 0x80 :: (zb (zeros l.length) ++ len8 l.length) := rfl
  by_cases ha : h.any = true
  · have h1 := hh.yes ha
    have h2 : (eat St.begin l).2.length = l.length % 64 := eat_len _ _ _ (Nat.le_refl _)
    rw [if_pos ha, ← h1, hp]
    rw [← h1] at h2
    show (eat h.s (h.rest ++ _)).1.bytes = (eat h.s (h.rest ++ _)).1.bytes
    have h3 : h.rest.length = l.length % 64 := h2
    rw [h3, zeros_mod]
  · obtain ⟨h1, h2⟩ := hh.no (by simpa using ha)
    rw [if_neg ha, h1, h2, eat_small (s := St.begin) (l := []) (by simp)]
    rfl
/-- the cells of a hash -/
def hcs (s : St) (any : Bool) (v : Value) (n : Nat) : Array Value := #[.int .u32 (wv s.a), .int .u32 (wv s.b), .int .u32 (wv s.c), .int .u32 (wv s.d), .int .u32 (wv s.e), .int .u32 (wv s.f), .int .u32 (wv s.g), .int .u32 (wv s.h), .bool any, v, .int .u64 n]
structure HRep (W : World) (q : Nat) (v : Value) (h : HS) : Prop where
  blk : Blk W q 139 (hcs h.s h.any v h.n)
  own : W.ownsRow 0 5 1 v h.rest.length (u8s h.rest)
  small : h.rest.length < 64
  n64 : h.n < 18446744073709551616
def HFoot (q : Nat) (v : Value) (k : Nat) : Prop := k = q ∨ v.ownBlock = some k
def hA (q : Nat) (h : HS) : Asr := fun W F => ∃ v, HRep W q v h ∧ F = HFoot q v
theorem hA_loc (q : Nat) (h : HS) : Loc (hA q h) := by
  constructor
  · rintro W W' F ⟨v, h, rfl⟩ hk
    exact ⟨v, ⟨h.blk.of_eq (hk q (Or.inl rfl)), ownsRow_same h.own fun g hg => hk g (Or.inr hg), h.small, h.n64⟩, rfl⟩
  · rintro W F k ⟨v, h, rfl⟩ (rfl | hk)
    · exact h.blk.lt
    · exact (h.own.lt _ hk).2
/-- within a call that began in W: the block's cells, the row that waits -/
structure HSt (F : Nat → Prop) (W wr : World) (q : Nat) (v : Value) (s : St) (any : Bool) (rest : List UInt8) (n : Nat) : Prop where
  blk : Blk wr q 139 (hcs s any v n)
  own : wr.ownsRow 0 5 1 v rest.length (u8s rest)
  tch : Tch F W wr
  foot : ∀ k, HFoot q v k → F k ∨ W.heap.size ≤ k
section
variable {F : Nat → Prop} {W wr w2 w3 : World} {q n : Nat} {v v' : Value} {s : St} {any : Bool} {rest : List UInt8}
theorem HSt.of {h : HS} (hh : hA q h W F) : ∃ v, HSt F W W q v h.s h.any h.rest h.n ∧ h.rest.length < 64 ∧ h.n < 18446744073709551616 := by
  obtain ⟨v, h, rfl⟩ := hh
  exact ⟨v, ⟨h.blk, h.own, Tch.refl _ _, fun _ h => Or.inl h⟩, h.small, h.n64⟩
theorem HSt.next (h : HSt F W wr q v s any rest n) (h1 : rest.length < 64) (h2 : n < 18446744073709551616) : Next F W wr (hA q ⟨s, any, rest, n⟩) := ⟨_, ⟨v, ⟨h.blk, h.own, h1, h2⟩, rfl⟩, h.tch, h.foot⟩
theorem HSt.ext (h : HSt F W wr q v s any rest n) (hE : Ext wr w2) : HSt F W w2 q v s any rest n :=
  ⟨h.blk.of_eq (hE.block _ h.blk.lt), ownsRow_ext h.own hE, h.tch.trans (Tch.of_ext (S := F) hE) (fun _ h _ => h), h.foot⟩
theorem HSt.ne (h : HSt F W wr q v s any rest n) : v.ownBlock ≠ some q := row_ne h.blk (by decide) h.own
/-- one cell of the block is set -/
theorem HSt.cell {t : St} {a : Bool} {m i : Nat} {u : Value} (h : HSt F W wr q v s any rest n) (he : (hcs s any v n).setIfInBounds i u = hcs t a v m) : HSt F W (wr.setCell ⟨q, i, none⟩ u) q v t a rest m := by
  have hb := h.blk.set_ i u
  rw [he] at hb
  refine ⟨hb, ownsRow_same h.own fun g hg => Below.heap_setCell _ _ _ _ (fun e => h.ne (by rw [hg, e])), ?_, h.foot⟩
  refine Tch.setCell h.tch (fun hl => ?_) _
  exact (h.foot q (Or.inl rfl)).elim id (fun h => absurd hl (Nat.not_lt.2 h))
/-- the row has grown, and is noted -/
theorem HSt.row {rest' : List UInt8} (h : HSt F W wr q v s any rest n) (hown : w3.ownsRow 0 5 1 v' rest'.length (u8s rest')) (hg : wr.grownBy w3 v.ownBlock) (hf : Fresh wr v v') : HSt F W (w3.setCell ⟨q, 9, none⟩ v') q v' s any rest' n := by
  have hne := h.ne
  have hb3 : Blk w3 q 139 (hcs s any v n) := h.blk.of_eq (hg.block _ h.blk.lt (fun e => hne e.symm))
  have hne' := row_ne hb3 (by decide) hown
  have hb := hb3.set_ 9 v'
  have hfv : ∀ k, v'.ownBlock = some k → F k ∨ W.heap.size ≤ k := fun k hk => by
    rcases hf.1 k hk with h1 | h1
    · exact h.foot k (Or.inr h1)
    · exact Or.inr (Nat.le_trans h.tch.size h1)
  refine ⟨by simpa [hcs] using hb, ownsRow_same hown fun g hg => Below.heap_setCell _ _ _ _ (fun e => hne' (by rw [hg, e])), ?_, ?_⟩
  · refine Tch.setCell (h.tch.trans (grownBy.tch hg) (fun k hk hl => (h.foot k (Or.inr hk)).elim id (fun h => absurd hl (by omega)))) (fun hl => ?_) _
    exact (h.foot q (Or.inl rfl)).elim id (fun h => absurd hl (Nat.not_lt.2 h))
  · rintro k (rfl | hk)
    · exact h.foot _ (Or.inl rfl)
    · exact hfv k hk
/-- all eight numbers are set -/
theorem HSt.state (h : HSt F W wr q v s any rest n) (t : St) : HSt F W (wr.setCells q 0 (u32s t.list)) q v t any rest n := by
  have h1 := h.cell (t := ⟨t.a, s.b, s.c, s.d, s.e, s.f, s.g, s.h⟩) (a := any) (m := n) (i := 0) (u := .int .u32 (wv t.a)) rfl
  have h2 := h1.cell (t := ⟨t.a, t.b, s.c, s.d, s.e, s.f, s.g, s.h⟩) (a := any) (m := n) (i := 1) (u := .int .u32 (wv t.b)) rfl
  have h3 := h2.cell (t := ⟨t.a, t.b, t.c, s.d, s.e, s.f, s.g, s.h⟩) (a := any) (m := n) (i := 2) (u := .int .u32 (wv t.c)) rfl
  have h4 := h3.cell (t := ⟨t.a, t.b, t.c, t.d, s.e, s.f, s.g, s.h⟩) (a := any) (m := n) (i := 3) (u := .int .u32 (wv t.d)) rfl
  have h5 := h4.cell (t := ⟨t.a, t.b, t.c, t.d, t.e, s.f, s.g, s.h⟩) (a := any) (m := n) (i := 4) (u := .int .u32 (wv t.e)) rfl
  have h6 := h5.cell (t := ⟨t.a, t.b, t.c, t.d, t.e, t.f, s.g, s.h⟩) (a := any) (m := n) (i := 5) (u := .int .u32 (wv t.f)) rfl
  have h7 := h6.cell (t := ⟨t.a, t.b, t.c, t.d, t.e, t.f, t.g, s.h⟩) (a := any) (m := n) (i := 6) (u := .int .u32 (wv t.g)) rfl
  exact h7.cell (t := t) (a := any) (m := n) (i := 7) (u := .int .u32 (wv t.h)) rfl
theorem HSt.range (h : HSt F W wr q v s any rest n) : wr.rangeAt q 0 (u32s s.list) := by
  intro j u hj
  rw [Nat.zero_add, h.blk.cell j]
  have hj8 : j < 8 := by have := (List.getElem?_eq_some_iff.1 hj).1; simpa [u32s, St.list] using this
  rcases cases8 hj8 with rfl | rfl | rfl | rfl | rfl | rfl | rfl | rfl <;> exact hj
theorem HSt.there (h : HSt F W wr q v s any rest n) : wr.there q 0 8 := fun j hj => by
  rw [Nat.zero_add]
  refine ⟨?_, h.blk.frozen j⟩
  rw [h.blk.cell j]
  rcases cases8 hj with rfl | rfl | rfl | rfl | rfl | rfl | rfl | rfl <;> rfl
end
theorem stSize' {l : List W32} (h : l.length = 8) : (Try.prog.info? 137).map (·.size) = some (u32s l).length := by
  rw [stInfo]; simp [u32s, h]
theorem wpList_store_hst {ops : Array Oper} {rs : List Oper} {op : Oper} {a : Act} {Q : Exit → Act → World → Prop} {F : Nat → Prop} {W wr : World} {q n : Nat} {v : Value} {s t : St} {any : Bool} {rest : List UInt8} (h : HSt F W wr q v s any rest n) (hgd : op.guard = none) (x y : Operand) (ho : op.op = .store 137 x y)
    (hx : a.eval x = .pointer (some ⟨q, 0, none⟩)) (hy : a.eval y = stV t)
    (hk : ∀ w2, HSt F W w2 q v t any rest n → wpList Try.prog ops Q rs (a.put op.dst undef) w2) : wpList Try.prog ops Q (op :: rs) a wr :=
  wpList_store_mid hgd _ _ _ ho q 0 (u32s t.list).toArray hx hy h.there (stSize rfl) (u32s_one _) (hk _ (h.state t))
theorem HSt.c8 {F : Nat → Prop} {W wr : World} {q n : Nat} {v : Value} {s : St} {any : Bool} {rest : List UInt8} (h : HSt F W wr q v s any rest n) : wr.cell? ⟨q, 8, none⟩ = some (.bool any) ∧ wr.frozen? ⟨q, 8, none⟩ = false := ⟨h.blk.cell 8, h.blk.frozen 8⟩
theorem HSt.c9 {F : Nat → Prop} {W wr : World} {q n : Nat} {v : Value} {s : St} {any : Bool} {rest : List UInt8} (h : HSt F W wr q v s any rest n) : wr.cell? ⟨q, 9, none⟩ = some v ∧ wr.frozen? ⟨q, 9, none⟩ = false := ⟨h.blk.cell 9, h.blk.frozen 9⟩
theorem HSt.c10 {F : Nat → Prop} {W wr : World} {q n : Nat} {v : Value} {s : St} {any : Bool} {rest : List UInt8} (h : HSt F W wr q v s any rest n) : wr.cell? ⟨q, 10, none⟩ = some (.int .u64 (n : Int)) ∧ wr.frozen? ⟨q, 10, none⟩ = false := ⟨h.blk.cell 10, h.blk.frozen 10⟩
/-- the append to the row that waits: how the hash's block stands behind it -/
theorem HSt.grow {F : Nat → Prop} {W wr w3 : World} {q n : Nat} {v : Value} {s : St} {any : Bool} {rest : List UInt8} (h : HSt F W wr q v s any rest n) (hg : wr.grownBy w3 v.ownBlock) : Blk w3 q 139 (hcs s any v n) :=
  h.blk.of_eq (hg.block _ h.blk.lt (fun e => h.ne e.symm))
/-- another row, a new one, is noted -/
theorem HSt.note {F : Nat → Prop} {W wr w3 : World} {q n : Nat} {v v' : Value} {s : St} {any : Bool} {rest rest' : List UInt8} (h : HSt F W wr q v s any rest n) (hE : Ext wr w3) (hown : w3.ownsRow 0 5 1 v' rest'.length (u8s rest')) (hf : ∀ k, v'.ownBlock = some k → wr.heap.size ≤ k) : HSt F W (w3.setCell ⟨q, 9, none⟩ v') q v' s any rest' n := by
  have h1 := h.ext hE
  have hb3 := h1.blk
  have hne' := row_ne hb3 (by decide) hown
  have hb := hb3.set_ 9 v'
  refine ⟨by simpa [hcs] using hb, ownsRow_same hown fun g hg => Below.heap_setCell _ _ _ _ (fun e => hne' (by rw [hg, e])), ?_, ?_⟩
  · refine Tch.setCell h1.tch (fun hl => ?_) _
    exact (h.foot q (Or.inl rfl)).elim id (fun h => absurd hl (Nat.not_lt.2 h))
  · rintro k (rfl | hk)
    · exact h.foot _ (Or.inl rfl)
    · exact Or.inr (Nat.le_trans h.tch.size (hf k hk))
end Go.Proofs.Ytkkhcpknldlpoaa
