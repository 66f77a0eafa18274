/- What a reader is in memory; the walks of its least functions. -/
import Derived.Test.YtcnbnhncncgkaaaWInt
import Derived.Deep.QuietTactic
import Derived.BigQuiet
namespace Go.Proofs.Ytcnbnhncncgkaaa
set_option linter.unusedVariables false
set_option linter.unusedSimpArgs false
open Go Go.RowKit
/-- a reader: its bytes, how many were read, what went wrong -/
structure Rd where
  b : List UInt8
  at_ : Nat
  err : Int
def Rd.fail (s : Rd) (e : Int) : Rd := if s.err = 0 then { s with err := e } else s
structure RRep (W : World) (r g c : Nat) (s : Rd) : Prop where
  blk : Blk W r 62 #[.slice (some ⟨g, 0, none⟩) s.b.length c, .int .i64 s.at_, .int .i64 s.err]
  own : W.ownsRow 0 5 1 (.slice (some ⟨g, 0, none⟩) s.b.length c) s.b.length (u8s s.b)
  le : s.at_ ≤ s.b.length
  sm : s.b.length ≤ 70368744177664
def RFoot (r g k : Nat) : Prop := k = r ∨ k = g
def rA (r : Nat) (s : Rd) : Asr := fun W F => ∃ g c, RRep W r g c s ∧ F = RFoot r g
section
variable {W W' : World} {r g c : Nat} {s : Rd} {F : Nat → Prop}
theorem RRep.glt (h : RRep W r g c s) : g < W.heap.size := (h.own.lt g rfl).2
theorem RRep.ne (h : RRep W r g c s) : r ≠ g := fun e => row_ne h.blk (by decide) h.own (by rw [e]; rfl)
theorem RRep.capge (h : RRep W r g c s) : s.b.length ≤ c := by
  rcases h.own.2 with ⟨hv, _⟩ | ⟨g', cap, cur, hv, _, _, hc, _⟩
  · injection hv with h1; cases h1
  · injection hv with _ _ h3; rw [h3]; exact hc
theorem RRep.keep (h : RRep W r g c s) (hk : ∀ k, RFoot r g k → W'.heap[k]? = W.heap[k]?) : RRep W' r g c s :=
  ⟨h.blk.of_eq (hk r (Or.inl rfl)), ownsRow_same h.own fun k hg => hk k (Or.inr (by simpa [Value.ownBlock] using hg.symm)), h.le, h.sm⟩
theorem RRep.ext (h : RRep W r g c s) (hE : Ext W W') : RRep W' r g c s := h.keep (by rintro k (rfl | rfl); exact hE.block _ h.blk.lt; exact hE.block _ h.glt)
theorem rA_loc (r : Nat) (s : Rd) : Loc (rA r s) := by
  constructor
  · rintro W W' F ⟨g, c, h, rfl⟩ hk
    exact ⟨g, c, h.keep hk, rfl⟩
  · rintro W F k ⟨g, c, h, rfl⟩ (rfl | rfl)
    · exact h.blk.lt
    · exact h.glt
theorem RRep.a (h : RRep W r g c s) : rA r s W (RFoot r g) := ⟨g, c, h, rfl⟩
theorem RRep.c0 (h : RRep W r g c s) : W.cell? ⟨r, 0, none⟩ = some (.slice (some ⟨g, 0, none⟩) s.b.length c) := h.blk.cell 0
theorem RRep.c1 (h : RRep W r g c s) : W.cell? ⟨r, 1, none⟩ = some (.int .i64 s.at_) := h.blk.cell 1
theorem RRep.c2 (h : RRep W r g c s) : W.cell? ⟨r, 2, none⟩ = some (.int .i64 s.err) := h.blk.cell 2
theorem RRep.byte (h : RRep W r g c s) (i : Nat) (hi : i < s.b.length) : W.cell? ⟨g, i, none⟩ = some (.int .u8 ((s.b.getD i 0).toNat : Int)) := by
  have := h.own.cells (g := g) rfl i (.int .u8 ((s.b.getD i 0).toNat : Int)) (by
    rw [u8s, List.getElem?_map, List.getElem?_eq_getElem hi, List.getD_eq_getElem?_getD, List.getElem?_eq_getElem hi]; rfl)
  rw [Go.WideShapes.add_plain] at this
  simpa using this
/-- what was read, or went wrong, is noted -/
theorem RRep.set2 (h : RRep W r g c s) (e : Int) : RRep (W.setCell ⟨r, 2, none⟩ (.int .i64 e)) r g c { s with err := e } :=
  ⟨by simpa using h.blk.set_ 2 (.int .i64 e), ownsRow_same h.own fun k hk => Below.heap_setCell _ _ _ _ (fun e' => h.ne (by simp [Value.ownBlock] at hk; rw [hk]; exact e'.symm)), h.le, h.sm⟩
theorem RRep.set1 (h : RRep W r g c s) (n : Nat) (hn : n ≤ s.b.length) : RRep (W.setCell ⟨r, 1, none⟩ (.int .i64 n)) r g c { s with at_ := n } :=
  ⟨by simpa using h.blk.set_ 1 (.int .i64 n), ownsRow_same h.own fun k hk => Below.heap_setCell _ _ _ _ (fun e' => h.ne (by simp [Value.ownBlock] at hk; rw [hk]; exact e'.symm)), hn, h.sm⟩
theorem tch_set (h : RRep W r g c s) (i : Nat) (v : Value) : Tch (RFoot r g) W (W.setCell ⟨r, i, none⟩ v) := (Tch.refl _ _).setCell (fun _ => Or.inl rfl) _
theorem rnext (h : RRep W' r g c s) (ht : Tch (RFoot r g) W W') : Next (RFoot r g) W W' (rA r s) := ⟨_, h.a, ht, fun _ h => Or.inl h⟩
end
section
variable {W : World} {r g c : Nat} {s : Rd} {F : Nat → Prop}
def Rd.left (s : Rd) : Nat := if s.err = 0 then s.b.length - s.at_ else 0
def Rd.end_ (s : Rd) : Int := if s.err = 0 ∧ s.at_ < s.b.length then 8 else s.err
theorem rend_any (h : rA r s W F) : Calls Try.prog 16 #[.pointer (some ⟨r, 0, none⟩)] W fun e W' => e = .returned (.int .i64 s.end_) ∧ Ext W W' := by
  obtain ⟨g, c, h, rfl⟩ := h
  have c0 := h.c0
  have c1 := h.c1
  have c2 := h.c2
  have hle := h.le
  have hsm := h.sm
  by_cases he : s.err = 0
  · by_cases hlt : s.at_ < s.b.length
    · have HS := Lib.hid (show s.end_ = 8 from if_pos ⟨he, hlt⟩)
      rw [he] at c2
      clear he h
      have hd : decide (s.at_ < s.b.length) = true := decide_eq_true hlt
      go_enter Try.func16, Try.ntmps16
      go_wp2_with fail
      go_quiet (fail)
      go_wp2_with fail
      go_ret
      exact ⟨ret_int (by rw [HS.out]), (Ext.refl _).drewN _⟩
    · have HS := Lib.hid (show s.end_ = 0 by unfold Rd.end_; rw [if_neg (fun h => hlt h.2)]; exact he)
      rw [he] at c2
      clear he h
      have hd : decide (s.at_ < s.b.length) = false := decide_eq_false hlt
      go_enter Try.func16, Try.ntmps16
      go_wp2_with fail
      go_quiet (fail)
      go_wp2_with fail
      go_ret
      exact ⟨ret_int (by rw [HS.out]), (Ext.refl _).drewN _⟩
  · have HS := Lib.hid (show s.end_ = s.err from if_neg (fun h => he h.1))
    have hn2 : (s.err == 0) = false := by simp [he]
    clear h
    go_enter Try.func16, Try.ntmps16
    go_wp2_with fail
    go_quiet (fail)
    go_wp2_with fail
    go_ret
    exact ⟨ret_int (by rw [HS.out]), (Ext.refl _).drewN _⟩
theorem rfail_rep (h : RRep W r g c s) (e : Int) : Calls Try.prog 29 #[.pointer (some ⟨r, 0, none⟩), .int .i64 e] W fun e' W' => e' = .returned (.tuple #[]) ∧ RRep W' r g c (s.fail e) ∧ Tch (RFoot r g) W W' := by
  have c2 := h.c2
  have f2 := h.blk.frozen 2
  by_cases he : s.err = 0
  · have hs : s.fail e = { s with err := e } := if_pos he
    rw [hs]
    have H2 := h.set2 e
    have ht := tch_set h 2 (.int .i64 e)
    rw [he] at c2
    clear hs he h
    go_enter Try.func29, Try.ntmps29
    go_wp2_with fail
    go_end0
    exact ⟨rfl, H2, ht⟩
  · have hs : s.fail e = s := if_neg he
    rw [hs]
    have hn2 : (s.err == 0) = false := by simp [he]
    go_enter Try.func29, Try.ntmps29
    go_wp2_with fail
    go_end0
    exact ⟨rfl, h, Tch.refl _ _⟩
theorem rfail_any (h : rA r s W F) (e : Int) : Calls Try.prog 29 #[.pointer (some ⟨r, 0, none⟩), .int .i64 e] W fun e' W' => e' = .returned (.tuple #[]) ∧ Next F W W' (rA r (s.fail e)) := by
  obtain ⟨g, c, h, rfl⟩ := h
  exact (rfail_rep h e).mono fun _ _ ⟨h1, h2, h3⟩ => ⟨h1, rnext h2 h3⟩
end
end Go.Proofs.Ytcnbnhncncgkaaa
