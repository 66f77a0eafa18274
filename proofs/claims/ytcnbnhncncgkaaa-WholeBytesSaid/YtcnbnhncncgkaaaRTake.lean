/- The walks of a reader's take and Byte. -/
import Derived.Test.YtcnbnhncncgkaaaRRep
namespace Go.Proofs.Ytcnbnhncncgkaaa
set_option linter.unusedVariables false
set_option linter.unusedSimpArgs false
open Go Go.RowKit
section
variable {W : World} {r g c : Nat} {s : Rd} {F : Nat → Prop}
theorem take_err (h : RRep W r g c s) (he : s.err ≠ 0) (n : Int) : Calls Try.prog 24 #[.pointer (some ⟨r, 0, none⟩), .int .i64 n] W fun e' W' => e' = .returned (.slice none 0 0) ∧ W = W' := by
  have c2 := h.c2
  have hn1 : (s.err != 0) = true := by simp [he]
  have hn2 : (s.err == 0) = false := by simp [he]
  go_enter Try.func24, Try.ntmps24
  go_wp2_with fail
  go_ret
  exact ⟨rfl, rfl⟩
theorem take_short (h : RRep W r g c s) (he : s.err = 0) (n : Nat) (hn : s.b.length < s.at_ + n) (hn2 : n ≤ 70368744177664) :
    Calls Try.prog 24 #[.pointer (some ⟨r, 0, none⟩), .int .i64 n] W fun e' W' => e' = .returned (.slice none 0 0) ∧ RRep W' r g c { s with err := 6 } ∧ Tch (RFoot r g) W W' := by
  have c0 := h.c0
  have c1 := h.c1
  have c2 := h.c2
  rw [he] at c2
  have hle := h.le
  have hsm := h.sm
  have hf : s.fail 6 = { s with err := 6 } := if_pos he
  have HE := Lib.hid he
  clear he
  have hd : decide ((s.b.length : Int) - s.at_ < n) = true := by simp; omega
  go_enter Try.func24, Try.ntmps24
  go_wp2_with fail
  go_quiet (fail)
  go_wp2_with fail
  refine (rfail_rep (h.ext ((Ext.refl _).drewN _)) 6).mono ?_
  rintro e w2 ⟨rfl, h2, ht⟩
  rw [hf] at h2
  clear c0 c1 c2 h hd
  go_wp2_with fail
  go_ret
  exact ⟨rfl, h2, (Tch.of_ext (S := RFoot r g) ((Ext.refl _).drewN _)).trans ht (fun _ h _ => h)⟩
theorem take_some (h : RRep W r g c s) (he : s.err = 0) (n : Nat) (h0 : 0 < n) (hn : s.at_ + n ≤ s.b.length) :
    Calls Try.prog 24 #[.pointer (some ⟨r, 0, none⟩), .int .i64 n] W fun e' W' => e' = .returned (.slice (some ⟨g, s.at_, none⟩) n (c - s.at_)) ∧ RRep W' r g c { s with at_ := s.at_ + n } ∧ Tch (RFoot r g) W W' := by
  have c0 := h.c0
  have c1 := h.c1
  have c2 := h.c2
  have f1 := h.blk.frozen 1
  rw [he] at c2
  have hle := h.le
  have hsm := h.sm
  have hc := h.capge
  have hcm : c ≤ maxLen := by
    rcases h.own.2 with ⟨hv, _⟩ | ⟨g', cap, cur, hv, _, _, _, hm, _⟩
    · injection hv with h1; cases h1
    · injection hv with _ _ h3; rw [h3]; exact hm
  unfold maxLen at hcm
  have HE := Lib.hid he
  clear he
  have hd : decide ((s.b.length : Int) - s.at_ < n) = false := by simp; omega
  go_enter Try.func24, Try.ntmps24
  go_wp2_with fail
  go_quiet (fail)
  go_wp2_with fail
  have H2 := (h.ext ((Ext.refl W).drewN nq)).set1 (s.at_ + n) hn
  have ht : Tch (RFoot r g) W ((W.drewN nq).setCell ⟨r, 1, none⟩ (.int .i64 ((s.at_ + n : Nat) : Int))) := (Tch.of_ext (S := RFoot r g) ((Ext.refl W).drewN nq)).trans (tch_set (h.ext ((Ext.refl W).drewN nq)) 1 _) (fun _ h _ => h)
  have e1 : ((s.at_ + n : Nat) : Int) = (s.at_ : Int) + n := by simp
  rw [e1] at H2 ht
  generalize World.setCell _ _ _ = W2 at *
  clear c0 c1 c2 f1 h hd e1
  have c0 := H2.c0
  have c1 := H2.c1
  simp only at c0 c1
  have hcn : ¬ (c = s.at_) := by omega
  have e2 : ((s.at_ : Int) + n - n) = s.at_ := by omega
  have e3 : ((s.at_ + n : Nat) : Int) = (s.at_ : Int) + n := by simp
  rw [e3] at c1
  clear e3
  go_quiet (fail)
  go_wp2_with fail
  go_ret
  exact ⟨by rw [Nat.add_sub_cancel_left]; rfl, H2.ext ((Ext.refl _).drewN _), ht.drewN _⟩
theorem take_zero (h : RRep W r g c s) (he : s.err = 0) :
    Calls Try.prog 24 #[.pointer (some ⟨r, 0, none⟩), .int .i64 0] W fun e' W' => (∃ o c', e' = .returned (.slice (some ⟨g, o, none⟩) 0 c')) ∧ RRep W' r g c s ∧ Tch (RFoot r g) W W' := by
  have c0 := h.c0
  have c1 := h.c1
  have c2 := h.c2
  have f1 := h.blk.frozen 1
  rw [he] at c2
  have hle := h.le
  have hsm := h.sm
  have hc := h.capge
  have hcm : c ≤ maxLen := by
    rcases h.own.2 with ⟨hv, _⟩ | ⟨g', cap, cur, hv, _, _, _, hm, _⟩
    · injection hv with h1; cases h1
    · injection hv with _ _ h3; rw [h3]; exact hm
  unfold maxLen at hcm
  have HE := Lib.hid he
  clear he
  have hd : decide ((s.b.length : Int) - s.at_ < 0) = false := by simp; omega
  go_enter Try.func24, Try.ntmps24
  go_wp2_with fail
  go_quiet (fail)
  go_wp2_with fail
  have H2 := (h.ext ((Ext.refl W).drewN nq)).set1 s.at_ hle
  have ht : Tch (RFoot r g) W ((W.drewN nq).setCell ⟨r, 1, none⟩ (.int .i64 s.at_)) := (Tch.of_ext (S := RFoot r g) ((Ext.refl W).drewN nq)).trans (tch_set (h.ext ((Ext.refl W).drewN nq)) 1 _) (fun _ h _ => h)
  generalize World.setCell _ _ _ = W2 at *
  clear c0 c1 c2 f1 h hd
  have c0 := H2.c0
  have c1 := H2.c1
  simp only at c0 c1
  by_cases hcn : c = s.at_
  · go_quiet (fail)
    go_wp2_with fail
    go_ret
    exact ⟨⟨_, _, rfl⟩, H2.ext ((Ext.refl _).drewN _), ht.drewN _⟩
  · go_quiet (fail)
    go_wp2_with fail
    go_ret
    exact ⟨⟨_, _, rfl⟩, H2.ext ((Ext.refl _).drewN _), ht.drewN _⟩
def Rd.byte (s : Rd) : Nat × Rd := if s.err = 0 then (if s.at_ < s.b.length then ((s.b.getD s.at_ 0).toNat, { s with at_ := s.at_ + 1 }) else (0, { s with err := 6 })) else (0, s)
theorem Rd.byte_lt (s : Rd) : s.byte.1 < 256 := by
  unfold Rd.byte
  split
  · split
    · exact UInt8.toNat_lt _
    · show 0 < 256; omega
  · show 0 < 256; omega
theorem rbyte_rep (h : RRep W r g c s) : Calls Try.prog 28 #[.pointer (some ⟨r, 0, none⟩)] W fun e' W' => e' = .returned (.int .u8 s.byte.1) ∧ RRep W' r g c s.byte.2 ∧ Tch (RFoot r g) W W' := by
  by_cases he : s.err = 0
  · by_cases hlt : s.at_ < s.b.length
    · have hs : s.byte = ((s.b.getD s.at_ 0).toNat, { s with at_ := s.at_ + 1 }) := by unfold Rd.byte; rw [if_pos he, if_pos hlt]
      rw [hs]
      go_enter Try.func28, Try.ntmps28
      go_wp2_with fail
      refine (take_some h he 1 (by omega) (by omega)).mono ?_
      rintro e w2 ⟨rfl, h2, ht⟩
      have hb := h2.byte s.at_ hlt
      simp only at hb
      have HE := Lib.hid he
      clear hs he h
      go_wp2_with fail
      go_ret
      exact ⟨ret_int (by rw [List.getD_eq_getElem?_getD, List.getElem?_eq_getElem hlt]; rfl), h2, ht⟩
    · have hs : s.byte = (0, { s with err := 6 }) := by unfold Rd.byte; rw [if_pos he, if_neg hlt]
      rw [hs]
      go_enter Try.func28, Try.ntmps28
      go_wp2_with fail
      refine (take_short h he 1 (by omega) (by omega)).mono ?_
      rintro e w2 ⟨rfl, h2, ht⟩
      have HE := Lib.hid he
      clear hs he h
      go_wp2_with fail
      go_ret
      exact ⟨rfl, h2, ht⟩
  · have hs : s.byte = (0, s) := if_neg he
    rw [hs]
    go_enter Try.func28, Try.ntmps28
    go_wp2_with fail
    refine (take_err h he 1).mono ?_
    rintro e w2 ⟨rfl, rfl⟩
    clear hs he
    go_wp2_with fail
    go_ret
    exact ⟨rfl, h, Tch.refl _ _⟩
theorem rbyte_any (h : rA r s W F) : Calls Try.prog 28 #[.pointer (some ⟨r, 0, none⟩)] W fun e' W' => e' = .returned (.int .u8 s.byte.1) ∧ Next F W W' (rA r s.byte.2) := by
  obtain ⟨g, c, h, rfl⟩ := h
  exact (rbyte_rep h).mono fun _ _ ⟨h1, h2, h3⟩ => ⟨h1, rnext h2 h3⟩
end
end Go.Proofs.Ytcnbnhncncgkaaa
