/- The walk of a match's Add. -/
import Derived.Test.YtadmfoglajhdcaaMRead
namespace Go.Proofs.Ytadmfoglajhdcaa
set_option maxRecDepth 4000
set_option linter.unusedVariables false
set_option linter.unusedSimpArgs false
open Go Go.RowKit Go.Maps Go.ChangeMaps Go.MapKept
def MS.had (s : MS) (r k i : Int) : Bool := s.ls.any (isL · r k i)
def MS.known (s : MS) (r k i : Int) : Bool := (s.where_ r k i).isSome || s.had r k i
theorem firstAt_had {s : MS} {r k i : Int} (h : s.had r k i = true) : 0 ≤ firstAt (isL · r k i) s.ls ∧ firstAt (isL · r k i) s.ls < s.ls.length := by
  unfold MS.had at h
  rw [List.any_eq_true] at h
  obtain ⟨l, hl, hp⟩ := h
  unfold firstAt
  cases he : s.ls.findIdx? (isL · r k i) with
  | none =>
    have := List.findIdx?_eq_none_iff.1 he l hl
    rw [this] at hp; cases hp
  | some j =>
    have := (List.findIdx?_eq_some_iff_getElem.1 he).1
    exact ⟨by simp, by simp; omega⟩
theorem firstAt_not {s : MS} {r k i : Int} (h : s.had r k i = false) : firstAt (isL · r k i) s.ls = -1 :=
  firstAt_none fun l hl => by
    have := List.any_eq_false.1 h l hl
    simpa using this
def maddE (s : MS) (r k i z : Int) : Int := if s.known r k i = true then 5 else if z ≠ 0 ∧ (z < 1 ∨ 64 < z) then 1 else qaddE (s.q z.toNat) r k i
def madd (s : MS) (r k i z now : Int) : MS := if s.known r k i = true then s else if z ≠ 0 ∧ (z < 1 ∨ 64 < z) then s else s.setq z.toNat (qadd (s.q z.toNat) r k i now)
theorem qadd_len {xs : List It} (h : xs.length ≤ 128) (r k i s : Int) : (qadd xs r k i s).length ≤ 128 := by
  unfold qadd
  split
  · exact h
  · split
    · exact h
    · simp; omega
def Madded (W : World) (m : Nat) (s : MS) (F : Nat → Prop) (r k i z now : Int) (e : Ending) (W' : World) : Prop := e = .returned (.int .i64 (maddE s r k i z)) ∧ MStep W W' m F (madd s r k i z now)
set_option maxRecDepth 100000 in
theorem add_any (W : World) (m : Nat) (s : MS) (F : Nat → Prop) (r k i z now : Int) (h : mP m s W F) (hok : It.Ok ⟨r, k, i, now⟩) :
    Calls Try.prog 5 #[.pointer (some ⟨m, 0, none⟩), taskV r k i, .int .i64 z, .int .i64 now] W fun e W' => Madded W m s F r k i z now e W' := by
  have hE0 := ext_alloc W (.cells #[.int .i64 r, .int .i64 k, .int .i64 i] 43)
  have hbx := BoxT.new W r k i 43
  have h1 := (mP_loc m s).ext h hE0
  go_enter Try.func5, Try.ntmps5
  go_wp2_with fail
  generalize hw0 : W.alloc _ = w at *
  generalize W.heap.size = bx at *
  clear hw0
  obtain ⟨c0, c1, c2, clt⟩ := hbx
  have hbx : BoxT w bx r k i := ⟨c0, c1, c2, clt⟩
  go_wp2_with fail
  refine (where_any w m s F r k i h1 hok.key).mono ?_
  rintro e w1 ⟨rfl, hE1⟩
  have hbx1 := hbx.ext hE1
  clear c0 c1 c2 clt
  obtain ⟨c0, c1, c2, clt⟩ := hbx1
  obtain ⟨wo, hwo⟩ : ∃ wo, s.where_ r k i = wo := ⟨_, rfl⟩
  have HW := Lib.hid hwo
  rw [hwo]
  clear hwo
  cases wo with
  | some j =>
    have hk : s.known r k i = true := by unfold MS.known; rw [HW.out]; rfl
    have HK := Lib.hid hk
    clear hk
    unfold whereV
    go_wp2_with fail
    go_ret
    refine ⟨by rw [maddE, if_pos HK.out]; rfl, ?_⟩
    rw [madd, if_pos HK.out]
    exact MStep.of_ext h (hE0.trans hE1)
  | none =>
    unfold whereV
    go_wp2_with fail
    refine (lease_any w1 m s F r k i ((mP_loc m s).ext h1 hE1)).mono ?_
    rintro e w2 ⟨rfl, hE2'⟩
    have hE2 := (hE0.trans hE1).trans hE2'
    clear c0 c1 c2 clt
    obtain ⟨hh, hhad⟩ : ∃ b, s.had r k i = b := ⟨_, rfl⟩
    have HH := Lib.hid hhad
    have h0 := h
    cases hh with
    | true =>
      have hk : s.known r k i = true := by unfold MS.known; rw [HH.out]; simp
      have HK := Lib.hid hk
      have hf := (firstAt_had HH.out).1
      clear hk hhad
      generalize firstAt _ _ = fa at *
      go_wp2_with fail
      go_ret
      refine ⟨by rw [maddE, if_pos HK.out]; rfl, ?_⟩
      rw [madd, if_pos HK.out]
      exact MStep.of_ext h hE2
    | false =>
      have hk : ¬ s.known r k i = true := by unfold MS.known; rw [HH.out, HW.out]; simp
      have HK := Lib.hid hk
      have hf := firstAt_not HH.out
      clear hk hhad
      rw [hf]
      clear hf
      rcases (show z = 0 ∨ (1 ≤ z ∧ z ≤ 64) ∨ (z < 1 ∧ z ≠ 0) ∨ 64 < z by omega) with hz | ⟨hz1, hz2⟩ | hz | hz
      · subst hz
        have hbx3 := hbx.ext (hE1.trans hE2')
        have h3 := (mP_loc m s).ext h0 hE2
        obtain ⟨c0, c1, c2, clt⟩ := hbx3
        go_wp2_with fail
        refine (mP_act h3 (k := 0) (by omega) (by omega) (qadd_len (mP_qn h3 (by omega)) r k i now) fun G hG => qp_add hG r k i now hok).mono ?_
        rintro e w3 ⟨rfl, hS⟩
        go_wp2_with fail
        go_ret
        refine ⟨by rw [maddE, if_neg HK.out, if_neg (by omega)]; rfl, ?_⟩
        rw [madd, if_neg HK.out, if_neg (by omega)]
        exact MStep.ext_left hE2 hS
      · have hbx3 := hbx.ext (hE1.trans hE2')
        have h3 := (mP_loc m s).ext h0 hE2
        obtain ⟨c0, c1, c2, clt⟩ := hbx3
        have hz0 : z ≠ 0 := by omega
        go_wp2_with fail
        refine (own_any w2 m z hz1 hz2).mono ?_
        rintro e w2' ⟨rfl, rfl⟩
        go_wp2_with fail
        refine (mP_act h3 (k := z.toNat) (by omega) (by omega) (qadd_len (mP_qn h3 (by omega)) r k i now) fun G hG => qp_add hG r k i now hok).mono ?_
        rintro e w3 ⟨rfl, hS⟩
        go_wp2_with fail
        go_ret
        refine ⟨by rw [maddE, if_neg HK.out, if_neg (by omega)]; rfl, ?_⟩
        rw [madd, if_neg HK.out, if_neg (by omega)]
        exact MStep.ext_left hE2 hS
      · obtain ⟨hz, hz0⟩ := hz
        go_wp2_with fail
        refine (own_no w2 m z (Or.inl hz)).mono ?_
        rintro e w2' ⟨rfl, rfl⟩
        go_wp2_with fail
        go_ret
        refine ⟨by rw [maddE, if_neg HK.out, if_pos (by omega)]; rfl, ?_⟩
        rw [madd, if_neg HK.out, if_pos (by omega)]
        exact MStep.of_ext h hE2
      · have hz0 : z ≠ 0 := by omega
        go_wp2_with fail
        refine (own_no w2 m z (Or.inr hz)).mono ?_
        rintro e w2' ⟨rfl, rfl⟩
        go_wp2_with fail
        go_ret
        refine ⟨by rw [maddE, if_neg HK.out, if_pos (by omega)]; rfl, ?_⟩
        rw [madd, if_neg HK.out, if_pos (by omega)]
        exact MStep.of_ext h hE2
end Go.Proofs.Ytadmfoglajhdcaa
