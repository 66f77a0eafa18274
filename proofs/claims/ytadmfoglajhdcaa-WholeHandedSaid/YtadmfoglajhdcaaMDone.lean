/- The walks of a match's Done and Leases. -/
import Derived.Test.YtadmfoglajhdcaaMDel
namespace Go.Proofs.Ytadmfoglajhdcaa
set_option maxRecDepth 4000
set_option linter.unusedVariables false
set_option linter.unusedSimpArgs false
open Go Go.RowKit Go.Maps Go.ChangeMaps Go.MapKept
def MS.done (s : MS) (t : Int) : MS := { s with ls := keepL (fun l => l.tok == t) s.ls }
theorem keepL_le (p : Ls → Bool) (ls : List Ls) : (keepL p ls).length ≤ ls.length := List.length_filter_le _ _
/-- the cells that are stored to -/
theorem MRep.store {W W' : World} {m : Nat} {s : MS} {Fq : Nat → Nat → Prop} {lv : Value} (h : MRep W m s Fq lv) (ht : Tch (fun k => lv.ownBlock = some k ∨ W.heap.size ≤ k) W W') : W'.cell? ⟨m, 196, none⟩ = some lv ∧ W'.frozen? ⟨m, 196, none⟩ = false := by
  obtain ⟨cs, T, b1, _, _, _, b4⟩ := h.blk
  have hm := h.m_lt
  have b2 := ht.blk b1 (fun hk => by rcases hk with hk | hk; exact (h.ol m hk).1 rfl; omega)
  exact ⟨by rw [b2.cell, b4], b2.frozen 196⟩
theorem leases_any (W : World) (m : Nat) (s : MS) (F : Nat → Prop) (h : mP m s W F) :
    Calls Try.prog 13 #[.pointer (some ⟨m, 0, none⟩)] W fun e W' => Cloned W s.ls.length s.ls e W' := by
  have hm := mP_m h
  have hln := mP_ln h
  obtain ⟨Fq, lv, hR, rfl⟩ := h
  have hc := hR.lcell
  have hown := hR.own
  obtain ⟨pv, cv, rfl⟩ := ownsRow_slice hown
  obtain ⟨L, hL⟩ : ∃ L, Hid (L = s.ls.length) := ⟨_, Lib.hid rfl⟩
  rw [← hL.out] at hown hc ⊢
  have hLb : (L : Int) ≤ 1000 := by have := hL.out; omega
  go_enter Try.func13, Try.ntmps13
  go_wp2_with fail
  refine (clone_any W pv L cv s.ls hL hLb hown).mono ?_
  rintro e w1 ⟨v, rfl, h1, h2, h3⟩
  go_wp2_with fail
  go_ret
  exact ⟨v, rfl, h1, h2, h3⟩
set_option maxRecDepth 100000 in
theorem done_any (W : World) (m : Nat) (s : MS) (F : Nat → Prop) (t : Int) (h : mP m s W F) :
    Calls Try.prog 28 #[.pointer (some ⟨m, 0, none⟩), .int .u64 t] W fun e W' => e = .returned (.bool (decide ((s.done t).ls.length < s.ls.length))) ∧ MStep W W' m F (s.done t) := by
  have hm := mP_m h
  have hln := mP_ln h
  have hE := ext_alloc W (.cells #[.int .u64 t] 27)
  have h1 := (mP_loc m s).ext h hE
  have hbx : Caught (W.alloc (.cells #[.int .u64 t] 27)) W.heap.size (.int .u64 t) := ⟨cell_box _ _ _⟩
  obtain ⟨Fq, lv, hR, hF⟩ := h1
  have hc := hR.lcell
  have hown := hR.own
  obtain ⟨pv, cv, rfl⟩ := ownsRow_slice hown
  obtain ⟨L, hL⟩ : ∃ L, Hid (L = s.ls.length) := ⟨_, Lib.hid rfl⟩
  have hR0 := hR
  rw [← hL.out] at hown hc ⊢
  have hLb : (L : Int) ≤ 1000 := by have := hL.out; omega
  have hkl := keepL_le (fun l => l.tok == t) s.ls
  go_enter Try.func28, Try.ntmps28
  go_upto_region 1 with fail
  generalize hw0 : W.alloc _ = w at *
  generalize hbxn : W.heap.size = bx at *
  go_wp2_with fail
  refine (clone_any w pv L cv s.ls hL hLb hown).mono ?_
  rintro e w1 ⟨v, rfl, hown1, hnew1, hE1⟩
  obtain ⟨p1, c1, rfl⟩ := ownsRow_slice hown1
  have hbw : bx < w.heap.size := World.block_lt_of_cell? w _ hbx.c
  go_wp2_with fail
  refine (delDone_any w1 p1 L c1 bx s.ls t hL hLb hown1 ⟨hbx.of hE1⟩ (fun g hg e => by have := hnew1 g (by subst hg; rfl); omega)).mono ?_
  rintro e w2 ⟨v2, rfl, hown2, hS2, hT2⟩
  obtain ⟨k, hk⟩ : ∃ k, Hid (k = (keepL (fun l => l.tok == t) s.ls).length) := ⟨_, Lib.hid rfl⟩
  have hown2' := hown2
  rw [← hk.out] at hown2 hkl
  obtain ⟨p2, c2, rfl⟩ := ownsRow_slice hown2
  have hkb : (k : Int) ≤ 1000 := by have := hL.out; omega
  have htw : Tch (fun b => (Value.slice pv L cv).ownBlock = some b) w w2 := (Tch.of_ext (S := fun b => (Value.slice pv L cv).ownBlock = some b) hE1).trans hT2 (fun b hb hl => by
    have := hnew1 b hb; omega)
  obtain ⟨hs1, hs2⟩ := hR0.store (htw.mono fun b hb _ => Or.inl (by rw [← hL.out]; exact hb))
  rw [← hL.out] at hs1
  have hfin := hR0.setl (ls' := keepL (fun l => l.tok == t) s.ls) (W' := w2) (lv' := .slice p2 k c2) (by have := hL.out; rw [← hk.out]; omega) (by rw [← hL.out]; exact htw) hown2' (fun b hb => Or.inr (hnew1 b (hS2 b hb)))
  rw [← hF] at hfin
  have hlt2 := World.block_lt_of_cell? w2 _ hs1
  have hk2 : (w2.setCell ⟨m, 196, none⟩ (.slice p2 k c2)).cell? ⟨m, 196, none⟩ = some (.slice p2 k c2) := World.cell?_setCell_same _ _ _ hs1
  clear hown hown1 hown2 hown2' hT2 htw hnew1 hS2 hR hR0 hc hbx
  go_wp2_with fail
  go_ret
  refine ⟨?_, MStep.ext_left hE hfin⟩
  show _ = Ending.returned (.bool (decide ((keepL (fun l => l.tok == t) s.ls).length < L)))
  rw [← hk.out]
  rfl
end Go.Proofs.Ytadmfoglajhdcaa
