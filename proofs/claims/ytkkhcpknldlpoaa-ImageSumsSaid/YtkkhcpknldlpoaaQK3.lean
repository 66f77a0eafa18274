/- image: the reference's walk and Check of a value. | image: the reference's Check of an image. -/
import Derived.Test.YtkkhcpknldlpoaaQK2
set_option maxHeartbeats 2000000
namespace Go.Proofs.Ytkkhcpknldlpoaa
set_option maxRecDepth 4000
set_option linter.unusedVariables false
set_option linter.unusedSimpArgs false
open Go Go.RowKit
def RwRel (W1 : World) (v : Vl) (d p : Nat) (n k : Value) (wr : World) : Prop :=
  ∃ i m : Nat, k = .int .i64 i ∧ n = .int .i64 m ∧ i ≤ v.l.vals.length ∧ walkV (v.l.vals.take i) (d + 1) p = (0, m) ∧ Ext W1 wr
theorem rwalk_n : ∀ (m : Nat) (v : Vl), v.l.size < m → ∀ (W : World) (d p : Nat) (pl : Option Addr) (c : Nat), VlAt W pl c v → i64b v.k → v.l.ok → p ≤ 256 → d ≤ 8 →
    Calls Try.prog 62 #[.agg (v.cells pl c).toArray, .int .i64 d, .int .i64 p] W fun e W' => e = .returned (.tuple #[.int .i64 (v.walk d p).1, .int .i64 (v.walk d p).2]) ∧ Ext W W'
  | 0, _, h => by omega
  | m + 1, v, hm => by
    intro W d p pl c hV hk hlo hp hd
    have ih := rwalk_n m
    have hv0 : v.walk d p = if 256 < p + 1 then (2, p + 1)
      else if v.k = 0 ∨ v.k = 1 then (0, p + 1)
      else if v.k = 2 then (if 256 < v.s.length then 2 else 0, p + 1)
      else if v.k ≠ 3 then (9, p + 1)
      else if 8 ≤ d then (30, p + 1)
      else if 64 < v.l.len then (2, p + 1)
      else v.l.walk (d + 1) (p + 1) := rfl
    have hE1 := ext_alloc W (.cells (v.cells pl c).toArray 62)
    have hbl := Blk.new W 62 (v.cells pl c).toArray
    have hV1 := hV.ext hE1
    simp only [Vl.cells] at hbl hE1 hV1
    go_enter Try.func62, Try.ntmps62
    simp only [Vl.cells]
    go_upto_region 1 with fail
    generalize World.alloc _ _ = W1 at *
    generalize W.heap.size = bx at *
    have b0 : W1.cell? ⟨bx, 0, none⟩ = some (.int .i64 v.k) := hbl.cell 0
    have b2 : W1.cell? ⟨bx, 2, none⟩ = some (.string ⟨v.s.toArray⟩) := hbl.cell 2
    have b3 : W1.cell? ⟨bx, 3, none⟩ = some (.slice pl v.l.len c) := hbl.cell 3
    have hlt1 := hbl.lt
    clear hbl hV
    by_cases h1 : 256 < p + 1
    · rw [if_pos h1] at hv0
      have g1 : (256 : Int) < (p : Int) + 1 := by omega
      have HR := Lib.hid hv0
      clear hv0
      go_wp2_with fail
      go_returns
      exact ⟨by rw [HR.out]; rfl, hE1⟩
    rw [if_neg h1] at hv0
    have g1 : ¬ (256 : Int) < (p : Int) + 1 := by omega
    by_cases k0 : v.k = 0 ∨ v.k = 1
    · rw [if_pos k0] at hv0
      rcases k0 with k0 | k0
      · have e0 : (v.k == 0) = true := by simpa using k0
        clear k0
        have HR := Lib.hid hv0
        clear hv0
        go_wp2_with fail
        go_returns
        exact ⟨by rw [HR.out]; rfl, hE1⟩
      · have e0 : (v.k == 0) = false := by rw [k0]; rfl
        have e1 : (v.k == 1) = true := by simpa using k0
        clear k0
        have HR := Lib.hid hv0
        clear hv0
        go_wp2_with fail
        go_returns
        exact ⟨by rw [HR.out]; rfl, hE1⟩
    rw [if_neg k0] at hv0
    have e0 : (v.k == 0) = false := by simp; omega
    have e1 : (v.k == 1) = false := by simp; omega
    clear k0
    by_cases k2 : v.k = 2
    · rw [if_pos k2] at hv0
      have e2 : (v.k == 2) = true := by simpa using k2
      clear k2
      have hss : (⟨v.s.toArray⟩ : ByteArray).size = v.s.length := rfl
      by_cases hs : 256 < v.s.length
      · rw [if_pos hs] at hv0
        have hsz : (256 : Int) < ((⟨v.s.toArray⟩ : ByteArray).size : Int) := by rw [hss]; omega
        have HR := Lib.hid hv0
        clear hv0
        go_wp2_with fail
        go_returns
        exact ⟨by rw [HR.out]; rfl, hE1⟩
      · rw [if_neg hs] at hv0
        have hsz : ¬ (256 : Int) < ((⟨v.s.toArray⟩ : ByteArray).size : Int) := by rw [hss]; omega
        have HR := Lib.hid hv0
        clear hv0
        go_wp2_with fail
        go_returns
        exact ⟨by rw [HR.out]; rfl, hE1⟩
    rw [if_neg k2] at hv0
    have e2 : (v.k == 2) = false := by simpa using k2
    clear k2
    by_cases k3 : v.k = 3
    case neg =>
      rw [if_pos k3] at hv0
      have e3 : (v.k == 3) = false := by simpa using k3
      have e3' : (v.k != 3) = true := by simpa using k3
      clear k3
      have HR := Lib.hid hv0
      clear hv0
      go_wp2_with fail
      go_returns
      exact ⟨by rw [HR.out]; rfl, hE1⟩
    rw [if_neg (by simpa using k3)] at hv0
    have e3 : (v.k == 3) = true := by simpa using k3
    have e3' : (v.k != 3) = false := by simpa using k3
    have hvl := v.l.vals_len
    have hcm := hV1.cap
    have hcl := hV1.len
    unfold Go.maxLen at hcm
    clear k3
    by_cases h8 : 8 ≤ d
    · rw [if_pos h8] at hv0
      have g8 : (8 : Int) ≤ d := by omega
      have HR := Lib.hid hv0
      clear hv0
      go_wp2_with fail
      go_returns
      exact ⟨by rw [HR.out]; rfl, hE1⟩
    rw [if_neg h8] at hv0
    have g8 : ¬ (8 : Int) ≤ d := by omega
    by_cases h64 : 64 < v.l.len
    · rw [if_pos h64] at hv0
      have g64 : (64 : Int) < v.l.len := by omega
      have HR := Lib.hid hv0
      clear hv0
      go_wp2_with fail
      go_returns
      exact ⟨by rw [HR.out]; rfl, hE1⟩
    rw [if_neg h64, walk_vals] at hv0
    have HR := Lib.hid hv0
    have g64 : ¬ (64 : Int) < v.l.len := by omega
    clear hv0
    go_wp2_with fail
    go_loopw [2, 8] (fun n k wr => RwRel W1 v d (p + 1) n k wr) (fun _ k _ => ((v.l.len : Int) + 1 - intOf k).toNat)
    case atStart => exact ⟨0, p + 1, rfl, rfl, by omega, rfl, Ext.refl _⟩
    case round =>
      obtain ⟨i, m', rfl, rfl, hi, hw0, hE4⟩ := hrel
      have b3' : wr.cell? ⟨bx, 3, none⟩ = some (.slice pl v.l.len c) := (hE4.cell _ _ hlt1).trans b3
      clear b0 b2 b3
      by_cases hlt : i < v.l.vals.length
      · obtain ⟨b, o, q2, c2, rfl, hV2, d0, d1, d2, d3⟩ := hV1.fo.get i hlt
        have hmem := List.getElem_mem hlt
        have hsz := Fo.size_mem hmem
        obtain ⟨ok1, ok2, ok3⟩ := Fo.ok_mem hlo hmem
        obtain ⟨t1, t2⟩ := @walkV_take v.l.vals (d + 1) (p + 1) i m' hlt hw0
        generalize v.l.vals[i] = x at *
        replace d0 := cell_ext hE4 d0
        replace d1 := cell_ext hE4 d1
        replace d2 := cell_ext hE4 d2
        replace d3 := cell_ext hE4 d3
        rw [Nat.zero_add, Nat.mul_comm 4 i] at d0 d1 d2 d3
        have i7 : (i : Int) < v.l.len := by omega
        have hm' : m' ≤ 256 := by
          have := walkV_le (v.l.vals.take i) (d + 1) (p + 1) (by omega) (by rw [hw0])
          rw [hw0] at this; exact this
        have hc := ih x (by omega) wr (d + 1) m' q2 c2 (hV2.ext hE4) ok1 ok3 hm' (by omega)
        have e4 : ((d + 1 : Nat) : Int) = (d : Int) + 1 := by omega
        rw [e4] at hc
        have T1 := Lib.hid t1
        have T2 := Lib.hid t2
        rcases hwx : x.walk (d + 1) m' with ⟨e5, m2⟩
        rw [hwx] at hc
        simp only at hc
        have HWX := Lib.hid hwx
        simp only [Vl.cells] at hc
        clear hV2 hmem hsz ok1 ok2 ok3 t1 t2 e4 hw0 hwx
        have H := Lib.hid hc
        clear hc
        by_cases he : e5 = 0
        · have he1 : (e5 != 0) = false := by simp [he]
          have he2 : (e5 == 0) = true := by simp [he]
          go_wp2_with fail
          refine H.out.mono ?_
          rintro e w4 ⟨rfl, hE5⟩
          clear d0 d1 d2 d3 b3'
          go_wp2_with fail
          exact ⟨⟨i + 1, m2, by go_num, rfl, by omega, T2.out m2 (by rw [HWX.out, he]), hE4.trans hE5⟩, by simp [intOf]; omega⟩
        · have he1 : (e5 != 0) = true := by simp [he]
          have he2 : (e5 == 0) = false := by simp [he]
          go_wp2_with fail
          refine H.out.mono ?_
          rintro e w4 ⟨rfl, hE5⟩
          clear d0 d1 d2 d3 b3'
          go_wp2_with fail
          go_returns
          exact ⟨by rw [HR.out, T1.out e5 m2 HWX.out he]; rfl, (hE1.trans hE4).trans hE5⟩
      · have hi' : i = v.l.vals.length := by omega
        have i7 : ¬ (i : Int) < v.l.len := by omega
        rw [hi', List.take_of_length_le (Nat.le_refl _)] at hw0
        have HW := Lib.hid hw0
        clear hw0
        go_wp2_with fail
        go_returns
        exact ⟨by rw [HR.out, HW.out]; rfl, hE1.trans hE4⟩
theorem rcheck_any (v : Vl) (W : World) (pl : Option Addr) (c : Nat) (hV : VlAt W pl c v) (hok : v.ok) (hb : v.bytes.length ≤ 70368744170000) :
    Calls Try.prog 36 #[.agg (v.cells pl c).toArray, .int .i64 0, .int .i64 0] W fun e W' => (∃ n : Int, e = .returned (.tuple #[.int .i64 v.check, .int .i64 n])) ∧ Ext W W' := by
  have hE1 := ext_alloc W (.cells (v.cells pl c).toArray 62)
  have hbl := Blk.new W 62 (v.cells pl c).toArray
  have hV1 := hV.ext hE1
  have hch : v.check = if (v.walk 0 0).1 ≠ 0 then (v.walk 0 0).1 else if 512 < v.bytes.length then 2 else 0 := by
    unfold Vl.check; rw [one_walk]
  have hc := fun X (h : VlAt X pl c v) => rwalk_n _ v (Nat.lt_succ_self _) X 0 0 pl c h hok.1 hok.2.2 (by omega) (by omega)
  have hb2 := fun X (h : VlAt X pl c v) => rbytes_n _ v (Nat.lt_succ_self _) X pl c h hok hb
  rcases hwx : v.walk 0 0 with ⟨e0, m0⟩
  rw [hwx] at hc hch
  simp only at hch hc
  simp only [Vl.cells] at hc hb2
  have HC := Lib.hid hc
  have HB := Lib.hid hb2
  simp only [Vl.cells] at hbl hE1 hV1
  clear hc hb2 hwx
  go_enter Try.func36, Try.ntmps36
  simp only [Vl.cells]
  go_upto_region 1 with fail
  generalize World.alloc _ _ = W1 at *
  generalize W.heap.size = bx at *
  have b0 : W1.cell? ⟨bx, 0, none⟩ = some (.int .i64 v.k) := hbl.cell 0
  have b1 : W1.cell? ⟨bx, 1, none⟩ = some (.int .i64 v.n) := hbl.cell 1
  have b2 : W1.cell? ⟨bx, 2, none⟩ = some (.string ⟨v.s.toArray⟩) := hbl.cell 2
  have b3 : W1.cell? ⟨bx, 3, none⟩ = some (.slice pl v.l.len c) := hbl.cell 3
  have hlt1 := hbl.lt
  clear hV
  go_wp2_with fail
  refine (HC.out _ hV1).mono ?_
  rintro e w2 ⟨rfl, hE2⟩
  replace b0 := (hE2.cell _ _ hlt1).trans b0
  replace b1 := (hE2.cell _ _ hlt1).trans b1
  replace b2 := (hE2.cell _ _ hlt1).trans b2
  replace b3 := (hE2.cell _ _ hlt1).trans b3
  by_cases he : e0 = 0
  · have he1 : (e0 == 0) = true := by simp [he]
    rw [if_neg (fun h => h he)] at hch
    have hss : (strOf v.bytes).size = v.bytes.length := rfl
    by_cases h5 : 512 < v.bytes.length
    · rw [if_pos h5] at hch
      have HH := Lib.hid hch
      have g5 : (512 : Int) < v.bytes.length := by omega
      have g6 : (512 : Int) < (strOf v.bytes).size := by rw [hss]; omega
      clear hch h5
      go_wp2_with fail
      refine (HB.out _ (hV1.ext hE2)).mono ?_
      rintro e w3 ⟨rfl, hE3⟩
      clear b0 b1 b2 b3
      go_wp2_with fail
      go_returns
      exact ⟨⟨m0, by rw [HH.out]; rfl⟩, (hE1.trans hE2).trans hE3⟩
    · rw [if_neg h5] at hch
      have HH := Lib.hid hch
      have g5 : ¬ (512 : Int) < v.bytes.length := by omega
      have g6 : ¬ (512 : Int) < (strOf v.bytes).size := by rw [hss]; omega
      clear hch h5
      go_wp2_with fail
      refine (HB.out _ (hV1.ext hE2)).mono ?_
      rintro e w3 ⟨rfl, hE3⟩
      clear b0 b1 b2 b3
      go_wp2_with fail
      go_returns
      exact ⟨⟨m0, by rw [HH.out]; rfl⟩, (hE1.trans hE2).trans hE3⟩
  · have he1 : (e0 == 0) = false := by simp [he]
    rw [if_pos he] at hch
    have HH := Lib.hid hch
    clear hch
    go_wp2_with fail
    go_returns
    exact ⟨⟨m0, by rw [HH.out]; rfl⟩, hE1.trans hE2⟩
end Go.Proofs.Ytkkhcpknldlpoaa

namespace Go.Proofs.Ytkkhcpknldlpoaa
set_option maxRecDepth 4000
set_option linter.unusedVariables false
set_option linter.unusedSimpArgs false
open Go Go.RowKit
set_option maxHeartbeats 4000000 in
theorem rimcheck_any (p : Im) (a : Ip) (W : World) (hI : ImAt W a p) (hok : p.ok) (hb : ∀ v ∈ p.consts.vals, v.bytes.length ≤ 70368744170000) :
    Calls Try.prog 12 #[.agg (p.cells a).toArray] W fun e W' => e = .returned (.int .i64 p.check) ∧ Ext W W' := by
  obtain ⟨pc, cc, pk, ck, pn, cn⟩ := a
  have hE1 := ext_alloc W (.cells (p.cells ⟨pc, cc, pk, ck, pn, cn⟩).toArray 26)
  have hbl := Blk.new W 26 (p.cells ⟨pc, cc, pk, ck, pn, cn⟩).toArray
  have hI1 := hI.ext hE1
  have hc0 : p.check = if p.code.length = 0 then 6
    else if 512 < p.code.length ∨ 64 < p.consts.len ∨ 32 < p.names.length then 2
    else if p.places < 0 ∨ 16 < p.places then 1
    else if firstErr Vl.check p.consts.vals ≠ 0 then firstErr Vl.check p.consts.vals
    else if firstErr nameErr p.names ≠ 0 then firstErr nameErr p.names
    else firstErr p.codeErr p.code := rfl
  simp only [Im.cells] at hE1 hbl hI1
  go_enter Try.func12, Try.ntmps12
  simp only [Im.cells]
  go_upto_region 1 with fail
  generalize World.alloc _ _ = W1 at *
  generalize W.heap.size = bx at *
  have b0 : W1.cell? ⟨bx, 0, none⟩ = some (.slice pc p.code.length cc) := hbl.cell 0
  have b1 : W1.cell? ⟨bx, 1, none⟩ = some (.slice pk p.consts.len ck) := hbl.cell 1
  have b2 : W1.cell? ⟨bx, 2, none⟩ = some (.slice pn p.names.length cn) := hbl.cell 2
  have b3 : W1.cell? ⟨bx, 3, none⟩ = some (.int .i64 p.places) := hbl.cell 3
  have hlt1 := hbl.lt
  clear hbl hI
  by_cases h0 : p.code.length = 0
  · rw [if_pos h0] at hc0
    have g0 := beq0_t h0
    clear h0
    have HR := Lib.hid hc0
    clear hc0
    go_wp2_with fail
    go_returns
    exact ⟨by rw [HR.out]; rfl, hE1⟩
  rw [if_neg h0] at hc0
  have g0 := beq0_f h0
  by_cases h1 : 512 < p.code.length
  · rw [if_pos (Or.inl h1)] at hc0
    have g1 : (512 : Int) < p.code.length := by omega
    have HR := Lib.hid hc0
    clear hc0
    go_wp2_with fail
    go_returns
    exact ⟨by rw [HR.out]; rfl, hE1⟩
  have g1 : ¬ (512 : Int) < p.code.length := by omega
  by_cases h2 : 64 < p.consts.len
  · rw [if_pos (Or.inr (Or.inl h2))] at hc0
    have g2 : (64 : Int) < p.consts.len := by omega
    have HR := Lib.hid hc0
    clear hc0
    go_wp2_with fail
    go_returns
    exact ⟨by rw [HR.out]; rfl, hE1⟩
  have g2 : ¬ (64 : Int) < p.consts.len := by omega
  by_cases h3 : 32 < p.names.length
  · rw [if_pos (Or.inr (Or.inr h3))] at hc0
    have g3 : (32 : Int) < p.names.length := by omega
    have HR := Lib.hid hc0
    clear hc0
    go_wp2_with fail
    go_returns
    exact ⟨by rw [HR.out]; rfl, hE1⟩
  have g3 : ¬ (32 : Int) < p.names.length := by omega
  rw [if_neg (by omega)] at hc0
  by_cases h4 : p.places < 0
  · rw [if_pos (Or.inl h4)] at hc0
    have HR := Lib.hid hc0
    clear hc0
    go_wp2_with fail
    go_returns
    exact ⟨by rw [HR.out]; rfl, hE1⟩
  by_cases h5 : 16 < p.places
  · rw [if_pos (Or.inr h5)] at hc0
    have HR := Lib.hid hc0
    clear hc0
    go_wp2_with fail
    go_returns
    exact ⟨by rw [HR.out]; rfl, hE1⟩
  rw [if_neg (by omega)] at hc0
  have HC := Lib.hid hc0
  clear hc0
  have hvl := p.consts.vals_len
  go_wp2_with fail
  go_loopw [3] (fun k wr => CkRel W1 Vl.check p.consts.vals k wr) (fun k _ => ((p.consts.len : Int) + 1 - intOf k).toNat)
  case atStart => exact ckstart (Ext.refl _)
  case round =>
    obtain ⟨i, rfl, hi, hf, hE2⟩ := hrel
    replace b0 := (hE2.cell _ _ hlt1).trans b0
    replace b1 := (hE2.cell _ _ hlt1).trans b1
    replace b2 := (hE2.cell _ _ hlt1).trans b2
    replace b3 := (hE2.cell _ _ hlt1).trans b3
    by_cases hlt : i < p.consts.vals.length
    · obtain ⟨b, o, q2, c2, hq, hV2, d0, d1, d2, d3⟩ := hI1.consts.at.fo.get i hlt
      have hmem := List.getElem_mem hlt
      have okx := Fo.vals_ok hok.consts _ hmem
      have hbx := hb _ hmem
      obtain ⟨t1, t2⟩ := firstErr_take hlt hf
      simp only at hq hV2 d0 d1 d2 d3
      subst hq
      generalize p.consts.vals[i] = x at *
      replace d0 := cell_ext hE2 d0
      replace d1 := cell_ext hE2 d1
      replace d2 := cell_ext hE2 d2
      replace d3 := cell_ext hE2 d3
      rw [Nat.zero_add, Nat.mul_comm 4 i] at d0 d1 d2 d3
      have i7 : (i : Int) < p.consts.len := by omega
      have hE3 := hE2
      have hc := Lib.hid (rcheck_any x _ q2 c2 (hV2.ext hE2) okx hbx)
      have T1 := Lib.hid t1
      have T2 := Lib.hid t2
      simp only [Vl.cells] at hc
      clear hV2 hmem okx hbx t1 t2 hf
      by_cases he : x.check = 0
      · have he1 : (x.check != 0) = false := by simp [he]
        go_wp2_with fail
        refine hc.out.mono ?_
        rintro e w4 ⟨⟨n4, rfl⟩, hE4⟩
        clear d0 d1 d2 d3
        go_wp2_with fail
        exact ⟨⟨i + 1, by go_num, by omega, T2.out he, hE3.trans hE4⟩, by simp [intOf]; omega⟩
      · have he1 : (x.check != 0) = true := by simp [he]
        go_wp2_with fail
        refine hc.out.mono ?_
        rintro e w4 ⟨⟨n4, rfl⟩, hE4⟩
        clear d0 d1 d2 d3
        go_wp2_with fail
        go_returns
        refine ⟨?_, (hE1.trans hE3).trans hE4⟩
        have t1 := T1.out he
        rw [HC.out, if_pos (by rw [t1]; exact he), t1]; rfl
    · have hi' : i = p.consts.vals.length := by omega
      have i7 : ¬ (i : Int) < p.consts.len := by omega
      rw [hi', List.take_of_length_le (Nat.le_refl _)] at hf
      have hc1 := HC.out
      rw [if_neg (fun h => h hf)] at hc1
      have HC1 := Lib.hid hc1
      clear hf hc1 HC
      go_wp2_with fail
      have b0' := b0
      have b1' := b1
      have b2' := b2
      have b3' := b3
      clear b0 b1 b2 b3
      generalize wr = wa at *
      go_loopw [6] (fun k wr2 => CkRel wa nameErr p.names k wr2) (fun k _ => ((p.names.length : Int) + 1 - intOf k).toNat)
      case atStart => exact ckstart (Ext.refl _)
      case round =>
        obtain ⟨j, rfl, hj, hf, hE3⟩ := hrel
        have b0 := (hE3.cell _ _ (Nat.lt_of_lt_of_le hlt1 hE2.le)).trans b0'
        have b1 := (hE3.cell _ _ (Nat.lt_of_lt_of_le hlt1 hE2.le)).trans b1'
        have b2 := (hE3.cell _ _ (Nat.lt_of_lt_of_le hlt1 hE2.le)).trans b2'
        have b3 := (hE3.cell _ _ (Nat.lt_of_lt_of_le hlt1 hE2.le)).trans b3'
        by_cases hlt : j < p.names.length
        · obtain ⟨b, o, hq, _, d0⟩ := hI1.names j hlt
          obtain ⟨t1, t2⟩ := firstErr_take hlt hf
          simp only at hq
          subst hq
          generalize p.names[j] = x at *
          replace d0 := cell_ext (hE2.trans hE3) d0
          have i7 : (j : Int) < p.names.length := by omega
          have hss : (⟨x.toArray⟩ : ByteArray).size = x.length := rfl
          have T1 := Lib.hid t1
          have T2 := Lib.hid t2
          clear t1 t2 hf
          by_cases he : 64 < x.length
          · have g6 : (64 : Int) < ((⟨x.toArray⟩ : ByteArray).size : Int) := by rw [hss]; omega
            have hne : nameErr x = 2 := if_pos he
            have HN := Lib.hid hne
            clear he hne
            go_wp2_with fail
            go_returns
            refine ⟨?_, (hE1.trans hE2).trans hE3⟩
            have t1 := T1.out (by rw [HN.out]; decide)
            rw [HN.out] at t1
            rw [HC1.out, if_pos (by rw [t1]; decide), t1]; rfl
          · have g6 : ¬ (64 : Int) < ((⟨x.toArray⟩ : ByteArray).size : Int) := by rw [hss]; omega
            have hne : nameErr x = 0 := if_neg he
            have HN := Lib.hid hne
            clear he hne
            go_wp2_with fail
            exact ⟨⟨j + 1, by go_num, by omega, T2.out HN.out, hE3⟩, by simp [intOf]; omega⟩
        · have hj' : j = p.names.length := by omega
          have i8 : ¬ (j : Int) < p.names.length := by omega
          rw [hj', List.take_of_length_le (Nat.le_refl _)] at hf
          have hc1 := HC1.out
          rw [if_neg (fun h => h hf)] at hc1
          have HC2 := Lib.hid hc1
          clear hf hc1 HC1
          have hE23 := hE2.trans hE3
          go_wp2_with fail
          clear b0' b1' b2' b3'
          have b0' := b0
          have b1' := b1
          have b2' := b2
          have b3' := b3
          clear b0 b1 b2 b3 i7 i8 hi hj
          generalize wr = wb at *
          have hlt2 : bx < wb.heap.size := Nat.lt_of_lt_of_le hlt1 hE23.le
          go_loopw [7] (fun k wr3 => CkRel wb p.codeErr p.code k wr3) (fun k _ => ((p.code.length : Int) + 1 - intOf k).toNat)
          case atStart => exact ckstart (Ext.refl _)
          case round =>
            obtain ⟨l, rfl, hl, hf, hE4⟩ := hrel
            have b0 := (hE4.cell _ _ hlt2).trans b0'
            have b1 := (hE4.cell _ _ hlt2).trans b1'
            have b2 := (hE4.cell _ _ hlt2).trans b2'
            have b3 := (hE4.cell _ _ hlt2).trans b3'
            by_cases hlt : l < p.code.length
            · obtain ⟨b, o, hq, _, d0, d1⟩ := hI1.code l hlt
              obtain ⟨t1, t2⟩ := firstErr_take hlt hf
              have hokx := hok.code _ (List.getElem_mem hlt)
              have hce : p.codeErr p.code[l] = if ¬ isOp p.code[l].1 then 110 else if p.code[l].2 < 0 ∨ p.most (opnd p.code[l].1) ≤ p.code[l].2 then 1 else 0 := rfl
              simp only at hq
              subst hq
              generalize p.code[l] = x at *
              obtain ⟨op, av⟩ := x
              simp only at d0 d1 hce hokx
              replace d0 := cell_ext (hE23.trans hE4) d0
              replace d1 := cell_ext (hE23.trans hE4) d1
              rw [Nat.mul_comm 2 l] at d0 d1
              have i7 : (l : Int) < p.code.length := by omega
              have T1 := Lib.hid t1
              have T2 := Lib.hid t2
              have hbc := Blk.new wr 52 #[.int .i64 op, .int .i64 av]
              have hE9 := hE4.trans (ext_alloc wr (.cells #[.int .i64 op, .int .i64 av] 52))
              clear t1 t2 hf
              by_cases ho : isOp op
              case neg =>
                rw [if_pos ho] at hce
                have HCE := Lib.hid hce
                clear hce
                by_cases h0 : op < 0
                · clear ho
                  go_wp2_with fail
                  go_returns
                  refine ⟨?_, (hE1.trans hE23).trans hE9⟩
                  have t1 := T1.out (by rw [HCE.out]; decide)
                  rw [HC2.out, t1, HCE.out]; rfl
                · have h33 : (33 : Int) ≤ op := by unfold isOp at ho; omega
                  clear ho
                  go_wp2_with fail
                  go_returns
                  refine ⟨?_, (hE1.trans hE23).trans hE9⟩
                  have t1 := T1.out (by rw [HCE.out]; decide)
                  rw [HC2.out, t1, HCE.out]; rfl
              rw [if_neg (fun h => h ho)] at hce
              have HCE := Lib.hid hce
              have h0 : ¬ op < 0 := by have := ho.1; omega
              have h33 : ¬ (33 : Int) ≤ op := by have := ho.2; omega
              have HOP := Lib.hid ho
              clear hce ho
              go_upto_region 24 with fail
              clear b0 b1 b2 b3 d0 d1
              generalize World.alloc _ _ = w9 at *
              generalize wr.heap.size = cx at *
              have y0 : ∀ z : ExtOf w9, z.val.cell? ⟨bx, 0, none⟩ = some (.slice (some ⟨b, o, none⟩) p.code.length cc) := fun z => ((hE9.trans z.property).cell _ _ hlt2).trans b0'
              have y1 : ∀ z : ExtOf w9, z.val.cell? ⟨bx, 1, none⟩ = some (.slice pk p.consts.len ck) := fun z => ((hE9.trans z.property).cell _ _ hlt2).trans b1'
              have y2 : ∀ z : ExtOf w9, z.val.cell? ⟨bx, 2, none⟩ = some (.slice pn p.names.length cn) := fun z => ((hE9.trans z.property).cell _ _ hlt2).trans b2'
              have y3 : ∀ z : ExtOf w9, z.val.cell? ⟨bx, 3, none⟩ = some (.int .i64 p.places) := fun z => ((hE9.trans z.property).cell _ _ hlt2).trans b3'
              have y4 : ∀ z : ExtOf w9, z.val.cell? ⟨cx, 1, none⟩ = some (.int .i64 av) := fun z => (z.property.cell _ _ hbc.lt).trans (hbc.cell 1)
              have y5 : ∀ z : ExtOf w9, z.val.cell? ⟨cx, 0, none⟩ = some (.int .i64 op) := fun z => (z.property.cell _ _ hbc.lt).trans (hbc.cell 0)
              have HS : ∀ z : ExtOf w9, Calls Try.prog 22 #[.int .i64 op] z.val fun e W' => e = .returned (.int .u8 (signOf (opnd op) : Nat)) ∧ ∃ y : ExtOf w9, W' = y.val :=
                fun z => (roperand_any HOP.out z.val).mono fun e W' ⟨h1, h2⟩ => ⟨h1, z, h2.symm⟩
              have HM : ∀ z : ExtOf w9, Calls Try.prog 37 #[.agg #[.slice (some ⟨b, o, none⟩) p.code.length cc, .slice pk p.consts.len ck, .slice pn p.names.length cn, .int .i64 p.places], .int .u8 (signOf (opnd op) : Nat)] z.val fun e W' => e = .returned (.int .i64 (p.most (opnd op))) ∧ ∃ y : ExtOf w9, W' = y.val :=
                fun z => quiet_ext (below_any p ⟨some ⟨b, o, none⟩, cc, pk, ck, pn, cn⟩ (opnd op) (opnd_le op) z.val)
              generalize signOf (opnd op) = sg at *
              generalize p.most (opnd op) = mo at *
              clear hbc h0 h33
              by_cases ha : av < 0
              · have hda : decide (av < 0) = true := decide_eq_true ha
                have hce := HCE.out
                rw [if_pos (Or.inl ha)] at hce
                have HCE2 := Lib.hid hce
                clear hce
                refine region_ext (by kernel_rfl) (by kernel_rfl) ?_
                repeat (go_big_quiet_step (first | (with_reducible exact HM _) | (with_reducible exact HS _)))
                refine wpQuiet_nil ?_
                intro wq hq
                obtain ⟨xq, rfl⟩ := hq
                have hEq := xq.property
                clear y0 y1 y2 y3 y4 y5 HM HS
                go_wp2_with fail
                go_returns
                refine ⟨?_, ((hE1.trans hE23).trans hE9).trans hEq⟩
                have t1 := T1.out (by rw [HCE2.out]; decide)
                rw [HC2.out, t1, HCE2.out]; rfl
              have hda : decide (av < 0) = false := decide_eq_false ha
              by_cases hb2 : mo ≤ av
              · have hdb : decide (mo ≤ av) = true := decide_eq_true hb2
                have hce := HCE.out
                rw [if_pos (Or.inr hb2)] at hce
                have HCE2 := Lib.hid hce
                clear hce
                refine region_ext (by kernel_rfl) (by kernel_rfl) ?_
                repeat (go_big_quiet_step (first | (with_reducible exact HM _) | (with_reducible exact HS _)))
                refine wpQuiet_nil ?_
                intro wq hq
                obtain ⟨xq, rfl⟩ := hq
                have hEq := xq.property
                clear y0 y1 y2 y3 y4 y5 HM HS
                go_wp2_with fail
                go_returns
                refine ⟨?_, ((hE1.trans hE23).trans hE9).trans hEq⟩
                have t1 := T1.out (by rw [HCE2.out]; decide)
                rw [HC2.out, t1, HCE2.out]; rfl
              · have hdb : decide (mo ≤ av) = false := decide_eq_false hb2
                have hce := HCE.out
                rw [if_neg (by omega)] at hce
                have HCE2 := Lib.hid hce
                clear hce
                refine region_ext (by kernel_rfl) (by kernel_rfl) ?_
                repeat (go_big_quiet_step (first | (with_reducible exact HM _) | (with_reducible exact HS _)))
                refine wpQuiet_nil ?_
                intro wq hq
                obtain ⟨xq, rfl⟩ := hq
                have hEq := xq.property
                clear y0 y1 y2 y3 y4 y5 HM HS
                go_wp2_with fail
                exact ⟨⟨l + 1, by go_num, by omega, T2.out HCE2.out, hE9.trans hEq⟩, by simp [intOf]; omega⟩
            · have hl' : l = p.code.length := by omega
              have i8 : ¬ (l : Int) < p.code.length := by omega
              rw [hl', List.take_of_length_le (Nat.le_refl _)] at hf
              have HF := Lib.hid hf
              clear hf
              go_wp2_with fail
              go_returns
              exact ⟨by rw [HC2.out, HF.out]; rfl, (hE1.trans hE23).trans hE4⟩
end Go.Proofs.Ytkkhcpknldlpoaa
