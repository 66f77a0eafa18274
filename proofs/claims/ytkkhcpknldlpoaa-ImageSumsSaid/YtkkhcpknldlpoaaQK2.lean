/- image: image.Check. | The reference's writer: Num, Int, Fixed, Text. | image: the reference's bytes of a value. | image: the reference's bytes of an image. | image: image.Encode. | image: what reckon does once. | image: sync.Once's parts: the lock, what is deferred. | image: reckon, once. | image: a value is read: value.count.read. | image: image.Clone. | image: a Program's Sum, Bytes, Name, Image. | image: New. | image: a value is read: value.count.read. | image: value.Read. | image: Decode, its plain steps. | image: image.Decode. | image: Find; tiny. | image: the laws' guard. -/
import Derived.Test.YtkkhcpknldlpoaaQK1
import Derived.Test.YtkkhcpknldlpoaaSteps
import Derived.WalkKit
import Derived.Laws.Concat
import Derived.Handy
import Derived.Deep.DeepCutAuto
import Derived.Deep.CutBlock
import Derived.Tactics
import Derived.Tactics2
import Derived.Defers
import Derived.Laws.Pointers
import Derived.Laws.LoneSync
import Derived.RegionTactic
import Derived.RegionCalls
import Derived.ChangeAlike
import Derived.Laws.NewBlocks
set_option maxHeartbeats 2000000
namespace Go.Proofs.Ytkkhcpknldlpoaa
set_option maxRecDepth 4000
set_option linter.unusedVariables false
set_option linter.unusedSimpArgs false
open Go Go.RowKit
theorem check_ext (v : Vl) (W : World) (pl : Option Addr) (c : Nat) (hV : VlAt W pl c v) (hok : v.ok) (hb : v.bytes.length ≤ 70368744170000) :
    Calls Try.prog 43 #[.agg (v.cells pl c).toArray] W fun e W' => e = .returned (.int .i64 v.check) ∧ Ext W W' :=
  check_any v W W [] pl c (Has.nil (Ext.refl W)) .nil hV hok hb
theorem beq0_t {n : Nat} (h : n = 0) : ((n : Int) == 0) = true := by subst h; rfl
theorem beq0_f {n : Nat} (h : n ≠ 0) : ((n : Int) == 0) = false := by simp; omega
def CkRel {α : Type} (W1 : World) (f : α → Int) (l : List α) (k : Value) (wr : World) : Prop := ∃ i : Nat, k = .int .i64 i ∧ i ≤ l.length ∧ firstErr f (l.take i) = 0 ∧ Ext W1 wr
theorem ckstart {α : Type} {W1 wr : World} {f : α → Int} {l : List α} (h : Ext W1 wr) : CkRel W1 f l (.int .i64 0) wr := ⟨0, rfl, Nat.zero_le _, rfl, h⟩
set_option maxHeartbeats 4000000 in
theorem imcheck_any (p : Im) (a : Ip) (W : World) (hI : ImAt W a p) (hok : p.ok) (hb : ∀ v ∈ p.consts.vals, v.bytes.length ≤ 70368744170000) :
    Calls Try.prog 14 #[.agg (p.cells a).toArray] W fun e W' => e = .returned (.int .i64 p.check) ∧ Ext W W' := by
  obtain ⟨pc, cc, pk, ck, pn, cn⟩ := a
  have hE1 := ext_alloc W (.cells (p.cells ⟨pc, cc, pk, ck, pn, cn⟩).toArray 26)
  have hbl := Blk.new W 26 (p.cells ⟨pc, cc, pk, ck, pn, cn⟩).toArray
  have hI1 := hI.ext hE1
  have hc0 : p.check = if p.code.length = 0 then 6
    else if 512 < p.code.length ∨ 64 < p.consts.len ∨ 32 < p.names.length then 2
    else if p.places < 0 ∨ 16 < p.places then 1
    else if firstErr Vl.check p.consts.vals ≠ 0 then firstErr Vl.check p.consts.vals
    else if firstErr nameErr p.names ≠ 0 then firstErr nameErr p.names
    else firstErr p.codeErr p.code := rfl
  simp only [Im.cells] at hE1 hbl hI1
  go_enter Try.func14, Try.ntmps14
  simp only [Im.cells]
  go_upto_region 1 with fail
  generalize World.alloc _ _ = W1 at *
  generalize W.heap.size = bx at *
  have b0 : W1.cell? ⟨bx, 0, none⟩ = some (.slice pc p.code.length cc) := hbl.cell 0
  have b1 : W1.cell? ⟨bx, 1, none⟩ = some (.slice pk p.consts.len ck) := hbl.cell 1
  have b2 : W1.cell? ⟨bx, 2, none⟩ = some (.slice pn p.names.length cn) := hbl.cell 2
  have b3 : W1.cell? ⟨bx, 3, none⟩ = some (.int .i64 p.places) := hbl.cell 3
  have hlt1 := hbl.lt
  clear hbl hI
  by_cases h0 : p.code.length = 0
  · rw [if_pos h0] at hc0
    have g0 := beq0_t h0
    clear h0
    have HR := Lib.hid hc0
    clear hc0
    go_wp2_with fail
    go_returns
    exact ⟨by rw [HR.out]; rfl, hE1⟩
  rw [if_neg h0] at hc0
  have g0 := beq0_f h0
  by_cases h1 : 512 < p.code.length
  · rw [if_pos (Or.inl h1)] at hc0
    have g1 : (512 : Int) < p.code.length := by omega
    have HR := Lib.hid hc0
    clear hc0
    go_wp2_with fail
    go_returns
    exact ⟨by rw [HR.out]; rfl, hE1⟩
  have g1 : ¬ (512 : Int) < p.code.length := by omega
  by_cases h2 : 64 < p.consts.len
  · rw [if_pos (Or.inr (Or.inl h2))] at hc0
    have g2 : (64 : Int) < p.consts.len := by omega
    have HR := Lib.hid hc0
    clear hc0
    go_wp2_with fail
    go_returns
    exact ⟨by rw [HR.out]; rfl, hE1⟩
  have g2 : ¬ (64 : Int) < p.consts.len := by omega
  by_cases h3 : 32 < p.names.length
  · rw [if_pos (Or.inr (Or.inr h3))] at hc0
    have g3 : (32 : Int) < p.names.length := by omega
    have HR := Lib.hid hc0
    clear hc0
    go_wp2_with fail
    go_returns
    exact ⟨by rw [HR.out]; rfl, hE1⟩
  have g3 : ¬ (32 : Int) < p.names.length := by omega
  rw [if_neg (by omega)] at hc0
  by_cases h4 : p.places < 0
  · rw [if_pos (Or.inl h4)] at hc0
    have HR := Lib.hid hc0
    clear hc0
    go_wp2_with fail
    go_returns
    exact ⟨by rw [HR.out]; rfl, hE1⟩
  by_cases h5 : 16 < p.places
  · rw [if_pos (Or.inr h5)] at hc0
    have HR := Lib.hid hc0
    clear hc0
    go_wp2_with fail
    go_returns
    exact ⟨by rw [HR.out]; rfl, hE1⟩
  rw [if_neg (by omega)] at hc0
  have HC := Lib.hid hc0
  clear hc0
  have hvl := p.consts.vals_len
  go_wp2_with fail
  go_loopw [46] (fun k wr => CkRel W1 Vl.check p.consts.vals k wr) (fun k _ => ((p.consts.len : Int) + 1 - intOf k).toNat)
  case atStart => exact ckstart (Ext.refl _)
  case round =>
    obtain ⟨i, rfl, hi, hf, hE2⟩ := hrel
    replace b0 := (hE2.cell _ _ hlt1).trans b0
    replace b1 := (hE2.cell _ _ hlt1).trans b1
    replace b2 := (hE2.cell _ _ hlt1).trans b2
    replace b3 := (hE2.cell _ _ hlt1).trans b3
    by_cases hlt : i < p.consts.vals.length
    · obtain ⟨b, o, q2, c2, hq, hV2, d0, d1, d2, d3⟩ := hI1.consts.at.fo.get i hlt
      have hmem := List.getElem_mem hlt
      have okx := Fo.vals_ok hok.consts _ hmem
      have hbx := hb _ hmem
      obtain ⟨t1, t2⟩ := firstErr_take hlt hf
      simp only at hq hV2 d0 d1 d2 d3
      subst hq
      generalize p.consts.vals[i] = x at *
      replace d0 := cell_ext hE2 d0
      replace d1 := cell_ext hE2 d1
      replace d2 := cell_ext hE2 d2
      replace d3 := cell_ext hE2 d3
      rw [Nat.zero_add, Nat.mul_comm 4 i] at d0 d1 d2 d3
      have i7 : (i : Int) < p.consts.len := by omega
      have hE3 := hE2.trans (ext_alloc wr (.cells (x.cells q2 c2).toArray 62))
      have hc := Lib.hid (check_ext x _ q2 c2 ((hV2.ext hE2).ext (ext_alloc wr (.cells (x.cells q2 c2).toArray 62))) okx hbx)
      have T1 := Lib.hid t1
      have T2 := Lib.hid t2
      simp only [Vl.cells] at hc hE3
      clear hV2 hmem okx hbx t1 t2 hf
      by_cases he : x.check = 0
      · have he1 : (x.check != 0) = false := by simp [he]
        go_wp2_with fail
        refine hc.out.mono ?_
        rintro e w4 ⟨rfl, hE4⟩
        clear d0 d1 d2 d3
        go_wp2_with fail
        exact ⟨⟨i + 1, by go_num, by omega, T2.out he, hE3.trans hE4⟩, by simp [intOf]; omega⟩
      · have he1 : (x.check != 0) = true := by simp [he]
        go_wp2_with fail
        refine hc.out.mono ?_
        rintro e w4 ⟨rfl, hE4⟩
        clear d0 d1 d2 d3
        go_wp2_with fail
        go_returns
        refine ⟨?_, (hE1.trans hE3).trans hE4⟩
        have t1 := T1.out he
        rw [HC.out, if_pos (by rw [t1]; exact he), t1]; rfl
    · have hi' : i = p.consts.vals.length := by omega
      have i7 : ¬ (i : Int) < p.consts.len := by omega
      rw [hi', List.take_of_length_le (Nat.le_refl _)] at hf
      have hc1 := HC.out
      rw [if_neg (fun h => h hf)] at hc1
      have HC1 := Lib.hid hc1
      clear hf hc1 HC
      go_wp2_with fail
      have b0' := b0
      have b1' := b1
      have b2' := b2
      have b3' := b3
      clear b0 b1 b2 b3
      generalize wr = wa at *
      go_loopw [59] (fun k wr2 => CkRel wa nameErr p.names k wr2) (fun k _ => ((p.names.length : Int) + 1 - intOf k).toNat)
      case atStart => exact ckstart (Ext.refl _)
      case round =>
        obtain ⟨j, rfl, hj, hf, hE3⟩ := hrel
        have b0 := (hE3.cell _ _ (Nat.lt_of_lt_of_le hlt1 hE2.le)).trans b0'
        have b1 := (hE3.cell _ _ (Nat.lt_of_lt_of_le hlt1 hE2.le)).trans b1'
        have b2 := (hE3.cell _ _ (Nat.lt_of_lt_of_le hlt1 hE2.le)).trans b2'
        have b3 := (hE3.cell _ _ (Nat.lt_of_lt_of_le hlt1 hE2.le)).trans b3'
        by_cases hlt : j < p.names.length
        · obtain ⟨b, o, hq, _, d0⟩ := hI1.names j hlt
          obtain ⟨t1, t2⟩ := firstErr_take hlt hf
          simp only at hq
          subst hq
          generalize p.names[j] = x at *
          replace d0 := cell_ext (hE2.trans hE3) d0
          have i7 : (j : Int) < p.names.length := by omega
          have hss : (⟨x.toArray⟩ : ByteArray).size = x.length := rfl
          have T1 := Lib.hid t1
          have T2 := Lib.hid t2
          clear t1 t2 hf
          by_cases he : 64 < x.length
          · have g6 : (64 : Int) < ((⟨x.toArray⟩ : ByteArray).size : Int) := by rw [hss]; omega
            have hne : nameErr x = 2 := if_pos he
            have HN := Lib.hid hne
            clear he hne
            go_wp2_with fail
            go_returns
            refine ⟨?_, (hE1.trans hE2).trans hE3⟩
            have t1 := T1.out (by rw [HN.out]; decide)
            rw [HN.out] at t1
            rw [HC1.out, if_pos (by rw [t1]; decide), t1]; rfl
          · have g6 : ¬ (64 : Int) < ((⟨x.toArray⟩ : ByteArray).size : Int) := by rw [hss]; omega
            have hne : nameErr x = 0 := if_neg he
            have HN := Lib.hid hne
            clear he hne
            go_wp2_with fail
            exact ⟨⟨j + 1, by go_num, by omega, T2.out HN.out, hE3⟩, by simp [intOf]; omega⟩
        · have hj' : j = p.names.length := by omega
          have i8 : ¬ (j : Int) < p.names.length := by omega
          rw [hj', List.take_of_length_le (Nat.le_refl _)] at hf
          have hc1 := HC1.out
          rw [if_neg (fun h => h hf)] at hc1
          have HC2 := Lib.hid hc1
          clear hf hc1 HC1
          have hE23 := hE2.trans hE3
          go_wp2_with fail
          clear b0' b1' b2' b3'
          have b0' := b0
          have b1' := b1
          have b2' := b2
          have b3' := b3
          clear b0 b1 b2 b3 i7 i8 hi hj
          generalize wr = wb at *
          have hlt2 : bx < wb.heap.size := Nat.lt_of_lt_of_le hlt1 hE23.le
          go_loopw [70] (fun k wr3 => CkRel wb p.codeErr p.code k wr3) (fun k _ => ((p.code.length : Int) + 1 - intOf k).toNat)
          case atStart => exact ckstart (Ext.refl _)
          case round =>
            obtain ⟨l, rfl, hl, hf, hE4⟩ := hrel
            have b0 := (hE4.cell _ _ hlt2).trans b0'
            have b1 := (hE4.cell _ _ hlt2).trans b1'
            have b2 := (hE4.cell _ _ hlt2).trans b2'
            have b3 := (hE4.cell _ _ hlt2).trans b3'
            by_cases hlt : l < p.code.length
            · obtain ⟨b, o, hq, _, d0, d1⟩ := hI1.code l hlt
              obtain ⟨t1, t2⟩ := firstErr_take hlt hf
              have hokx := hok.code _ (List.getElem_mem hlt)
              have hce : p.codeErr p.code[l] = if ¬ isOp p.code[l].1 then 110 else if p.code[l].2 < 0 ∨ p.most (opnd p.code[l].1) ≤ p.code[l].2 then 1 else 0 := rfl
              simp only at hq
              subst hq
              generalize p.code[l] = x at *
              obtain ⟨op, av⟩ := x
              simp only at d0 d1 hce hokx
              replace d0 := cell_ext (hE23.trans hE4) d0
              replace d1 := cell_ext (hE23.trans hE4) d1
              rw [Nat.mul_comm 2 l] at d0 d1
              have i7 : (l : Int) < p.code.length := by omega
              have T1 := Lib.hid t1
              have T2 := Lib.hid t2
              have HO := Lib.hid (fun X => of_any op X)
              have hbc0 := Blk.new wr 52 #[.int .i64 op, .int .i64 av]
              have hE5 := hE4.trans (ext_alloc wr (.cells #[.int .i64 op, .int .i64 av] 52))
              have hro := info_operand op
              clear t1 t2 hf
              by_cases ho : isOp op
              case neg =>
                rw [if_pos ho] at hce
                have hob := isOpB_none ho
                have HCE := Lib.hid hce
                clear hce hro
                go_wp2_with fail
                refine (HO.out _).mono ?_
                rintro e w4 ⟨rfl, hE6⟩
                clear d0 d1
                generalize info op = ri at *
                simp only [IRow.cells]
                go_wp2_with fail
                go_returns
                refine ⟨?_, (((hE1.trans hE23).trans hE5).trans hE6).alloc _⟩
                have t1 := T1.out (by rw [HCE.out]; decide)
                rw [HC2.out, t1, HCE.out]; rfl
              rw [if_neg (fun h => h ho)] at hce
              have hob : isOpB op = true := decide_eq_true ho
              have hm5 := opnd_le op
              have HCE := Lib.hid hce
              clear hce
              go_wp2_with fail
              refine (HO.out _).mono ?_
              rintro e w4 ⟨rfl, hE6⟩
              clear d0 d1 HO
              have hbc := hbc0.of_eq (hE6.block _ hbc0.lt)
              clear hbc0
              generalize info op = ri at *
              simp only [IRow.cells]
              have hbi := Blk.new w4 46 ri.cells.toArray
              have hbc2 := hbc.alloc (.cells ri.cells.toArray 46)
              have hE7 := hE6.alloc (.cells ri.cells.toArray 46)
              simp only [IRow.cells, hro] at hbi hbc2 hE7
              go_upto_region 26 with fail
              clear b0 b1 b2 b3
              generalize World.alloc w4 _ = w9 at *
              generalize w4.heap.size = fx at *
              generalize wr.heap.size = cx at *
              have hlt4 : bx < wr.heap.size := Nat.lt_of_lt_of_le hlt2 hE4.le
              have hE9 : Ext wb w9 := hE5.trans hE7
              have y0 : ∀ z : ExtOf w9, z.val.cell? ⟨bx, 0, none⟩ = some (.slice (some ⟨b, o, none⟩) p.code.length cc) := fun z => ((hE9.trans z.property).cell _ _ hlt2).trans b0'
              have y1 : ∀ z : ExtOf w9, z.val.cell? ⟨bx, 1, none⟩ = some (.slice pk p.consts.len ck) := fun z => ((hE9.trans z.property).cell _ _ hlt2).trans b1'
              have y2 : ∀ z : ExtOf w9, z.val.cell? ⟨bx, 2, none⟩ = some (.slice pn p.names.length cn) := fun z => ((hE9.trans z.property).cell _ _ hlt2).trans b2'
              have y3 : ∀ z : ExtOf w9, z.val.cell? ⟨bx, 3, none⟩ = some (.int .i64 p.places) := fun z => ((hE9.trans z.property).cell _ _ hlt2).trans b3'
              have y4 : ∀ z : ExtOf w9, z.val.cell? ⟨cx, 1, none⟩ = some (.int .i64 av) := fun z => (z.property.cell _ _ hbc2.lt).trans (hbc2.cell 1)
              have y5 : ∀ z : ExtOf w9, z.val.cell? ⟨fx, 1, none⟩ = some (.int .i64 (opnd op)) := fun z => (z.property.cell _ _ hbi.lt).trans (hbi.cell 1)
              have HM : ∀ z : ExtOf w9, Calls Try.prog 44 #[.agg #[.slice (some ⟨b, o, none⟩) p.code.length cc, .slice pk p.consts.len ck, .slice pn p.names.length cn, .int .i64 p.places], .int .i64 (opnd op)] z.val fun e W' => e = .returned (.int .i64 (p.most (opnd op))) ∧ ∃ y : ExtOf w9, W' = y.val :=
                fun z => quiet_ext (most_any p ⟨some ⟨b, o, none⟩, cc, pk, ck, pn, cn⟩ (opnd op) (opnd_le op) z.val)
              generalize p.most (opnd op) = mo at *
              clear hbc hbc2 hbi hE6 hE7 hro hm5
              by_cases ha : av < 0
              · have hda : decide (av < 0) = true := decide_eq_true ha
                have hce := HCE.out
                rw [if_pos (Or.inl ha)] at hce
                have HCE2 := Lib.hid hce
                clear hce
                refine region_ext (by kernel_rfl) (by kernel_rfl) ?_
                repeat (go_big_quiet_step ((with_reducible exact HM _)))
                refine wpQuiet_nil ?_
                intro wq hq
                obtain ⟨xq, rfl⟩ := hq
                have hEq := xq.property
                clear y0 y1 y2 y3 y4 y5 HM
                go_wp2_with fail
                go_returns
                refine ⟨?_, ((hE1.trans hE23).trans hE9).trans hEq⟩
                have t1 := T1.out (by rw [HCE2.out]; decide)
                rw [HC2.out, t1, HCE2.out]; rfl
              have hda : decide (av < 0) = false := decide_eq_false ha
              by_cases hb2 : mo ≤ av
              · have hdb : decide (mo ≤ av) = true := decide_eq_true hb2
                have hce := HCE.out
                rw [if_pos (Or.inr hb2)] at hce
                have HCE2 := Lib.hid hce
                clear hce
                refine region_ext (by kernel_rfl) (by kernel_rfl) ?_
                repeat (go_big_quiet_step ((with_reducible exact HM _)))
                refine wpQuiet_nil ?_
                intro wq hq
                obtain ⟨xq, rfl⟩ := hq
                have hEq := xq.property
                clear y0 y1 y2 y3 y4 y5 HM
                go_wp2_with fail
                go_returns
                refine ⟨?_, ((hE1.trans hE23).trans hE9).trans hEq⟩
                have t1 := T1.out (by rw [HCE2.out]; decide)
                rw [HC2.out, t1, HCE2.out]; rfl
              · have hdb : decide (mo ≤ av) = false := decide_eq_false hb2
                have hce := HCE.out
                rw [if_neg (by omega)] at hce
                have HCE2 := Lib.hid hce
                clear hce
                refine region_ext (by kernel_rfl) (by kernel_rfl) ?_
                repeat (go_big_quiet_step ((with_reducible exact HM _)))
                refine wpQuiet_nil ?_
                intro wq hq
                obtain ⟨xq, rfl⟩ := hq
                have hEq := xq.property
                clear y0 y1 y2 y3 y4 y5 HM
                go_wp2_with fail
                exact ⟨⟨l + 1, by go_num, by omega, T2.out HCE2.out, hE9.trans hEq⟩, by simp [intOf]; omega⟩
            · have hl' : l = p.code.length := by omega
              have i8 : ¬ (l : Int) < p.code.length := by omega
              rw [hl', List.take_of_length_le (Nat.le_refl _)] at hf
              have HF := Lib.hid hf
              clear hf
              go_wp2_with fail
              go_returns
              exact ⟨by rw [HC2.out, HF.out]; rfl, (hE1.trans hE23).trans hE4⟩
end Go.Proofs.Ytkkhcpknldlpoaa

namespace Go.Proofs.Ytkkhcpknldlpoaa
set_option maxRecDepth 4000
set_option linter.unusedVariables false
set_option linter.unusedSimpArgs false
open Go Go.RowKit
theorem strOf_size (l : List UInt8) : (strOf l).size = l.length := rfl
theorem strOf_append (a b : List UInt8) : strOf a ++ strOf b = strOf (a ++ b) := by
  unfold strOf
  apply ByteArray.ext
  simp
theorem lit1_cells (w : World) (x : Nat) (hx : x < 256) (t : TypeId) : ∀ i, i < [UInt8.ofNat x].length → (w.alloc (.cells #[.int .u8 x] t)).cell? ⟨w.heap.size, 0 + i, none⟩ = some (.int .u8 (([UInt8.ofNat x].getD i 0).toNat : Int)) := by
  intro i hi
  have hi0 : i = 0 := by simpa using hi
  subst hi0
  have h : (w.alloc (.cells #[.int .u8 x] t)).heap[w.heap.size]? = some (.cells #[.int .u8 x] t (0, 0)) := heap_alloc_new w _
  rw [cell_of_row _ _ 0 _ t (0, 0) h]
  simp
  omega
theorem lit1_conv (w X : World) (x : Nat) (hx : x < 256) (t : TypeId) (hE : Ext (w.alloc (.cells #[.int .u8 x] t)) X) : (convert 30 9 (.slice (some ⟨w.heap.size, 0, none⟩) 1 1)).run Try.prog X = .ok (.string (strOf [UInt8.ofNat x])) X := by
  refine conv_bytes X w.heap.size 0 1 [UInt8.ofNat x] fun i hi => ?_
  rw [hE.cell _ _ (by simp)]
  exact lit1_cells w x hx t i hi
theorem lit1_conv2 (x : Nat) (m : Int) (hx : x < 256) (hm : m = x) (w X : World) (hE : Ext (w.alloc (.cells #[.int .u8 m] 5)) X) : (convert 30 9 (.slice (some ⟨w.heap.size, 0, none⟩) 1 1)).run Try.prog X = .ok (.string (strOf [UInt8.ofNat x])) X := by
  subst hm
  exact lit1_conv w X x hx _ hE
theorem str_add (a b : List UInt8) (h : a.length + b.length ≤ 70368744177664) (X : World) : (Op.stringOp .add (strOf a) (strOf b)).run Try.prog X = .ok (.string (strOf (a ++ b))) X := by
  rw [run_string_add_sum X _ _ (by rw [strOf_size, strOf_size]; omega), strOf_append]
set_option maxRecDepth 100000 in
theorem ref_num (n : Nat) : ∀ (w : World), n < 18446744073709551616 → Calls Try.prog 52 #[.int .u64 n] w fun e w' => e = .returned (.string (strOf (numB n))) ∧ Ext w w' := by
  induction n using Nat.strongRecOn with
  | _ n ih =>
    intro w hn
    by_cases h : n < 128
    · have hcv := lit1_conv w _ n (by omega) 5 (Ext.refl _)
      have HB := Lib.hid (numB_small h)
      clear ih
      go_enter Try.func52, Try.ntmps52
      go_wp2_with fail
      go_ret
      rw [HB.out]
      exact ⟨rfl, ext_alloc _ _⟩
    · have HB := Lib.hid (numB_big h)
      have IH := Lib.hid (fun W => (by simpa using ih (n / 128) (by omega) W (by omega) : Calls Try.prog 52 #[.int .u64 ((n : Int) / 128)] W fun e w' => e = .returned (.string (strOf (numB (n / 128)))) ∧ Ext W w'))
      have HC := Lib.hid (lit1_conv2 (n % 128 + 128) ((n : Int) % 128 + 128) (by omega) (by omega))
      have hnl := numB_len (n := n / 128) (by omega)
      clear ih
      generalize UInt8.ofNat (n % 128 + 128) = d at *
      generalize numB (n / 128) = m at *
      have hadd := str_add [d] m (by simp; omega)
      go_enter Try.func52, Try.ntmps52
      go_wp2_with fail
      have hFd := (Ext.refl w).drew
      have hne_ : Nonempty (Of ((fun X => Ext w X))) := ⟨⟨_, hFd⟩⟩
      refine region_plan (.seg [0,1,2,3,6,7] [true,true,true,true,true,true] (.fork 4 (.seg [5,8,9,10] [true,false,true,true] .done) 8 (.seg [4,5,9,10] [false,true,true,true] .done))) ((fun X => Ext w X)) (by kernel_rfl) (by kernel_rfl) hFd ?_
      refine walkP_seg ?_
      simp only [List.filterMap_cons, List.filterMap_nil, List.getElem?_cons_zero, List.getElem?_cons_succ]
      refine steps_quiet 6 (by kernel_rfl) ?_
      simp only [List.take_succ_cons, List.take_zero, List.drop_succ_cons, List.drop_zero]
      repeat (go_big_quiet_step (fail))
      refine wpQuiet_nil ?_
      refine steps_end ?_
      refine walkP_fork ?_ ?_
      all_goals simp only [List.filterMap_cons, List.filterMap_nil, List.getElem?_cons_zero, List.getElem?_cons_succ]
      · refine steps_want rfl (fun K hK => ?_)
        go_simp
        refine hK _ _ (fun X => Ext (w.alloc (.cells #[.int .u8 ((n : Int) % 128 + 128)] 5)) X) (Ext.refl _).drew (fun X h => (ext_alloc _ _).trans h) ?_
        clear hK K
        refine steps_end ?_
        refine walkP_seg ?_
        simp only [List.filterMap_cons, List.filterMap_nil, List.getElem?_cons_zero, List.getElem?_cons_succ]
        have hcv := fun x : Of (fun X => Ext (w.alloc (.cells #[.int .u8 ((n : Int) % 128 + 128)] 5)) X) => HC.out w x.val x.property
        have hne2_ : Nonempty (Of (fun X => Ext (w.alloc (.cells #[.int .u8 ((n : Int) % 128 + 128)] 5)) X)) := ⟨⟨_, Ext.refl _⟩⟩
        refine steps_quiet 1 (by kernel_rfl) ?_
        simp only [List.take_succ_cons, List.take_zero, List.drop_succ_cons, List.drop_zero]
        repeat (go_big_quiet_step (fail))
        refine wpQuiet_nil ?_
        refine steps_want rfl (fun K hK => ?_)
        go_simp
        refine (IH.out _).mono ?_
        rintro e w2 ⟨rfl, hE2⟩
        refine hK _ _ _ ((Ext.refl _).drew.trans hE2) (fun _ h => h) ?_
        clear hK K
        refine steps_quiet 2 (by kernel_rfl) ?_
        simp only [List.take_succ_cons, List.take_zero, List.drop_succ_cons, List.drop_zero]
        repeat (go_big_quiet_step (fail))
        refine wpQuiet_nil ?_
        refine steps_end ?_
        refine walkP_done ?_
        go_wp2_with fail
        go_ret
        rw [HB.out]
        exact ⟨rfl, (ext_alloc _ _).drew.trans hE2⟩
      · refine steps_want rfl (fun K hK => ?_)
        go_simp
        refine (IH.out _).mono ?_
        rintro e w2 ⟨rfl, hE2⟩
        refine hK _ _ (fun X => Ext w2 X) (Ext.refl _) (fun X h => ((Ext.refl w).drew.trans hE2).trans h) ?_
        clear hK K
        refine steps_end ?_
        refine walkP_seg ?_
        simp only [List.filterMap_cons, List.filterMap_nil, List.getElem?_cons_zero, List.getElem?_cons_succ]
        refine steps_want rfl (fun K hK => ?_)
        go_simp
        refine hK _ _ (fun X => Ext (w2.alloc (.cells #[.int .u8 ((n : Int) % 128 + 128)] 5)) X) (Ext.refl _) (fun X h => (ext_alloc _ _).trans h) ?_
        clear hK K
        have hcv := fun x : Of (fun X => Ext (w2.alloc (.cells #[.int .u8 ((n : Int) % 128 + 128)] 5)) X) => HC.out w2 x.val x.property
        have hne2_ : Nonempty (Of (fun X => Ext (w2.alloc (.cells #[.int .u8 ((n : Int) % 128 + 128)] 5)) X)) := ⟨⟨_, Ext.refl _⟩⟩
        refine steps_quiet 3 (by kernel_rfl) ?_
        simp only [List.take_succ_cons, List.take_zero, List.drop_succ_cons, List.drop_zero]
        repeat (go_big_quiet_step (fail))
        refine wpQuiet_nil ?_
        refine steps_end ?_
        refine walkP_done ?_
        go_wp2_with fail
        go_ret
        rw [HB.out]
        exact ⟨rfl, ((Ext.refl w).drew.trans hE2).alloc _⟩
theorem ref_int (n : Int) (w : World) (h1 : -9223372036854775808 ≤ n) (h2 : n ≤ 9223372036854775807) : Calls Try.prog 70 #[.int .i64 n] w fun e w' => e = .returned (.string (strOf (numB (zigN n)))) ∧ Ext w w' := by
  have hz := zigN_lt h1 h2
  have hr := fun X => ref_num (zigN n) X hz
  rcases (show 0 ≤ n ∨ n < 0 by omega) with h | h
  · have e : ((zigN n : Nat) : Int) = n * 2 := by unfold zigN; rw [if_pos h]; omega
    rw [e] at hr
    have R := Lib.hid hr
    clear hr e
    generalize numB (zigN n) = m at *
    go_enter Try.func70, Try.ntmps70
    go_wp2_with fail
    refine (R.out _).mono ?_
    rintro e w2 ⟨rfl, hE2⟩
    go_wp2_with fail
    go_ret
    exact ⟨rfl, hE2⟩
  · have e : ((zigN n : Nat) : Int) = -(n + 1) * 2 + 1 := by unfold zigN; rw [if_neg (by omega)]; omega
    rw [e] at hr
    have R := Lib.hid hr
    clear hr e
    generalize numB (zigN n) = m at *
    go_enter Try.func70, Try.ntmps70
    go_wp2_with fail
    refine (R.out _).mono ?_
    rintro e w2 ⟨rfl, hE2⟩
    go_wp2_with fail
    go_ret
    exact ⟨rfl, hE2⟩
theorem ref_text (l : List UInt8) (w : World) (h : l.length ≤ 70368744170000) : Calls Try.prog 54 #[.string (strOf l)] w fun e w' => e = .returned (.string (strOf (numB l.length ++ l))) ∧ Ext w w' := by
  have hsz := strOf_size l
  have hnl := numB_len (n := l.length) (by omega)
  have hadd := str_add (numB l.length) l (by omega)
  have hr := fun X => ref_num l.length X (by omega)
  have R := Lib.hid hr
  clear hr
  generalize numB l.length = m at *
  have hsb : (strOf l).size ≤ 70368744170000 := by omega
  go_enter Try.func54, Try.ntmps54
  go_wp2_with fail
  refine (R.out _).mono ?_
  rintro e w2 ⟨rfl, hE2⟩
  go_wp2_with fail
  go_ret
  exact ⟨rfl, hE2⟩
def fix4 (n : Nat) : List UInt8 := [UInt8.ofNat n, UInt8.ofNat (n / 256), UInt8.ofNat (n / 65536), UInt8.ofNat (n / 16777216)]
theorem ofNat_mod (n : Nat) : UInt8.ofNat (n % 256) = UInt8.ofNat n := by
  apply UInt8.toNat_inj.1; simp
end Go.Proofs.Ytkkhcpknldlpoaa

namespace Go.Proofs.Ytkkhcpknldlpoaa
set_option maxRecDepth 4000
set_option linter.unusedVariables false
set_option linter.unusedSimpArgs false
open Go Go.RowKit
theorem lit1k (k : Int) (w X : World) (hE : Ext (w.alloc (.cells #[.int .u8 (k % 256)] 5)) X) : (convert 30 9 (.slice (some ⟨w.heap.size, 0, none⟩) 1 1)).run Try.prog X = .ok (.string (strOf [kindB k])) X :=
  lit1_conv2 (k % 256).toNat (k % 256) (by omega) (by omega) w X hE
def RbRel (W1 : World) (v : Vl) (s k : Value) (wr : World) : Prop :=
  ∃ i : Nat, k = .int .i64 i ∧ i ≤ v.l.vals.length ∧ s = .string (strOf ([kindB v.k] ++ numB v.l.len ++ (v.l.vals.take i).flatMap Vl.bytes)) ∧ Ext W1 wr
theorem rbytes_n : ∀ (m : Nat) (v : Vl), v.l.size < m → ∀ (W : World) (pl : Option Addr) (c : Nat), VlAt W pl c v → v.ok → v.bytes.length ≤ 70368744170000 →
    Calls Try.prog 53 #[.agg (v.cells pl c).toArray] W fun e W' => e = .returned (.string (strOf v.bytes)) ∧ Ext W W'
  | 0, _, h => by omega
  | m + 1, v, hm => by
    intro W pl c hV hok hlen
    obtain ⟨hk, hn, hlo⟩ := hok
    have ih := rbytes_n m
    have hbe := v.bytes_eq
    have hE1 := ext_alloc W (.cells (v.cells pl c).toArray 62)
    have hbl := Blk.new W 62 (v.cells pl c).toArray
    have hV1 := hV.ext hE1
    generalize hW1 : W.alloc (.cells (v.cells pl c).toArray 62) = W1 at *
    have hE2 := ext_alloc W1 (.cells #[.int .u8 (v.k % 256)] 5)
    have hcv := lit1k v.k W1 _ (Ext.refl _)
    have hz : W1.heap.size = W.heap.size + 1 := by rw [← hW1]; simp
    rw [hz] at hcv
    simp only [Vl.cells] at hbl hW1
    go_enter Try.func53, Try.ntmps53
    simp only [Vl.cells]
    have b0 : W1.cell? ⟨W.heap.size, 0, none⟩ = some (.int .i64 v.k) := hbl.cell 0
    go_upto_region 2 with fail
    clear hcv
    generalize hbx : W.heap.size = bx at *
    clear hW1 b0
    have hblt := hbl.lt
    generalize hW2 : W1.alloc _ = W2 at *
    have b0 : W2.cell? ⟨bx, 0, none⟩ = some (.int .i64 v.k) := (hE2.cell _ _ hblt).trans (hbl.cell 0)
    have b1 : W2.cell? ⟨bx, 1, none⟩ = some (.int .i64 v.n) := (hE2.cell _ _ hblt).trans (hbl.cell 1)
    have b2 : W2.cell? ⟨bx, 2, none⟩ = some (.string ⟨v.s.toArray⟩) := (hE2.cell _ _ hblt).trans (hbl.cell 2)
    have b3 : W2.cell? ⟨bx, 3, none⟩ = some (.slice pl v.l.len c) := (hE2.cell _ _ hblt).trans (hbl.cell 3)
    have hE12 : Ext W W2 := hE1.trans hE2
    have hV2 := hV1.ext hE2
    have hlt2 : bx < W2.heap.size := Nat.lt_of_lt_of_le hblt hE2.le
    clear hE1 hE2 hV hV1 hbl hblt hW2
    by_cases k1 : v.k = 1
    · rw [if_pos k1] at hbe
      have HBE := Lib.hid hbe
      have e1 : (v.k == 1) = true := by simpa using k1
      rw [hbe] at hlen
      simp only [List.length_cons] at hlen
      have hadd := str_add [kindB v.k] (numB (zigN v.n)) (by simp; omega)
      have R := Lib.hid (fun X => ref_int v.n X hn.1 hn.2)
      clear hbe k1
      generalize numB (zigN v.n) = nb at *
      go_wp2_with fail
      refine (R.out _).mono ?_
      rintro e w3 ⟨rfl, hE3⟩
      go_wp2_with fail
      go_returns
      rw [HBE.out]
      exact ⟨rfl, hE12.trans hE3⟩
    have e1 : (v.k == 1) = false := by simpa using k1
    rw [if_neg k1] at hbe
    by_cases k2 : v.k = 2
    · rw [if_pos k2] at hbe
      have HBE := Lib.hid hbe
      have e2 : (v.k == 2) = true := by simpa using k2
      rw [hbe] at hlen
      simp only [List.length_cons, List.length_append] at hlen
      have hadd := str_add [kindB v.k] (numB v.s.length ++ v.s) (by simp; omega)
      have R := Lib.hid (fun X => ref_text v.s X (by omega))
      clear hbe k2 k1
      generalize numB v.s.length ++ v.s = nb at *
      go_wp2_with fail
      refine (R.out _).mono ?_
      rintro e w3 ⟨rfl, hE3⟩
      go_wp2_with fail
      go_returns
      rw [HBE.out]
      exact ⟨rfl, hE12.trans hE3⟩
    have e2 : (v.k == 2) = false := by simpa using k2
    rw [if_neg k2] at hbe
    by_cases k3 : v.k = 3
    case neg =>
      rw [if_neg k3] at hbe
      have HBE := Lib.hid hbe
      have e3 : (v.k == 3) = false := by simpa using k3
      clear hbe k3 k2 k1
      go_wp2_with fail
      go_returns
      rw [HBE.out]
      exact ⟨rfl, hE12⟩
    rw [if_pos k3] at hbe
    have HBE := Lib.hid hbe
    have e3 : (v.k == 3) = true := by simpa using k3
    have hvl := v.l.vals_len
    have hbv := v.l.bytes_vals
    rw [hbe] at hlen
    simp only [List.length_cons, List.length_append] at hlen
    have hcm := hV2.cap
    have hcl := hV2.len
    unfold Go.maxLen at hcm
    have hadd := str_add [kindB v.k] (numB v.l.len) (by simp; omega)
    have R := Lib.hid (fun X => ref_num v.l.len X (by omega))
    clear hbe k1 k2 k3
    have hnb : (numB v.l.len).length ≤ 10 := numB_len (by omega)
    have hpre : ([kindB v.k] ++ numB v.l.len).length ≤ 11 := by simp; omega
    go_wp2_with fail
    refine (R.out _).mono ?_
    rintro e w3 ⟨rfl, hE3⟩
    have b3' : w3.cell? ⟨bx, 3, none⟩ = some (.slice pl v.l.len c) := (hE3.cell _ _ hlt2).trans b3
    have hE13 := hE12.trans hE3
    have hV3 := hV2.ext hE3
    have hlt3 : bx < w3.heap.size := Nat.lt_of_lt_of_le hlt2 hE3.le
    clear b0 b1 b2 b3 hE3 hE12 hV2 hlt2
    go_wp2_with fail
    go_loopw [3, 4] (fun s k wr => RbRel w3 v s k wr) (fun _ k _ => ((v.l.len : Int) + 1 - intOf k).toNat)
    case atStart => exact ⟨0, rfl, by omega, by simp, Ext.refl _⟩
    case round =>
      obtain ⟨i, rfl, hi, rfl, hE4⟩ := hrel
      have b3 : wr.cell? ⟨bx, 3, none⟩ = some (.slice pl v.l.len c) := (hE4.cell _ _ hlt3).trans b3'
      by_cases hlt : i < v.l.vals.length
      · obtain ⟨b, o, q2, c2, rfl, hV5, d0, d1, d2, d3⟩ := hV3.fo.get i hlt
        have hmem := List.getElem_mem hlt
        have hsz := Fo.size_mem hmem
        have okx := Fo.vals_ok hlo _ hmem
        have hfl := flat_le hlt rfl
        have hts : (v.l.vals.take (i + 1)).flatMap Vl.bytes = (v.l.vals.take i).flatMap Vl.bytes ++ v.l.vals[i].bytes := by
          rw [List.take_succ_eq_append_getElem hlt, List.flatMap_append, List.flatMap_cons, List.flatMap_nil, List.append_nil]
        have HTS := Lib.hid hts
        clear hts
        rw [← hbv] at hfl
        generalize v.l.vals[i] = x at *
        replace d0 := cell_ext hE4 d0
        replace d1 := cell_ext hE4 d1
        replace d2 := cell_ext hE4 d2
        replace d3 := cell_ext hE4 d3
        rw [Nat.zero_add, Nat.mul_comm 4 i] at d0 d1 d2 d3
        have i7 : (i : Int) < v.l.len := by omega
        have hc := Lib.hid (ih x (by omega) wr q2 c2 (hV5.ext hE4) okx (by omega))
        have hadd2 := str_add ([kindB v.k] ++ numB v.l.len ++ (v.l.vals.take i).flatMap Vl.bytes) x.bytes (by simp only [List.length_append] at hpre ⊢; omega)
        generalize hl : [kindB v.k] ++ numB v.l.len ++ (v.l.vals.take i).flatMap Vl.bytes = l at *
        have HL := Lib.hid hl
        clear hl
        generalize x.bytes = xb at *
        simp only [Vl.cells] at hc
        clear hV5 hmem hsz okx hfl
        go_wp2_with fail
        refine hc.out.mono ?_
        rintro e w4 ⟨rfl, hE5⟩
        clear d0 d1 d2 d3 b3
        go_wp2_with fail
        refine ⟨⟨i + 1, by go_num, by omega, ?_, hE4.trans hE5⟩, by simp [intOf]; omega⟩
        rw [HTS.out, ← List.append_assoc, HL.out]
      · have hi' : i = v.l.vals.length := by omega
        have i7 : ¬ (i : Int) < v.l.len := by omega
        generalize hl : [kindB v.k] ++ numB v.l.len ++ (v.l.vals.take i).flatMap Vl.bytes = l at *
        have HL := Lib.hid hl
        clear hl
        go_wp2_with fail
        go_returns
        refine ⟨?_, hE13.trans hE4⟩
        rw [HBE.out, hbv, ← HL.out, hi', List.take_of_length_le (Nat.le_refl _)]
        simp
end Go.Proofs.Ytkkhcpknldlpoaa

namespace Go.Proofs.Ytkkhcpknldlpoaa
set_option maxRecDepth 4000
set_option linter.unusedVariables false
set_option linter.unusedSimpArgs false
open Go Go.RowKit
theorem flat_len {α : Type} {f : α → List UInt8} {c : Nat} : ∀ {l : List α}, (∀ x ∈ l, (f x).length ≤ c) → (l.flatMap f).length ≤ l.length * c
  | [], _ => by simp
  | x :: r, h => by
    have h1 := h x (by simp)
    have h2 := flat_len (l := r) (c := c) fun y hy => h y (by simp [hy])
    rw [List.flatMap_cons, List.length_append, List.length_cons, Nat.add_mul]
    omega
theorem flat_take {α : Type} {f : α → List UInt8} {c i : Nat} {l : List α} (h : ∀ x ∈ l, (f x).length ≤ c) : ((l.take i).flatMap f).length ≤ l.length * c := by
  have h1 := flat_len (l := l.take i) (c := c) (f := f) fun x hx => h x (List.mem_of_mem_take hx)
  have h2 : (l.take i).length * c ≤ l.length * c := Nat.mul_le_mul_right _ (by rw [List.length_take]; omega)
  omega
theorem check_bytes {v : Vl} (h : v.check = 0) : v.bytes.length ≤ 512 := by
  unfold Vl.check at h
  split at h
  · rename_i h1; exact absurd h h1
  · split at h
    · exact absurd h (by decide)
    · omega
theorem take_flat {α : Type} {f : α → List UInt8} {l : List α} {i : Nat} (h : i < l.length) : (l.take (i + 1)).flatMap f = (l.take i).flatMap f ++ f l[i] := by
  rw [List.take_succ_eq_append_getElem h, List.flatMap_append, List.flatMap_cons, List.flatMap_nil, List.append_nil]
theorem instrB_len {c : Int × Int} (h : c.2 < 513) : (instrB c).length ≤ 11 := by
  unfold instrB
  have : (numB c.2.toNat).length ≤ 10 := numB_len (by omega)
  split <;> simp <;> omega
theorem nameB_len {s : List UInt8} (h : s.length ≤ 64) : (nameB s).length ≤ 74 := by
  unfold nameB
  have : (numB s.length).length ≤ 10 := numB_len (by omega)
  simp; omega
def SRel {α : Type} (W1 : World) (pre : List UInt8) (f : α → List UInt8) (l : List α) (s k : Value) (wr : World) : Prop :=
  ∃ i : Nat, k = .int .i64 i ∧ i ≤ l.length ∧ s = .string (strOf (pre ++ (l.take i).flatMap f)) ∧ Ext W1 wr
theorem sstart {α : Type} {W1 wr : World} {pre : List UInt8} {f : α → List UInt8} {l : List α} (h : Ext W1 wr) : SRel W1 pre f l (.string (strOf pre)) (.int .i64 0) wr := ⟨0, rfl, Nat.zero_le _, by simp, h⟩
set_option maxHeartbeats 4000000 in
theorem rimbytes_any (p : Im) (a : Ip) (W : World) (hI : ImAt W a p) (hok : p.ok) (hc : p.check = 0) :
    Calls Try.prog 16 #[.agg (p.cells a).toArray] W fun e W' => e = .returned (.string (strOf p.bytes)) ∧ Ext W W' := by
  have hf := Im.fine hc
  obtain ⟨pc, cc, pk, ck, pn, cn⟩ := a
  obtain ⟨code, consts, names, places⟩ := p
  obtain ⟨f1, f2, f3, f4, f5, f6, f7⟩ := hf
  simp only at f1 f2 f3 f4 f5 f6 f7
  obtain ⟨pl, rfl⟩ := Int.eq_ofNat_of_zero_le f4.1
  have hbt : Im.bytes ⟨code, consts, names, (pl : Int)⟩ = (((numB pl ++ numB consts.len) ++ consts.vals.flatMap Vl.bytes ++ numB names.length) ++ names.flatMap nameB ++ numB code.length) ++ code.flatMap instrB := by
    unfold Im.bytes
    simp only [Int.toNat_natCast, List.append_assoc]
  have HBT := Lib.hid hbt
  have hE1 := ext_alloc W (.cells (Im.cells ⟨code, consts, names, (pl : Int)⟩ ⟨pc, cc, pk, ck, pn, cn⟩).toArray 26)
  have hbl := Blk.new W 26 (Im.cells ⟨code, consts, names, (pl : Int)⟩ ⟨pc, cc, pk, ck, pn, cn⟩).toArray
  have hI1 := hI.ext hE1
  obtain ⟨hIc, hIo, hIk, hIn, hIq⟩ := hI1
  simp only at hIc hIo hIn hIq
  simp only [Im.cells] at hE1 hbl hIc hIo hIk hIn hIq
  clear hbt hI
  go_enter Try.func16, Try.ntmps16
  simp only [Im.cells]
  go_upto_region 1 with fail
  generalize World.alloc _ _ = W1 at *
  generalize W.heap.size = bx at *
  have b0 : W1.cell? ⟨bx, 0, none⟩ = some (.slice pc code.length cc) := hbl.cell 0
  have b1 : W1.cell? ⟨bx, 1, none⟩ = some (.slice pk consts.len ck) := hbl.cell 1
  have b2 : W1.cell? ⟨bx, 2, none⟩ = some (.slice pn names.length cn) := hbl.cell 2
  have y1 : ∀ z : ExtOf W1, z.val.cell? ⟨bx, 1, none⟩ = some (.slice pk consts.len ck) := fun z => (z.property.cell _ _ hbl.lt).trans (hbl.cell 1)
  have y3 : ∀ z : ExtOf W1, z.val.cell? ⟨bx, 3, none⟩ = some (.int .i64 pl) := fun z => (z.property.cell _ _ hbl.lt).trans (hbl.cell 3)
  have hlt1 := hbl.lt
  clear hbl
  have n1 : (numB pl).length ≤ 10 := numB_len (by omega)
  have n2 : (numB consts.len).length ≤ 10 := numB_len (by omega)
  have n3 : (numB names.length).length ≤ 10 := numB_len (by omega)
  have n4 : (numB code.length).length ≤ 10 := numB_len (by omega)
  have m1 := flat_len (l := consts.vals) (f := Vl.bytes) (c := 512) fun v hv => check_bytes (f5 v hv)
  have m2 := flat_len (l := names) (f := nameB) (c := 74) fun v hv => nameB_len (f6 v hv)
  rw [Fo.vals_len] at m1
  have hvl := consts.vals_len
  have R1 : ∀ z : ExtOf W1, Calls Try.prog 52 #[.int .u64 pl] z.val fun e W' => e = .returned (.string (strOf (numB pl))) ∧ ∃ y : ExtOf W1, W' = y.val := fun z => quiet_ext (ref_num pl z.val (by omega))
  have R2 : ∀ z : ExtOf W1, Calls Try.prog 52 #[.int .u64 consts.len] z.val fun e W' => e = .returned (.string (strOf (numB consts.len))) ∧ ∃ y : ExtOf W1, W' = y.val := fun z => quiet_ext (ref_num consts.len z.val (by omega))
  have hadd := str_add (numB pl) (numB consts.len) (by omega)
  have hl1 : (numB pl ++ numB consts.len).length ≤ 20 := by rw [List.length_append]; omega
  generalize numB pl ++ numB consts.len = l1 at *
  generalize numB pl = npl at *
  have R3 := Lib.hid (fun X => ref_num names.length X (by omega))
  have R4 := Lib.hid (fun X => ref_num code.length X (by omega))
  refine region_ext (by kernel_rfl) (by kernel_rfl) ?_
  repeat (go_big_quiet_step (first | (with_reducible exact R1 _) | (with_reducible exact R2 _)))
  refine wpQuiet_nil ?_
  intro wq hq
  obtain ⟨xq, rfl⟩ := hq
  have hEq := xq.property
  generalize xq.val = wa at *
  clear y1 y3 R1 R2 hadd
  replace b0 := (hEq.cell _ _ hlt1).trans b0
  replace b1 := (hEq.cell _ _ hlt1).trans b1
  replace b2 := (hEq.cell _ _ hlt1).trans b2
  have hEa := hE1.trans hEq
  have hlta : bx < wa.heap.size := Nat.lt_of_lt_of_le hlt1 hEq.le
  replace hIc := hIc.keep fun k _ hl => hEq.block k hl
  replace hIk := hIk.keep fun k _ hl => hEq.block k hl
  replace hIn := hIn.keep fun k _ hl => hEq.block k hl
  clear hEq hE1 hlt1
  go_wp2_with fail
  go_loopw [3, 4] (fun s k wr => SRel wa l1 Vl.bytes consts.vals s k wr) (fun _ k _ => ((consts.len : Int) + 1 - intOf k).toNat)
  case atStart => exact sstart (Ext.refl _)
  case round =>
    obtain ⟨i, rfl, hi, rfl, hE2⟩ := hrel
    have d0' := (hE2.cell _ _ hlta).trans b0
    have d1' := (hE2.cell _ _ hlta).trans b1
    have d2' := (hE2.cell _ _ hlta).trans b2
    by_cases hlt : i < consts.vals.length
    · obtain ⟨b, o, q2, c2, hq, hV2, d0, d1, d2, d3⟩ := hIk.at.fo.get i hlt
      have hmem := List.getElem_mem hlt
      have okx := Fo.vals_ok hok.consts _ hmem
      have hbx := check_bytes (f5 _ hmem)
      have hts := take_flat (f := Vl.bytes) hlt
      have HTS := Lib.hid hts
      have hfl := flat_take (l := consts.vals) (f := Vl.bytes) (c := 512) (i := i) fun v hv => check_bytes (f5 v hv)
      rw [hvl] at hfl
      simp only at hq hV2 d0 d1 d2 d3
      subst hq
      clear hts
      generalize consts.vals[i] = x at *
      replace d0 := cell_ext hE2 d0
      replace d1 := cell_ext hE2 d1
      replace d2 := cell_ext hE2 d2
      replace d3 := cell_ext hE2 d3
      rw [Nat.zero_add, Nat.mul_comm 4 i] at d0 d1 d2 d3
      have i7 : (i : Int) < consts.len := by omega
      have hc := Lib.hid (rbytes_n _ x (Nat.lt_succ_self _) wr q2 c2 (hV2.ext hE2) okx (by omega))
      have hadd2 := str_add (l1 ++ (consts.vals.take i).flatMap Vl.bytes) x.bytes (by rw [List.length_append]; omega)
      generalize hl : l1 ++ (consts.vals.take i).flatMap Vl.bytes = l at *
      have HL := Lib.hid hl
      clear hl
      generalize x.bytes = xb at *
      simp only [Vl.cells] at hc
      clear hV2 hmem okx hbx hfl
      go_wp2_with fail
      refine hc.out.mono ?_
      rintro e w4 ⟨rfl, hE5⟩
      clear d0 d1 d2 d3 d0' d1' d2'
      go_wp2_with fail
      refine ⟨⟨i + 1, by go_num, by omega, ?_, hE2.trans hE5⟩, by simp [intOf]; omega⟩
      rw [HTS.out, ← List.append_assoc, HL.out]
    · have hi' : i = consts.vals.length := by omega
      have i7 : ¬ (i : Int) < consts.len := by omega
      rw [hi', List.take_of_length_le (Nat.le_refl _)]
      have hl2 : (l1 ++ consts.vals.flatMap Vl.bytes).length ≤ 40000 := by rw [List.length_append]; omega
      generalize l1 ++ consts.vals.flatMap Vl.bytes = l2 at *
      have hadd := str_add l2 (numB names.length) (by omega)
      have hi2 : (i : Int) = consts.len := by omega
      generalize hii : (consts.vals.length : Int) = ii at *
      have i7' : ¬ ii < consts.len := by omega
      clear hi' i7 hi2 hi hii
      go_wp2_with fail
      refine (R3.out _).mono ?_
      rintro e w4 ⟨rfl, hE3⟩
      have hl3 : (l2 ++ numB names.length).length ≤ 40010 := by rw [List.length_append]; omega
      generalize l2 ++ numB names.length = l3 at *
      have hE23 := hE2.trans hE3
      have b0' := (hE23.cell _ _ hlta).trans b0
      have b2' := (hE23.cell _ _ hlta).trans b2
      have hltb : bx < w4.heap.size := Nat.lt_of_lt_of_le hlta hE23.le
      clear d0' d1' d2' b0 b1 b2 hE2 hE3 R3 i7'
      generalize numB names.length = nn at *
      go_wp2_with fail
      have hIc2 := hIc.keep fun k _ hl => hE23.block k hl
      have hIn2 := hIn.keep fun k _ hl => hE23.block k hl
      have hEb := hEa.trans hE23
      clear hIc hIn hIk hE23 hEa hlta
      have R5 := Lib.hid (fun (x : List UInt8) (h : x.length ≤ 64) X => ref_text x X (by omega))
      generalize wr = wz at *
      go_loopw [3, 5] (fun s k wr => SRel w4 l3 nameB names s k wr) (fun _ k _ => ((names.length : Int) + 1 - intOf k).toNat)
      case atStart => exact sstart (Ext.refl _)
      case round =>
        obtain ⟨i, rfl, hi, rfl, hE2⟩ := hrel
        have d0' := (hE2.cell _ _ hltb).trans b0'
        have d2' := (hE2.cell _ _ hltb).trans b2'
        by_cases hlt : i < names.length
        · obtain ⟨b, o, hq, _, d0⟩ := hIn2 i hlt
          have hmem := List.getElem_mem hlt
          have hlx := f6 _ hmem
          have hts := take_flat (f := nameB) hlt
          have HTS := Lib.hid hts
          have hfl := flat_take (l := names) (f := nameB) (c := 74) (i := i) fun v hv => nameB_len (f6 v hv)
          subst hq
          clear hts
          generalize names[i] = x at *
          replace d0 := cell_ext hE2 d0
          have i7 : (i : Int) < names.length := by omega
          have hc := Lib.hid (R5.out x hlx wr)
          have hxl := nameB_len hlx
          have hadd2 := str_add (l3 ++ (names.take i).flatMap nameB) (nameB x) (by rw [List.length_append]; omega)
          generalize hl : l3 ++ (names.take i).flatMap nameB = l at *
          have HL := Lib.hid hl
          clear hl
          have hnb : numB x.length ++ x = nameB x := rfl
          rw [hnb] at hc
          clear hnb
          generalize nameB x = xb at *
          clear hmem hlx hfl
          go_wp2_with fail
          refine hc.out.mono ?_
          rintro e w5 ⟨rfl, hE5⟩
          clear d0 d0' d2'
          go_wp2_with fail
          refine ⟨⟨i + 1, by go_num, by omega, ?_, hE2.trans hE5⟩, by simp [intOf]; omega⟩
          rw [HTS.out, ← List.append_assoc, HL.out]
        · have hi' : i = names.length := by omega
          have i7 : ¬ (i : Int) < names.length := by omega
          rw [hi', List.take_of_length_le (Nat.le_refl _)]
          have hl4 : (l3 ++ names.flatMap nameB).length ≤ 50000 := by rw [List.length_append]; omega
          generalize l3 ++ names.flatMap nameB = l4 at *
          have hadd := str_add l4 (numB code.length) (by omega)
          clear hi' i7 hi
          have i7' : ¬ (names.length : Int) < names.length := by omega
          go_wp2_with fail
          refine (R4.out _).mono ?_
          rintro e w6 ⟨rfl, hE3⟩
          have hl5 : (l4 ++ numB code.length).length ≤ 50010 := by rw [List.length_append]; omega
          generalize l4 ++ numB code.length = l5 at *
          have hE23 := hE2.trans hE3
          have b0 := (hE23.cell _ _ hltb).trans b0'
          have hltc : bx < w6.heap.size := Nat.lt_of_lt_of_le hltb hE23.le
          have hIc := hIc2.keep fun k _ hl => hE23.block k hl
          have hEc := hEb.trans hE23
          clear d0' d2' b0' b2' hE2 hE3 R4 R5 i7' hIc2 hIn2 hE23 hEb hltb
          generalize numB code.length = nc at *
          go_wp2_with fail
          generalize wr = wy at *
          go_loopw [3, 6] (fun s k wr => SRel w6 l5 instrB code s k wr) (fun _ k _ => ((code.length : Int) + 1 - intOf k).toNat)
          case atStart => exact sstart (Ext.refl _)
          case round =>
            obtain ⟨i, rfl, hi, rfl, hE2⟩ := hrel
            have d0' := (hE2.cell _ _ hltc).trans b0
            by_cases hlt : i < code.length
            · obtain ⟨b, o, hq, _, d0, d1⟩ := hIc i hlt
              have hmem := List.getElem_mem hlt
              obtain ⟨g1, g2, g3⟩ := f7 _ hmem
              have hts := take_flat (f := instrB) hlt
              have HTS := Lib.hid hts
              have hfl := flat_take (l := code) (f := instrB) (c := 11) (i := i) fun v hv => instrB_len (f7 v hv).2.2
              subst hq
              clear hts
              generalize code[i] = x at *
              obtain ⟨op, av⟩ := x
              simp only at g1 g2 g3 d0 d1
              obtain ⟨n, rfl⟩ := Int.eq_ofNat_of_zero_le g2
              replace d0 := cell_ext hE2 d0
              replace d1 := cell_ext hE2 d1
              rw [Nat.mul_comm 2 i] at d0 d1
              have i7 : (i : Int) < code.length := by omega
              have hcv := fun X hE => lit1k op (wr.alloc (.cells #[.int .i64 op, .int .i64 n] 52)) X hE
              have hz : (wr.alloc (.cells #[.int .i64 op, .int .i64 n] 52)).heap.size = wr.heap.size + 1 := by simp
              rw [hz] at hcv
              have hcv2 := hcv _ (Ext.refl _)
              generalize hl : l5 ++ (code.take i).flatMap instrB = l at *
              have HL := Lib.hid hl
              have hll : l.length ≤ 60000 := by rw [← hl, List.length_append]; omega
              clear hl hcv hz
              have hadd1 := str_add l [kindB op] (by simp; omega)
              have hE5 := hE2.trans ((ext_alloc wr (.cells #[.int .i64 op, .int .i64 n] 52)).alloc (.cells #[.int .u8 (op % 256)] 5))
              have hS := fun X => roperand_any g1 X
              have hib : instrB (op, (n : Int)) = kindB op :: if opnd op ≠ 0 then numB n else [] := rfl
              have RN := Lib.hid (fun X => ref_num n X (by omega))
              have hnl : (numB n).length ≤ 10 := numB_len (by omega)
              have hadd2 := str_add (l ++ [kindB op]) (numB n) (by simp; omega)
              have HS := Lib.hid hS
              have G1 := Lib.hid g1
              generalize kindB op = kb at *
              clear hS hmem g1 g2 hfl
              by_cases hk : opnd op = 0
              · rw [hk] at HS
                rw [if_neg (fun h => h hk)] at hib
                have HIB := Lib.hid hib
                clear hib hk
                go_wp2_with fail
                refine (HS.out _).mono ?_
                rintro e w7 ⟨rfl, rfl⟩
                go_wp2_with fail
                refine ⟨⟨i + 1, by go_num, by omega, ?_, hE5⟩, by simp [intOf]; omega⟩
                rw [HTS.out, ← List.append_assoc, HL.out, HIB.out]
              · rw [if_pos hk] at hib
                have HIB := Lib.hid hib
                have hsg : ((signOf (opnd op) : Nat) : Int) ≠ 45 := by
                  have := opnd_le op
                  unfold signOf
                  split
                  · decide
                  split
                  · decide
                  split
                  · decide
                  split
                  · decide
                  split
                  · decide
                  · omega
                generalize signOf (opnd op) = sg at *
                have hsg1 : ((sg : Int) != 45) = true := by simp [hsg]
                have hsg2 : ((sg : Int) == 45) = false := by simp [hsg]
                clear hib hk hsg
                go_wp2_with fail
                refine (HS.out _).mono ?_
                rintro e w7 ⟨rfl, rfl⟩
                go_wp2_with fail
                refine (RN.out _).mono ?_
                rintro e w8 ⟨rfl, hE8⟩
                clear d0 d1 d0' hcv2
                go_wp2_with fail
                refine ⟨⟨i + 1, by go_num, by omega, ?_, hE5.trans hE8⟩, by simp [intOf]; omega⟩
                rw [HTS.out, ← List.append_assoc, HL.out, HIB.out]
                first | done | simp
            · have hi' : i = code.length := by omega
              have i7 : ¬ (i : Int) < code.length := by omega
              rw [hi', List.take_of_length_le (Nat.le_refl _)]
              generalize hl6 : l5 ++ code.flatMap instrB = l6 at *
              have HL6 := Lib.hid hl6
              clear hi' i7 hi hl6
              have i7' : ¬ (code.length : Int) < code.length := by omega
              go_wp2_with fail
              go_returns
              refine ⟨?_, hEc.trans hE2⟩
              rw [HBT.out]; rfl
end Go.Proofs.Ytkkhcpknldlpoaa

namespace Go.Proofs.Ytkkhcpknldlpoaa
set_option maxRecDepth 4000
set_option linter.unusedVariables false
set_option linter.unusedSimpArgs false
open Go Go.RowKit
theorem numsAt_lit2 (k : IntKind) (w : World) (x y : Int) (t : TypeId) : NumsAt k (w.alloc (.cells #[.int k x, .int k y] t)) (some ⟨w.heap.size, 0, none⟩) [x, y] := by
  intro i hi
  have h : (w.alloc (.cells #[.int k x, .int k y] t)).heap[w.heap.size]? = some (.cells #[.int k x, .int k y] t (0, 0)) := heap_alloc_new w _
  refine ⟨_, rfl, by simp, ?_⟩
  rw [Go.WideShapes.add_plain, cell_of_row _ _ _ _ t (0, 0) h]
  have : i = 0 ∨ i = 1 := by simp at hi; omega
  rcases this with rfl | rfl <;> rfl
theorem wnum_lit2 {W : World} {q : Nat} {l : List UInt8} {F : Nat → Prop} (h : wA q l W F) (n m : Nat) (t : TypeId) (hn : n < 18446744073709551616) (hm : m < 18446744073709551616) (hlen : l.length + 20 ≤ 70368744177664) :
    Calls Try.prog 38 #[.pointer (some ⟨q, 0, none⟩), .slice (some ⟨W.heap.size, 0, none⟩) 2 2] (W.alloc (.cells #[.int .u64 n, .int .u64 m] t)) fun e W' => e = .returned (.tuple #[]) ∧ Next F W W' (wA q (l ++ (numB n ++ numB m))) := by
  have hl := wA_loc q l
  have h2 := hl.ext h (ext_alloc W (.cells #[.int .u64 n, .int .u64 m] t))
  refine (wnum_any h2 (some ⟨W.heap.size, 0, none⟩) 2 [n, m] (numsAt_lit2 .u64 W n m t) (fun a ha hf => ?_) (by intro k hk; simp at hk; omega) (by simpa using hlen)).mono ?_
  · injection ha with ha
    subst ha
    exact Nat.lt_irrefl _ (hl.lt h hf)
  · rintro e W' ⟨rfl, hN⟩
    exact ⟨rfl, by simpa using Next.ext_left (ext_alloc _ _) hN⟩
def EncIs (W : World) (p : Im) (e : Ending) (W' : World) : Prop :=
  (∃ v, e = .returned (.tuple #[v, .int .i64 p.check]) ∧ (p.check = 0 → W'.ownsRow W.heap.size 5 1 v p.bytes.length (u8s p.bytes)) ∧ (p.check ≠ 0 → v = .slice none 0 0)) ∧ Ext W W'
def ERel {α : Type} (W : World) (q bx : Nat) (cs : Array Value) (pre : List UInt8) (f : α → List UInt8) (l : List α) (k : Value) (wr : World) : Prop :=
  ∃ i : Nat, k = .int .i64 i ∧ i ≤ l.length ∧ Has W wr [wA q (pre ++ (l.take i).flatMap f), blkA bx 26 cs]
theorem estart {α : Type} {W wr : World} {q bx : Nat} {cs : Array Value} {pre : List UInt8} {f : α → List UInt8} {l : List α} (h : Has W wr [wA q pre, blkA bx 26 cs]) : ERel W q bx cs pre f l (.int .i64 0) wr :=
  ⟨0, rfl, Nat.zero_le _, by simpa using h⟩
set_option maxHeartbeats 4000000 in
theorem encode_any (p : Im) (a : Ip) (W : World) (hI : ImAt W a p) (hok : p.ok) (hb : ∀ v ∈ p.consts.vals, v.bytes.length ≤ 70368744170000) :
    Calls Try.prog 13 #[.agg (p.cells a).toArray] W fun e W' => EncIs W p e W' := by
  obtain ⟨pc, cc, pk, ck, pn, cn⟩ := a
  have H1 := (Has.nil (Ext.refl W)).new .nil 26 (p.cells ⟨pc, cc, pk, ck, pn, cn⟩).toArray
  have L1 : Locs [blkA W.heap.size 26 (p.cells ⟨pc, cc, pk, ck, pn, cn⟩).toArray] := .cons (blkA_loc _ _ _) .nil
  have hc := imcheck_any p _ _ (hI.ext H1.base) hok hb
  have HCK := Lib.hid hc
  have hbl := H1.blk0
  obtain ⟨hIc, hIo, hIk, hIn, hIq⟩ := hI
  simp only at hIc hIo hIk hIn hIq
  simp only [Im.cells] at HCK H1 hbl L1
  clear hc
  go_enter Try.func13, Try.ntmps13
  simp only [Im.cells]
  go_upto_region 1 with fail
  generalize World.alloc _ _ = W1 at *
  generalize hbx : W.heap.size = bx at *
  have b0 : W1.cell? ⟨bx, 0, none⟩ = some (.slice pc p.code.length cc) := hbl.cell 0
  have b1 : W1.cell? ⟨bx, 1, none⟩ = some (.slice pk p.consts.len ck) := hbl.cell 1
  have b2 : W1.cell? ⟨bx, 2, none⟩ = some (.slice pn p.names.length cn) := hbl.cell 2
  have b3 : W1.cell? ⟨bx, 3, none⟩ = some (.int .i64 p.places) := hbl.cell 3
  go_wp2_with fail
  refine HCK.out.mono ?_
  rintro e w2 ⟨rfl, hE2⟩
  have H2 := H1.ext L1 hE2
  clear b0 b1 b2 b3 hbl H1 HCK
  by_cases hce : p.check = 0
  case neg =>
    have hc1 : (p.check != 0) = true := by simp [hce]
    have hc2 : (p.check == 0) = false := by simp [hce]
    go_wp2_with fail
    go_returns
    exact ⟨⟨.slice none 0 0, rfl, fun h => absurd h hce, fun _ => rfl⟩, H2.base⟩
  have hf := Im.fine hce
  have HCE := Lib.hid hce
  obtain ⟨pl, hpl⟩ := Int.eq_ofNat_of_zero_le hf.nplaces.1
  have f1 := hf.ncode
  have f2 := hf.nconsts
  have f3 := hf.nnames
  have f4 := hf.nplaces
  have f5 := hf.consts
  have f6 := hf.names
  have f7 := hf.code
  have hbt : p.bytes = (((numB pl ++ numB p.consts.len) ++ p.consts.vals.flatMap Vl.bytes ++ numB p.names.length) ++ p.names.flatMap nameB ++ numB p.code.length) ++ p.code.flatMap instrB := by
    unfold Im.bytes
    rw [hpl]
    simp only [Int.toNat_natCast, List.append_assoc]
  have n1 : (numB pl).length ≤ 10 := numB_len (by omega)
  have n2 : (numB p.consts.len).length ≤ 10 := numB_len (by omega)
  have n3 : (numB p.names.length).length ≤ 10 := numB_len (by omega)
  have n4 : (numB p.code.length).length ≤ 10 := numB_len (by omega)
  have m1 := flat_len (l := p.consts.vals) (f := Vl.bytes) (c := 512) fun v hv => check_bytes (f5 v hv)
  have m2 := flat_len (l := p.names) (f := nameB) (c := 74) fun v hv => nameB_len (f6 v hv)
  have m3 := flat_len (l := p.code) (f := instrB) (c := 11) fun v hv => instrB_len (f7 v hv).2.2
  rw [Fo.vals_len] at m1
  have hvl := p.consts.vals_len
  have hc1 : (p.check != 0) = false := by simp [hce]
  have hc2 : (p.check == 0) = true := by simp [hce]
  have HBT := Lib.hid hbt
  have H3 := H2.writer L1
  have hbl := H3.swap.blk0
  have b1 : (w2.alloc (.cells #[.slice none 0 0] 78)).cell? ⟨bx, 1, none⟩ = some (.slice pk p.consts.len ck) := hbl.cell 1
  have b3 : (w2.alloc (.cells #[.slice none 0 0] 78)).cell? ⟨bx, 3, none⟩ = some (.int .i64 p.places) := hbl.cell 3
  rw [hpl] at b3
  have hpl0 := f4.2
  rw [hpl] at hpl0
  have HPL := Lib.hid hpl
  clear hce hbt hpl f4 H2 hbl
  have hnum := H3.act L1 fun F hF => wnum_lit2 hF pl p.consts.len 80 (by omega) (by omega) (by simp)
  rw [List.nil_append] at hnum
  have HNUM := Lib.hid hnum
  clear hnum hc2
  generalize hce2 : p.check = ce at hc1 ⊢
  clear hce2
  go_upto_region 5 with fail
  generalize hq : w2.heap.size = q at *
  generalize World.alloc w2 _ = w3 at *
  go_wp2_with fail
  refine HNUM.out.mono ?_
  rintro e w4 ⟨rfl, H4⟩
  clear HNUM H3 b1 b3 hq hE2
  have hl1 : (numB pl ++ numB p.consts.len).length ≤ 20 := by rw [List.length_append]; omega
  generalize numB pl ++ numB p.consts.len = l1 at *
  have b1 : w4.cell? ⟨bx, 1, none⟩ = some (.slice pk p.consts.len ck) := H4.swap.blk0.cell 1
  go_wp2_with fail
  clear b1
  go_loopw [31] (fun k wr => ERel W q bx #[.slice pc p.code.length cc, .slice pk p.consts.len ck, .slice pn p.names.length cn, .int .i64 p.places] l1 Vl.bytes p.consts.vals k wr) (fun k _ => ((p.consts.len : Int) + 1 - intOf k).toNat)
  case atStart => exact estart H4
  case round =>
    clear H4
    obtain ⟨i, rfl, hi, hX⟩ := hrel
    have LX : Locs [wA q (l1 ++ (p.consts.vals.take i).flatMap Vl.bytes), blkA bx 26 #[.slice pc p.code.length cc, .slice pk p.consts.len ck, .slice pn p.names.length cn, .int .i64 p.places]] := .cons (wA_loc _ _) L1
    by_cases hlt : i < p.consts.vals.length
    · obtain ⟨b, o, q2, c2, hq, hV2, d0, d1, d2, d3⟩ := hIk.at.fo.get i hlt
      have hmem := List.getElem_mem hlt
      have okx := Fo.vals_ok hok.consts _ hmem
      have hbx2 := check_bytes (f5 _ hmem)
      have hts := take_flat (f := Vl.bytes) hlt
      have HTS := Lib.hid hts
      have hfl := flat_take (l := p.consts.vals) (f := Vl.bytes) (c := 512) (i := i) fun v hv => check_bytes (f5 v hv)
      rw [hvl] at hfl
      simp only at hq hV2 d0 d1 d2 d3
      subst hq
      clear hts
      generalize p.consts.vals[i] = x at *
      replace d0 := cell_ext hX.base d0
      replace d1 := cell_ext hX.base d1
      replace d2 := cell_ext hX.base d2
      replace d3 := cell_ext hX.base d3
      rw [Nat.zero_add, Nat.mul_comm 4 i] at d0 d1 d2 d3
      have i7 : (i : Int) < p.consts.len := by omega
      have X2 := hX.ext LX (ext_alloc wr (.cells (x.cells q2 c2).toArray 62))
      have hc := Lib.hid (write_n _ x (Nat.lt_succ_self _) _ _ _ _ _ _ _ X2 L1 hV2 okx.1 okx.2.1 okx.2.2 (by rw [List.length_append]; omega))
      simp only [Vl.cells] at hc
      clear X2 LX hV2 hmem okx hbx2 hfl
      go_wp2_with fail
      refine hc.out.mono ?_
      rintro e w5 ⟨rfl, H5⟩
      clear hc d0 d1 d2 d3
      go_wp2_with fail
      refine ⟨⟨i + 1, by go_num, by omega, ?_⟩, by simp [intOf]; omega⟩
      rw [HTS.out, ← List.append_assoc]
      exact H5
    · have hi' : i = p.consts.vals.length := by omega
      rw [hi', List.take_of_length_le (Nat.le_refl _)] at hX
      have hl2 : (l1 ++ p.consts.vals.flatMap Vl.bytes).length ≤ 40000 := by rw [List.length_append]; omega
      generalize l1 ++ p.consts.vals.flatMap Vl.bytes = l2 at *
      have b2 : wr.cell? ⟨bx, 2, none⟩ = some (.slice pn p.names.length cn) := hX.swap.blk0.cell 2
      have hnum := Lib.hid (hX.act L1 fun F hF => wnum_lit hF p.names.length 80 (by omega) (by omega))
      generalize hii : (i : Int) = ii at *
      have i7 : ¬ ii < p.consts.len := by omega
      clear hi' hi LX hlt hii
      go_wp2_with fail
      refine hnum.out.mono ?_
      rintro e w5 ⟨rfl, H5⟩
      have hl3 : (l2 ++ numB p.names.length).length ≤ 40010 := by rw [List.length_append]; omega
      generalize l2 ++ numB p.names.length = l3 at *
      clear hnum hX b2
      have b2 : w5.cell? ⟨bx, 2, none⟩ = some (.slice pn p.names.length cn) := H5.swap.blk0.cell 2
      go_wp2_with fail
      clear b2 i7
      generalize wr = wz at *
      go_loopw [47] (fun k wr => ERel W q bx #[.slice pc p.code.length cc, .slice pk p.consts.len ck, .slice pn p.names.length cn, .int .i64 p.places] l3 nameB p.names k wr) (fun k _ => ((p.names.length : Int) + 1 - intOf k).toNat)
      case atStart => exact estart H5
      case round =>
        clear H5
        obtain ⟨i, rfl, hi, hX⟩ := hrel
        by_cases hlt : i < p.names.length
        · obtain ⟨b, o, hq, _, d0⟩ := hIn i hlt
          have hmem := List.getElem_mem hlt
          have hlx := f6 _ hmem
          have hts := take_flat (f := nameB) hlt
          have HTS := Lib.hid hts
          have hfl := flat_take (l := p.names) (f := nameB) (c := 74) (i := i) fun v hv => nameB_len (f6 v hv)
          subst hq
          clear hts
          generalize p.names[i] = x at *
          replace d0 := cell_ext hX.base d0
          have i7 : (i : Int) < p.names.length := by omega
          have hss : (⟨x.toArray⟩ : ByteArray).size = x.length := rfl
          have hc := Lib.hid (hX.act L1 fun F hF => wtext_any hF ⟨x.toArray⟩ (by rw [hss]; omega) (by rw [List.length_append]; omega))
          clear hmem hlx hfl
          go_wp2_with fail
          refine hc.out.mono ?_
          rintro e w6 ⟨rfl, H6⟩
          clear hc d0 hX
          go_wp2_with fail
          refine ⟨⟨i + 1, by go_num, by omega, ?_⟩, by simp [intOf]; omega⟩
          rw [HTS.out, ← List.append_assoc]
          exact H6
        · have hi' : i = p.names.length := by omega
          rw [hi', List.take_of_length_le (Nat.le_refl _)] at hX
          have hl4 : (l3 ++ p.names.flatMap nameB).length ≤ 50000 := by rw [List.length_append]; omega
          generalize l3 ++ p.names.flatMap nameB = l4 at *
          have b0 : wr.cell? ⟨bx, 0, none⟩ = some (.slice pc p.code.length cc) := hX.swap.blk0.cell 0
          have hnum := Lib.hid (hX.act L1 fun F hF => wnum_lit hF p.code.length 80 (by omega) (by omega))
          generalize hii : (i : Int) = jj at *
          have i7 : ¬ jj < p.names.length := by omega
          clear hi' hi hlt hii
          go_wp2_with fail
          refine hnum.out.mono ?_
          rintro e w6 ⟨rfl, H6⟩
          have hl5 : (l4 ++ numB p.code.length).length ≤ 50010 := by rw [List.length_append]; omega
          generalize l4 ++ numB p.code.length = l5 at *
          clear hnum hX b0
          have b0 : w6.cell? ⟨bx, 0, none⟩ = some (.slice pc p.code.length cc) := H6.swap.blk0.cell 0
          go_wp2_with fail
          clear b0 i7
          generalize wr = wy at *
          go_loopw [63] (fun k wr => ERel W q bx #[.slice pc p.code.length cc, .slice pk p.consts.len ck, .slice pn p.names.length cn, .int .i64 p.places] l5 instrB p.code k wr) (fun k _ => ((p.code.length : Int) + 1 - intOf k).toNat)
          case atStart => exact estart H6
          case round =>
            clear H6
            obtain ⟨i, rfl, hi, hX⟩ := hrel
            by_cases hlt : i < p.code.length
            · obtain ⟨b, o, hq, _, d0, d1⟩ := hIc i hlt
              have hmem := List.getElem_mem hlt
              obtain ⟨g1, g2, g3⟩ := f7 _ hmem
              have hts := take_flat (f := instrB) hlt
              have HTS := Lib.hid hts
              have hfl := flat_take (l := p.code) (f := instrB) (c := 11) (i := i) fun v hv => instrB_len (f7 v hv).2.2
              subst hq
              clear hts
              generalize p.code[i] = x at *
              obtain ⟨op, av⟩ := x
              simp only at g1 g2 g3 d0 d1
              obtain ⟨n, rfl⟩ := Int.eq_ofNat_of_zero_le g2
              replace d0 := cell_ext hX.base d0
              replace d1 := cell_ext hX.base d1
              rw [Nat.mul_comm 2 i] at d0 d1
              have i7 : (i : Int) < p.code.length := by omega
              have hll : (l5 ++ (p.code.take i).flatMap instrB).length ≤ 60000 := by rw [List.length_append]; omega
              have X2 := (hX.new (.cons (wA_loc _ _) L1) 52 #[.int .i64 op, .int .i64 n]).swap
              have LXc : Locs [blkA wr.heap.size 52 #[.int .i64 op, .int .i64 n], blkA bx 26 #[.slice (some ⟨b, o, none⟩) p.code.length cc, .slice pk p.consts.len ck, .slice pn p.names.length cn, .int .i64 p.places]] := .cons (blkA_loc _ _ _) L1
              have hN := one_u8 (wr.alloc (.cells #[.int .i64 op, .int .i64 n] 52)) (kindB op)
              have hsz : (wr.alloc (.cells #[.int .i64 op, .int .i64 n] 52)).heap.size = wr.heap.size + 1 := by simp
              have X3 := X2.ext (.cons (wA_loc _ _) LXc) (ext_alloc _ (.cells #[.int .u8 (kindB op).toNat] 5))
              have hby := X3.act LXc fun F hF => wbyte_any hF _ 1 [kindB op] hN (fun h => by cases h) (by rw [List.length_cons, List.length_nil]; omega)
              rw [hsz, kindB_nat] at hby
              have HBY := Lib.hid hby
              have hib : instrB (op, (n : Int)) = kindB op :: if opnd op ≠ 0 then numB n else [] := rfl
              have hro := info_operand op
              have HO := Lib.hid (fun X => of_any op X)
              generalize hl : l5 ++ (p.code.take i).flatMap instrB = l at *
              have HL := Lib.hid hl
              have hn512 : n < 513 := by omega
              clear hl hN hsz X2 X3 hby hX hmem g1 g2 g3 hfl
              go_wp2_with fail
              refine HBY.out.mono ?_
              rintro e w7 ⟨rfl, H7⟩
              clear HBY d0 d1
              generalize wr.heap.size = cx at *
              have c0 : w7.cell? ⟨cx, 0, none⟩ = some (.int .i64 op) := H7.swap.blk0.cell 0
              go_wp2_with fail
              refine (HO.out _).mono ?_
              rintro e w8 ⟨rfl, hE8⟩
              clear HO c0
              generalize info op = ri at *
              have H8 := H7.ext (.cons (wA_loc _ _) LXc) hE8
              have H9 := H8.ext (.cons (wA_loc _ _) LXc) (ext_alloc w8 (.cells ri.cells.toArray 46))
              have hbi := Blk.new w8 46 ri.cells.toArray
              simp only [IRow.cells, hro] at H9 hbi
              simp only [IRow.cells, hro]
              have HRO := Lib.hid hro
              clear H7 H8 hE8 hro
              go_upto_region 23 with fail
              generalize World.alloc w8 _ = w9 at *
              generalize w8.heap.size = fx at *
              have j1 : w9.cell? ⟨fx, 1, none⟩ = some (.int .i64 (opnd op)) := hbi.cell 1
              have c1 : w9.cell? ⟨cx, 1, none⟩ = some (.int .i64 n) := H9.swap.blk0.cell 1
              clear hbi
              by_cases hk : opnd op = 0
              · rw [hk] at j1
                rw [if_neg (fun h => h hk)] at hib
                have HIB := Lib.hid hib
                clear hib hk
                go_wp2_with fail
                refine ⟨⟨i + 1, by go_num, by omega, ?_⟩, by simp [intOf]; omega⟩
                rw [HTS.out, ← List.append_assoc, HL.out, HIB.out]
                exact H9.swap.drop
              · rw [if_pos hk] at hib
                have HIB := Lib.hid hib
                have hk1 : ((opnd op : Int) != 0) = true := by simp; omega
                have hk2 : ((opnd op : Int) == 0) = false := by simp; omega
                have hnum := Lib.hid (H9.act LXc fun F hF => wnum_lit hF n 80 (by omega) (by simp; omega))
                generalize opnd op = ok1 at *
                clear hib hk
                go_wp2_with fail
                refine hnum.out.mono ?_
                rintro e w10 ⟨rfl, H10⟩
                clear j1 c1 hnum
                go_wp2_with fail
                refine ⟨⟨i + 1, by go_num, by omega, ?_⟩, by simp [intOf]; omega⟩
                rw [HTS.out, ← List.append_assoc, HL.out, HIB.out]
                rw [List.append_assoc] at H10
                exact H10.swap.drop
            · have hi' : i = p.code.length := by omega
              rw [hi', List.take_of_length_le (Nat.le_refl _)] at hX
              generalize hl6 : l5 ++ p.code.flatMap instrB = l6 at *
              have hl6' : l6.length ≤ 70368744177664 := by rw [← hl6, List.length_append]; omega
              have hby := Lib.hid (hX.keeps (.cons (wA_loc _ _) L1) fun F hF => wbytes_any hF hl6')
              generalize hii : (i : Int) = kk at *
              have i7 : ¬ kk < p.code.length := by omega
              have hbase := hX.base.le
              have HL6 := Lib.hid hl6
              clear hi' hi hlt hii hl6
              go_wp2_with fail
              refine hby.out.mono ?_
              rintro e w7 ⟨⟨v, rfl, hown⟩, H7, hE7⟩
              go_wp2_with fail
              go_returns
              have hown2 := ownsRow_base (b' := W.heap.size) hown (fun k hk => Nat.le_trans hbase (hown.lt k hk).1)
              refine ⟨⟨v, ?_, fun _ => ?_, fun h => absurd HCE.out h⟩, H7.base⟩
              · rw [HCE.out]; rfl
              · rw [HBT.out]; exact hown2
end Go.Proofs.Ytkkhcpknldlpoaa

namespace Go.Proofs.Ytkkhcpknldlpoaa
set_option maxRecDepth 4000
set_option linter.unusedVariables false
set_option linter.unusedSimpArgs false
open Go Go.RowKit
def pgC (nm : List UInt8) (p : Im) (a : Ip) (d mu : Int) (sm : List UInt8) (z : Int) : List Value := pgL nm (.slice a.pc p.code.length a.cc) (.slice a.pk p.consts.len a.ck) (.slice a.pn p.names.length a.cn) p.places d mu sm z
def sumOf (nm : List UInt8) (p : Im) : List UInt8 := sha (nm ++ ([0] ++ p.bytes))
set_option maxHeartbeats 4000000 in
theorem clo_any (nm : List UInt8) (p : Im) (a : Ip) (w W : World) (ps : List Asr) (b cb : Nat) (hH : Has w W (blkA b 113 (pgC nm p a 0 1 (zb 32) 0).toArray :: blkA cb 58 #[.pointer (some ⟨b, 0, none⟩)] :: imA a p :: ps)) (hl : Locs ps) (hc : p.check = 0) (hok : p.ok) (hnm : nm.length ≤ 64) :
    Calls Try.prog 72 #[.pointer (some ⟨cb, 0, none⟩)] W fun e W' => e = .returned (.tuple #[]) ∧ Has w W' (blkA b 113 (pgC nm p a 0 1 (sumOf nm p) p.bytes.length).toArray :: blkA cb 58 #[.pointer (some ⟨b, 0, none⟩)] :: imA a p :: ps) := by
  obtain ⟨pc, cc, pk, ck, pn, cn⟩ := a
  have hfine := Im.fine hc
  have LI := imA_loc ⟨pc, cc, pk, ck, pn, cn⟩ p
  have henc := encode_any p ⟨pc, cc, pk, ck, pn, cn⟩ W hH.third.im hok (fun v hv => by have := check_bytes (hfine.consts v hv); omega)
  simp only [Im.cells] at henc
  have HENC := Lib.hid henc
  have hbp := hH.blk0
  have hbc := hH.swap.blk0
  have k0 : W.cell? ⟨cb, 0, none⟩ = some (.pointer (some ⟨b, 0, none⟩)) := hbc.cell 0
  have k1 : W.cell? ⟨b, 1, none⟩ = some (.slice pc p.code.length cc) := hbp.cell 1
  have k2 : W.cell? ⟨b, 2, none⟩ = some (.slice pk p.consts.len ck) := hbp.cell 2
  have k3 : W.cell? ⟨b, 3, none⟩ = some (.slice pn p.names.length cn) := hbp.cell 3
  have k4 : W.cell? ⟨b, 4, none⟩ = some (.int .i64 p.places) := hbp.cell 4
  clear henc hbp hbc
  go_enter Try.func72, Try.ntmps72
  go_wp2_with fail
  refine HENC.out.mono ?_
  rintro e w2 ⟨⟨v, rfl, hv1, _⟩, hE2⟩
  have hown := hv1 hc
  obtain ⟨pv, cv, rfl⟩ := ownsRow_slice hown
  have L0 : Locs (blkA b 113 (pgC nm p ⟨pc, cc, pk, ck, pn, cn⟩ 0 1 (zb 32) 0).toArray :: blkA cb 58 #[.pointer (some ⟨b, 0, none⟩)] :: imA ⟨pc, cc, pk, ck, pn, cn⟩ p :: ps) := .cons (blkA_loc _ _ _) (.cons (blkA_loc _ _ _) (.cons LI hl))
  have H2 := hH.ext L0 hE2
  clear HENC hv1 k0 k1 k2 k3 k4 hE2 hH
  have hblt : b < w2.drew.heap.size := H2.blk0.lt
  have hcap : p.bytes.length ≤ cv ∧ cv ≤ maxLen := by
    have := slOk_of_row (ownsRow_base (b' := 0) hown (fun _ _ => Nat.zero_le _))
    exact ⟨this.len, this.cap⟩
  have hbl : p.bytes.length ≤ 70368744177664 := by
    have h1 := flat_len (l := p.consts.vals) (f := Vl.bytes) (c := 512) fun v hv => check_bytes (hfine.consts v hv)
    have h2 := flat_len (l := p.names) (f := nameB) (c := 74) fun v hv => nameB_len (hfine.names v hv)
    have h3 := flat_len (l := p.code) (f := instrB) (c := 11) fun v hv => instrB_len (hfine.code v hv).2.2
    rw [Fo.vals_len] at h1
    have f1 := hfine.ncode
    have f2 := hfine.nconsts
    have f3 := hfine.nnames
    have f4 := hfine.nplaces
    have n1 : (numB p.places.toNat).length ≤ 10 := numB_len (by omega)
    have n2 : (numB p.consts.len).length ≤ 10 := numB_len (by omega)
    have n3 : (numB p.names.length).length ≤ 10 := numB_len (by omega)
    have n4 : (numB p.code.length).length ≤ 10 := numB_len (by omega)
    unfold Im.bytes
    simp only [List.length_append]
    omega
  go_upto_region 1 with fail
  have F2c : Blk w2.drew cb 58 #[.pointer (some ⟨b, 0, none⟩)] ∧ w2.drew.cell? ⟨b, 0, none⟩ = some (.string ⟨nm.toArray⟩) := ⟨H2.swap.blk0.drew, H2.blk0.drew.cell 0⟩
  have y0 : ∀ y : Of (fun X => Blk X cb 58 #[.pointer (some ⟨b, 0, none⟩)] ∧ X.cell? ⟨b, 0, none⟩ = some (.string ⟨nm.toArray⟩)), y.val.cell? ⟨cb, 0, none⟩ = some (.pointer (some ⟨b, 0, none⟩)) := fun y => y.property.1.cell 0
  have y1 : ∀ y : Of (fun X => Blk X cb 58 #[.pointer (some ⟨b, 0, none⟩)] ∧ X.cell? ⟨b, 0, none⟩ = some (.string ⟨nm.toArray⟩)), y.val.cell? ⟨b, 0, none⟩ = some (.string ⟨nm.toArray⟩) := fun y => y.property.2
  have hcv := fun (X : World) => Go.Lib.run_convert_string_bytes (P := Try.prog) X 9 30 5 ⟨nm.toArray⟩ Try.underlying9 Try.underlying30 Try.underlying5
  have hFd := F2c
  have hne_ : Nonempty (Of ((fun X => Blk X cb 58 #[.pointer (some ⟨b, 0, none⟩)] ∧ X.cell? ⟨b, 0, none⟩ = some (.string ⟨nm.toArray⟩)))) := ⟨⟨_, hFd⟩⟩
  refine region_plan (.seg [0,1,2,3,4,5,8,11,12] [true,true,true,true,true,true,true,true,true] (.fork 6 (.seg [7,9,10,13,14,15,16,17,18] [false,false,false,true,true,false,true,true,false] .done) 7 (.seg [6,9,10,13,14,15,16,17,18] [false,false,false,true,true,false,true,true,false] .done))) ((fun X => Blk X cb 58 #[.pointer (some ⟨b, 0, none⟩)] ∧ X.cell? ⟨b, 0, none⟩ = some (.string ⟨nm.toArray⟩))) (by kernel_rfl) (by kernel_rfl) hFd ?_
  refine walkP_seg ?_
  simp only [List.filterMap_cons, List.filterMap_nil, List.getElem?_cons_zero, List.getElem?_cons_succ]
  refine steps_quiet 9 (by kernel_rfl) ?_
  simp only [List.take_succ_cons, List.take_zero, List.drop_succ_cons, List.drop_zero]
  repeat (go_big_quiet_step (fail))
  refine wpQuiet_nil ?_
  refine steps_end ?_
  refine walkP_fork ?_ ?_
  all_goals simp only [List.filterMap_cons, List.filterMap_nil, List.getElem?_cons_zero, List.getElem?_cons_succ]
  · clear y0 y1
    refine steps_want rfl (fun K hK => ?_)
    go_simp
    have hE3 := ext_bytes w2.drew 5 ⟨nm.toArray⟩
    have hn0 := bytes_nums w2.drew 5 nm
    have hg1 : nm.length ≤ grownCap w2.drew nm.length 0 5 := grownCap_ge _ _ _ _
    have hg2 := grownCap_le_maxLen w2.drew nm.length 0 5 (by unfold maxLen; omega)
    generalize grownCap w2.drew nm.length 0 5 = gc at *
    generalize Go.Lib.bytesWorld w2.drew 5 ⟨nm.toArray⟩ = w3 at *
    have hz : w2.drew.heap.size = w2.heap.size := rfl
    rw [hz] at hn0
    refine hK _ _ (fun X => Blk X cb 58 #[.pointer (some ⟨b, 0, none⟩)] ∧ X.cell? ⟨b, 0, none⟩ = some (.string ⟨nm.toArray⟩)) ⟨F2c.1.of_eq ((hE3).block _ F2c.1.lt), ((hE3).cell _ _ hblt).trans F2c.2⟩ (fun _ h => h) ?_
    clear hK K
    (try simp only [Act.put, List.setIfInBounds_toArray, List.set_cons_succ, List.set_cons_zero])
    refine steps_end ?_
    refine walkP_seg ?_
    simp only [List.filterMap_cons, List.filterMap_nil, List.getElem?_cons_zero, List.getElem?_cons_succ]
    refine steps_want rfl (fun K hK => ?_)
    go_simp
    have hn2 := one_u8 w3 0
    have hE34 := ext_alloc w3 (.cells #[.int .u8 ((0 : UInt8).toNat : Int)] 5)
    have h00 : (((0 : UInt8).toNat : Nat) : Int) = 0 := rfl
    rw [h00] at hn2 hE34
    have hE4 := hE3.trans hE34
    have hn1 := hn0.ext hE34
    generalize World.alloc w3 _ = w4 at *
    generalize Array.size (World.heap w2) = b1 at *
    generalize w3.heap.size = b2 at *
    have hE4' : Ext w2 w4 := (Ext.refl w2).drew.trans hE4
    refine hK _ _ (fun X => Blk X cb 58 #[.pointer (some ⟨b, 0, none⟩)] ∧ X.cell? ⟨b, 0, none⟩ = some (.string ⟨nm.toArray⟩)) ⟨F2c.1.of_eq ((hE4).block _ F2c.1.lt), ((hE4).cell _ _ hblt).trans F2c.2⟩ (fun _ h => h) ?_
    clear hK K
    (try simp only [Act.put, List.setIfInBounds_toArray, List.set_cons_succ, List.set_cons_zero])
    have hb3 := Blk.new w4 30 #[.slice (some ⟨b1, 0, none⟩) nm.length gc, .slice (some ⟨b2, 0, none⟩) 1 1, .slice pv p.bytes.length cv]
    have hE5 := ext_alloc w4 (.cells #[.slice (some ⟨b1, 0, none⟩) nm.length gc, .slice (some ⟨b2, 0, none⟩) 1 1, .slice pv p.bytes.length cv] 30)
    refine steps_want rfl (fun K hK => ?_)
    go_simp
    generalize World.alloc w4 _ = w5 at *
    generalize Array.size (World.heap w4) = b3 at *
    refine hK _ _ (fun X => Blk X cb 58 #[.pointer (some ⟨b, 0, none⟩)] ∧ X.cell? ⟨b, 0, none⟩ = some (.string ⟨nm.toArray⟩)) ⟨F2c.1.of_eq (((hE4.trans hE5)).block _ F2c.1.lt), (((hE4.trans hE5)).cell _ _ hblt).trans F2c.2⟩ (fun _ h => h) ?_
    clear hK K
    (try simp only [Act.put, List.setIfInBounds_toArray, List.set_cons_succ, List.set_cons_zero])
    have hn1' := hn1.ext hE5
    have hn2' := hn2.ext hE5
    have hn3' := (bytesAt_own hown).ext (((Ext.refl w2).trans hE4').trans hE5)
    have hparts : PartsAt (fun _ => False) w5 (some ⟨b3, 0, none⟩) [nm, [0], p.bytes] := PartsAt.three hb3 hn1' hn2' hn3' (fun h => by cases h) (fun h => by cases h) (row_nil hown) ⟨hg1, hg2⟩ ⟨by simp, by decide⟩ hcap
    have hof := Lib.hid (sof_any (G := fun _ => False) w5 (some ⟨b3, 0, none⟩) 3 [nm, [0], p.bytes] hparts (by simp [maxLen]) (by intro x hx; simp at hx; rcases hx with rfl | rfl | rfl; omega; decide; omega))
    refine steps_want rfl (fun K hK => ?_)
    go_simp
    refine hof.out.mono ?_
    rintro e w6 ⟨rfl, hE6⟩
    have hE26 := ((hE4').trans hE5).trans hE6
    have H6 := H2.ext L0 hE26
    have hflat : [nm, [0], p.bytes].flatten = nm ++ ([0] ++ p.bytes) := by simp
    rw [hflat]
    have hsl : (sumOf nm p).length = 32 := sha_len _
    have hsd : sha (nm ++ ([0] ++ p.bytes)) = sumOf nm p := rfl
    rw [hsd]
    generalize hsm0 : sumOf nm p = sm at *
    have HSM := Lib.hid hsm0
    clear hsm0
    refine hK _ _ (fun X => Blk X cb 58 #[.pointer (some ⟨b, 0, none⟩)] ∧ X.cell? ⟨b, 0, none⟩ = some (.string ⟨nm.toArray⟩)) ⟨F2c.1.of_eq ((((hE4.trans hE5).trans hE6)).block _ F2c.1.lt), ((((hE4.trans hE5).trans hE6)).cell _ _ hblt).trans F2c.2⟩ (fun _ h => h) ?_
    clear hK K
    (try simp only [Act.put, List.setIfInBounds_toArray, List.set_cons_succ, List.set_cons_zero])
    clear hof hparts hn1' hn2' hn3' hb3 hflat hsd
    refine steps_quiet 2 (by kernel_rfl) ?_
    simp only [List.take_succ_cons, List.take_zero, List.drop_succ_cons, List.drop_zero]
    repeat (go_big_quiet_step (fail))
    refine wpQuiet_nil ?_
    have hth := pg_there H6.blk0 (by rfl)
    refine steps_want rfl (fun K hK => ?_)
    refine wp_store_mid 66 _ _ rfl b 8 (u8s sm).toArray rfl rfl (by simpa [u8s_length, hsl] using hth) (smSize hsl) (u8s_oneAll _) ?_
    have H7 := H6.many (.cons (blkA_loc _ _ _) (.cons LI hl)) 8 (u8s sm)
    unfold pgC at H7
    rw [pg_sum (by rw [hsl]; rfl)] at H7
    have hF7 : (fun X => Blk X cb 58 #[.pointer (some ⟨b, 0, none⟩)] ∧ X.cell? ⟨b, 0, none⟩ = some (.string ⟨nm.toArray⟩)) (w6.setCells b 8 (u8s sm)) := ⟨H7.swap.blk0, H7.blk0.cell 0⟩
    refine hK _ _ (fun X => Blk X cb 58 #[.pointer (some ⟨b, 0, none⟩)] ∧ X.cell? ⟨b, 0, none⟩ = some (.string ⟨nm.toArray⟩)) hF7 (fun _ h => h) ?_
    clear hK K
    (try simp only [Act.put, List.setIfInBounds_toArray, List.set_cons_succ, List.set_cons_zero])
    generalize World.setCells _ _ _ _ = w7 at *
    refine steps_quiet 2 (by kernel_rfl) ?_
    simp only [List.take_succ_cons, List.take_zero, List.drop_succ_cons, List.drop_zero]
    repeat (go_big_quiet_step (fail))
    refine wpQuiet_nil ?_
    have z40 : w7.cell? ⟨b, 40, none⟩ = some (.int .i64 0) := (H7.blk0.cell 40).trans (pg_at40 hsl)
    have f40 := H7.blk0.frozen 40
    have H8 := H7.setB (.cons (blkA_loc _ _ _) (.cons LI hl)) 40 (.int .i64 p.bytes.length)
    rw [pg_size hsl] at H8
    have hF8 : (fun X => Blk X cb 58 #[.pointer (some ⟨b, 0, none⟩)] ∧ X.cell? ⟨b, 0, none⟩ = some (.string ⟨nm.toArray⟩)) (w7.setCell ⟨b, 40, none⟩ (.int .i64 p.bytes.length)) := ⟨H8.swap.blk0, H8.blk0.cell 0⟩
    refine steps_want rfl (fun K hK => ?_)
    go_simp
    refine hK _ _ (fun X => Blk X cb 58 #[.pointer (some ⟨b, 0, none⟩)] ∧ X.cell? ⟨b, 0, none⟩ = some (.string ⟨nm.toArray⟩)) hF8 (fun _ h => h) ?_
    clear hK K
    (try simp only [Act.put, List.setIfInBounds_toArray, List.set_cons_succ, List.set_cons_zero])
    refine steps_end ?_
    refine walkP_done ?_
    clear z40 f40
    go_wp2_with fail
    all_goals (first | exact ⟨rfl, by rw [HSM.out]; exact H8⟩ | (go_returns; exact ⟨rfl, by rw [HSM.out]; exact H8⟩))
  · clear y0 y1
    refine steps_want rfl (fun K hK => ?_)
    go_simp
    have hn0 := one_u8 w2 0
    have hE34 := (ext_alloc w2 (.cells #[.int .u8 ((0 : UInt8).toNat : Int)] 5))
    have h00 : (((0 : UInt8).toNat : Nat) : Int) = 0 := rfl
    rw [h00] at hn0 hE34
    have hE3' : Ext w2 (w2.alloc (.cells #[.int .u8 0] 5)).drew := hE34.drew
    have hE3 : Ext w2.drew (w2.alloc (.cells #[.int .u8 0] 5)).drew := ⟨hE3'.os, hE3'.tape, hE3'.output, hE3'.size, hE3'.block⟩
    have hn01 := hn0.ext ((Ext.refl _).drew)
    generalize World.drew (World.alloc w2 _) = w3 at *
    generalize w2.heap.size = b2 at *
    refine hK _ _ (fun X => Blk X cb 58 #[.pointer (some ⟨b, 0, none⟩)] ∧ X.cell? ⟨b, 0, none⟩ = some (.string ⟨nm.toArray⟩)) ⟨F2c.1.of_eq ((hE3).block _ F2c.1.lt), ((hE3).cell _ _ hblt).trans F2c.2⟩ (fun _ h => h) ?_
    clear hK K
    (try simp only [Act.put, List.setIfInBounds_toArray, List.set_cons_succ, List.set_cons_zero])
    refine steps_end ?_
    refine walkP_seg ?_
    simp only [List.filterMap_cons, List.filterMap_nil, List.getElem?_cons_zero, List.getElem?_cons_succ]
    refine steps_want rfl (fun K hK => ?_)
    go_simp
    have hE34' := ext_bytes w3 5 ⟨nm.toArray⟩
    have hn1 := bytes_nums w3 5 nm
    have hg1 : nm.length ≤ grownCap w3 nm.length 0 5 := grownCap_ge _ _ _ _
    have hg2 := grownCap_le_maxLen w3 nm.length 0 5 (by unfold maxLen; omega)
    generalize grownCap w3 nm.length 0 5 = gc at *
    generalize Go.Lib.bytesWorld w3 5 ⟨nm.toArray⟩ = w4 at *
    generalize w3.heap.size = b1 at *
    have hE4 := hE3.trans hE34'
    have hE4' := hE3'.trans hE34'
    have hn2 := hn01.ext hE34'
    refine hK _ _ (fun X => Blk X cb 58 #[.pointer (some ⟨b, 0, none⟩)] ∧ X.cell? ⟨b, 0, none⟩ = some (.string ⟨nm.toArray⟩)) ⟨F2c.1.of_eq ((hE4).block _ F2c.1.lt), ((hE4).cell _ _ hblt).trans F2c.2⟩ (fun _ h => h) ?_
    clear hK K
    (try simp only [Act.put, List.setIfInBounds_toArray, List.set_cons_succ, List.set_cons_zero])
    have hb3 := Blk.new w4 30 #[.slice (some ⟨b1, 0, none⟩) nm.length gc, .slice (some ⟨b2, 0, none⟩) 1 1, .slice pv p.bytes.length cv]
    have hE5 := ext_alloc w4 (.cells #[.slice (some ⟨b1, 0, none⟩) nm.length gc, .slice (some ⟨b2, 0, none⟩) 1 1, .slice pv p.bytes.length cv] 30)
    refine steps_want rfl (fun K hK => ?_)
    go_simp
    generalize World.alloc w4 _ = w5 at *
    generalize Array.size (World.heap w4) = b3 at *
    refine hK _ _ (fun X => Blk X cb 58 #[.pointer (some ⟨b, 0, none⟩)] ∧ X.cell? ⟨b, 0, none⟩ = some (.string ⟨nm.toArray⟩)) ⟨F2c.1.of_eq (((hE4.trans hE5)).block _ F2c.1.lt), (((hE4.trans hE5)).cell _ _ hblt).trans F2c.2⟩ (fun _ h => h) ?_
    clear hK K
    (try simp only [Act.put, List.setIfInBounds_toArray, List.set_cons_succ, List.set_cons_zero])
    have hn1' := hn1.ext hE5
    have hn2' := hn2.ext hE5
    have hn3' := (bytesAt_own hown).ext (((Ext.refl w2).trans hE4').trans hE5)
    have hparts : PartsAt (fun _ => False) w5 (some ⟨b3, 0, none⟩) [nm, [0], p.bytes] := PartsAt.three hb3 hn1' hn2' hn3' (fun h => by cases h) (fun h => by cases h) (row_nil hown) ⟨hg1, hg2⟩ ⟨by simp, by decide⟩ hcap
    have hof := Lib.hid (sof_any (G := fun _ => False) w5 (some ⟨b3, 0, none⟩) 3 [nm, [0], p.bytes] hparts (by simp [maxLen]) (by intro x hx; simp at hx; rcases hx with rfl | rfl | rfl; omega; decide; omega))
    refine steps_want rfl (fun K hK => ?_)
    go_simp
    refine hof.out.mono ?_
    rintro e w6 ⟨rfl, hE6⟩
    have hE26 := ((hE4').trans hE5).trans hE6
    have H6 := H2.ext L0 hE26
    have hflat : [nm, [0], p.bytes].flatten = nm ++ ([0] ++ p.bytes) := by simp
    rw [hflat]
    have hsl : (sumOf nm p).length = 32 := sha_len _
    have hsd : sha (nm ++ ([0] ++ p.bytes)) = sumOf nm p := rfl
    rw [hsd]
    generalize hsm0 : sumOf nm p = sm at *
    have HSM := Lib.hid hsm0
    clear hsm0
    refine hK _ _ (fun X => Blk X cb 58 #[.pointer (some ⟨b, 0, none⟩)] ∧ X.cell? ⟨b, 0, none⟩ = some (.string ⟨nm.toArray⟩)) ⟨F2c.1.of_eq ((((hE4.trans hE5).trans hE6)).block _ F2c.1.lt), ((((hE4.trans hE5).trans hE6)).cell _ _ hblt).trans F2c.2⟩ (fun _ h => h) ?_
    clear hK K
    (try simp only [Act.put, List.setIfInBounds_toArray, List.set_cons_succ, List.set_cons_zero])
    clear hof hparts hn1' hn2' hn3' hb3 hflat hsd
    refine steps_quiet 2 (by kernel_rfl) ?_
    simp only [List.take_succ_cons, List.take_zero, List.drop_succ_cons, List.drop_zero]
    repeat (go_big_quiet_step (fail))
    refine wpQuiet_nil ?_
    have hth := pg_there H6.blk0 (by rfl)
    refine steps_want rfl (fun K hK => ?_)
    refine wp_store_mid 66 _ _ rfl b 8 (u8s sm).toArray rfl rfl (by simpa [u8s_length, hsl] using hth) (smSize hsl) (u8s_oneAll _) ?_
    have H7 := H6.many (.cons (blkA_loc _ _ _) (.cons LI hl)) 8 (u8s sm)
    unfold pgC at H7
    rw [pg_sum (by rw [hsl]; rfl)] at H7
    have hF7 : (fun X => Blk X cb 58 #[.pointer (some ⟨b, 0, none⟩)] ∧ X.cell? ⟨b, 0, none⟩ = some (.string ⟨nm.toArray⟩)) (w6.setCells b 8 (u8s sm)) := ⟨H7.swap.blk0, H7.blk0.cell 0⟩
    refine hK _ _ (fun X => Blk X cb 58 #[.pointer (some ⟨b, 0, none⟩)] ∧ X.cell? ⟨b, 0, none⟩ = some (.string ⟨nm.toArray⟩)) hF7 (fun _ h => h) ?_
    clear hK K
    (try simp only [Act.put, List.setIfInBounds_toArray, List.set_cons_succ, List.set_cons_zero])
    generalize World.setCells _ _ _ _ = w7 at *
    refine steps_quiet 2 (by kernel_rfl) ?_
    simp only [List.take_succ_cons, List.take_zero, List.drop_succ_cons, List.drop_zero]
    repeat (go_big_quiet_step (fail))
    refine wpQuiet_nil ?_
    have z40 : w7.cell? ⟨b, 40, none⟩ = some (.int .i64 0) := (H7.blk0.cell 40).trans (pg_at40 hsl)
    have f40 := H7.blk0.frozen 40
    have H8 := H7.setB (.cons (blkA_loc _ _ _) (.cons LI hl)) 40 (.int .i64 p.bytes.length)
    rw [pg_size hsl] at H8
    have hF8 : (fun X => Blk X cb 58 #[.pointer (some ⟨b, 0, none⟩)] ∧ X.cell? ⟨b, 0, none⟩ = some (.string ⟨nm.toArray⟩)) (w7.setCell ⟨b, 40, none⟩ (.int .i64 p.bytes.length)) := ⟨H8.swap.blk0, H8.blk0.cell 0⟩
    refine steps_want rfl (fun K hK => ?_)
    go_simp
    refine hK _ _ (fun X => Blk X cb 58 #[.pointer (some ⟨b, 0, none⟩)] ∧ X.cell? ⟨b, 0, none⟩ = some (.string ⟨nm.toArray⟩)) hF8 (fun _ h => h) ?_
    clear hK K
    (try simp only [Act.put, List.setIfInBounds_toArray, List.set_cons_succ, List.set_cons_zero])
    refine steps_end ?_
    refine walkP_done ?_
    clear z40 f40
    go_wp2_with fail
    all_goals (first | exact ⟨rfl, by rw [HSM.out]; exact H8⟩ | (go_returns; exact ⟨rfl, by rw [HSM.out]; exact H8⟩))
end Go.Proofs.Ytkkhcpknldlpoaa

namespace Go.Proofs.Ytkkhcpknldlpoaa
set_option maxRecDepth 4000
set_option linter.unusedVariables false
set_option linter.unusedSimpArgs false
open Go Go.RowKit
theorem disable_any (w : World) : (callFunc 95 #[]).run Try.prog w = .ok (.value (.tuple #[])) w := run_call_mark0 Try.func95 (by kernel_rfl) (by kernel_rfl) (by kernel_rfl) .disable (by kernel_rfl) w
theorem enable_any (w : World) : (callFunc 97 #[]).run Try.prog w = .ok (.value (.tuple #[])) w := run_call_mark0 Try.func97 (by kernel_rfl) (by kernel_rfl) (by kernel_rfl) .enable (by kernel_rfl) w
theorem acquire_any (a : Addr) (w : World) : (callFunc 98 #[.pointer (some a)]).run Try.prog w = .ok (.value (.tuple #[])) w := run_call_marked Try.func98 (by kernel_rfl) (by kernel_rfl) (by kernel_rfl) .acquire (by kernel_rfl) a w
theorem releaseMerge_any (a : Addr) (w : World) : (callFunc 100 #[.pointer (some a)]).run Try.prog w = .ok (.value (.tuple #[])) w := run_call_marked Try.func100 (by kernel_rfl) (by kernel_rfl) (by kernel_rfl) .releaseMerge (by kernel_rfl) a w
theorem store_deferred (a : Addr) (x : Value) (u : FrameMode) (w : World) (hc : w.cell? a = some x) (hz : w.frozen? a = false) :
    CallsD Try.prog 84 #[.pointer (some a), .bool true] u w fun e u' w' => u' = u ∧ (e = .returned (.tuple #[]) ∧ w' = w.drew.setCell a (.int .u32 1)) := by
  have hc' : w.drew.cell? a = some x := by go_simp
  have hz' : w.drew.frozen? a = false := by go_simp
  have hst := run_call_store (P := Try.prog) Try.func90 (by kernel_rfl) (by kernel_rfl) (by kernel_rfl) (by kernel_rfl) (k := .u32) (y := 1) hc' hz'
  go_enter_d Try.func84, Try.ntmps84
  go_wp2
  go_region_calls
  all_goals (go_end0; exact ⟨rfl, rfl⟩)
theorem unlock_deferred (a : Addr) (u : FrameMode) (w : World) (hc : w.cell? a = some (.int .i32 1)) (hz : w.frozen? a = false) :
    CallsD Try.prog 83 #[.pointer (some a)] u w fun e u' w' => u' = u ∧ (e = .returned (.tuple #[]) ∧ w' = w.setCell a (.int .i32 0)) := by
  have hd := disable_any
  have he := enable_any
  have hr := releaseMerge_any
  have hadd := run_call_add (P := Try.prog) Try.func101 (by kernel_rfl) (by kernel_rfl) (by kernel_rfl) .i32 (by kernel_rfl) (y := -1) (s := 0) hc hz (by simp [go_sem]; rfl)
  have hcv := run_convert_to_unsafe (P := Try.prog) (src := 155) (dst := 159) Try.underlying155 Try.underlying159 (by kernel_rfl) hc
  go_enter_d Try.func83, Try.ntmps83
  go_wp2
  go_end0
  go_wp2
  all_goals first | exact ⟨rfl, rfl⟩ | (go_end0; exact ⟨rfl, rfl⟩)
theorem lock_free (a : Addr) (w : World) (hc : w.cell? a = some (.int .i32 0)) (hz : w.frozen? a = false) :
    Calls Try.prog 82 #[.pointer (some a)] w fun e w' => e = .returned (.tuple #[]) ∧ w' = w.setCell a (.int .i32 1) := by
  have hd := disable_any
  have he := enable_any
  have ha := acquire_any
  have hcas := run_call_cas_hit (P := Try.prog) Try.func96 (by kernel_rfl) (by kernel_rfl) (by kernel_rfl) .i32 (by kernel_rfl) (y := 1) hc hz
  have hc' : (w.setCell a (.int .i32 1)).cell? a = some (.int .i32 1) := World.cell?_setCell_same w a _ hc
  have hcv := run_convert_to_unsafe (P := Try.prog) (src := 155) (dst := 159) Try.underlying155 Try.underlying159 (by kernel_rfl) hc'
  go_enter Try.func82, Try.ntmps82
  go_wp2
  first | go_end0 | (simp only [Exit.inBlock, Exit.then]; refine bodyPost_ret (results_none rfl _ _ _) rfl ?_) | refine bodyPost_ret (results_none rfl _ _ _) rfl ?_
  go_wp2
  all_goals first | exact ⟨rfl, rfl⟩ | (go_end0; exact ⟨rfl, rfl⟩)
end Go.Proofs.Ytkkhcpknldlpoaa

namespace Go.Proofs.Ytkkhcpknldlpoaa
set_option maxRecDepth 4000
set_option linter.unusedVariables false
set_option linter.unusedSimpArgs false
open Go Go.RowKit
theorem load_any (a : Addr) (d : Int) (w : World) (h0 : w.cell? a = some (.int .u32 d)) : Calls Try.prog 76 #[.pointer (some a)] w fun e w' => e = .returned (.bool (d != 0)) ∧ w' = w := by
  have hl := run_call_load (P := Try.prog) Try.func81 (by kernel_rfl) (by kernel_rfl) (by kernel_rfl) .u32 (by kernel_rfl) h0
  go_enter Try.func76, Try.ntmps76
  go_wp2
  go_ret
  exact ⟨rfl, rfl⟩
section
variable {nm : List UInt8} {p : Im} {a : Ip} {w W : World} {ps : List Asr} {b cb : Nat}
set_option maxRecDepth 100000 in
set_option maxHeartbeats 1600000 in
theorem slow_any (hH : Has w W (blkA b 113 (pgC nm p a 0 0 (zb 32) 0).toArray :: blkA cb 58 #[.pointer (some ⟨b, 0, none⟩)] :: imA a p :: ps)) (hl : Locs ps) (hc : p.check = 0) (hok : p.ok) (hnm : nm.length ≤ 64) :
    Calls Try.prog 77 #[.pointer (some ⟨b, 5, none⟩), .func (.func 72) #[] #[.pointer (some ⟨cb, 0, none⟩)]] W fun e W' => e = .returned (.tuple #[]) ∧ Has w W' (blkA b 113 (pgC nm p a 1 0 (sumOf nm p) p.bytes.length).toArray :: blkA cb 58 #[.pointer (some ⟨b, 0, none⟩)] :: imA a p :: ps) := by
  have LT : Locs (blkA cb 58 #[.pointer (some ⟨b, 0, none⟩)] :: imA a p :: ps) := .cons (blkA_loc _ _ _) (.cons (imA_loc _ _) hl)
  have hb0 := hH.blk0
  have m0 : W.cell? ⟨b, 6, none⟩ = some (.int .i32 0) := hb0.cell 6
  have f0 := hb0.frozen 6
  have H1 : Has w (W.setCell ⟨b, 6, none⟩ (.int .i32 1)) (blkA b 113 (pgC nm p a 0 1 (zb 32) 0).toArray :: blkA cb 58 #[.pointer (some ⟨b, 0, none⟩)] :: imA a p :: ps) := hH.setB LT 6 (.int .i32 1)
  have hnot : ∀ (x : Bool) (w : World), (Op.unary .not (.bool x)).run Try.prog w = .ok (.bool (!x)) w := fun _ _ => rfl
  have hlock := lock_free ⟨b, 6, none⟩ W m0 f0
  clear hb0 hH
  go_enter_defers Try.func77, Try.ntmps77
  go_wp2_with fail
  refine hlock.mono ?_
  rintro e w' ⟨rfl, rfl⟩
  clear hlock m0 f0
  generalize World.setCell _ _ _ = w1 at *
  have hld := load_any ⟨b, 5, none⟩ 0 w1 (H1.blk0.cell 5)
  go_wp2_with fail
  refine hld.mono ?_
  rintro e w' ⟨rfl, rfl⟩
  clear hld
  have hclo := clo_any nm p a w w' ps b cb H1 hl hc hok hnm
  go_wp2_with fail
  refine hclo.mono ?_
  rintro e w2 ⟨rfl, H2⟩
  clear hclo
  go_wp2_with fail
  have hst := store_deferred ⟨b, 5, none⟩ (.int .u32 0) .returning w2 (H2.blk0.cell 5) (H2.blk0.frozen 5)
  have H3 : Has w (w2.drew.setCell ⟨b, 5, none⟩ (.int .u32 1)) (blkA b 113 (pgC nm p a 1 1 (sumOf nm p) p.bytes.length).toArray :: blkA cb 58 #[.pointer (some ⟨b, 0, none⟩)] :: imA a p :: ps) := (H2.ext (.cons (blkA_loc _ _ _) LT) (Ext.refl _).drew).setB LT 5 (.int .u32 1)
  refine leaves_cons (f := 84) (args := #[.pointer (some ⟨b, 5, none⟩), .bool true]) (by simp) (by simp [go_sem]) ?_
  refine hst.mono ?_
  rintro e u' w'' ⟨rfl, rfl, rfl⟩
  clear hst
  generalize World.setCell _ _ _ = w3 at *
  have hul := fun u => unlock_deferred ⟨b, 6, none⟩ u w3 (H3.blk0.cell 6) (H3.blk0.frozen 6)
  have H4 : Has w (w3.setCell ⟨b, 6, none⟩ (.int .i32 0)) (blkA b 113 (pgC nm p a 1 0 (sumOf nm p) p.bytes.length).toArray :: blkA cb 58 #[.pointer (some ⟨b, 0, none⟩)] :: imA a p :: ps) := H3.setB LT 6 (.int .i32 0)
  refine leaves_cons (f := 83) (args := #[.pointer (some ⟨b, 6, none⟩)]) (by simp [settle]) (by simp [go_sem]) ?_
  refine (hul _).mono ?_
  rintro e u' w'' ⟨rfl, rfl, rfl⟩
  simp [Leaves, settle, results, Try.results77]
  exact H4
end
end Go.Proofs.Ytkkhcpknldlpoaa

namespace Go.Proofs.Ytkkhcpknldlpoaa
set_option maxRecDepth 4000
set_option linter.unusedVariables false
set_option linter.unusedSimpArgs false
open Go Go.RowKit
def pickA (l : List Asr) (is : List Nat) : List Asr := is.map fun i => l.getD i (fun _ _ => False)
theorem map_range_getD {α : Type} (l : List α) (d : α) : (List.range l.length).map (fun i => l.getD i d) = l := by
  apply List.ext_getElem
  · simp
  · intro i h1 h2
    simp at h1 h2
    simp [h2]
theorem Has.pick {w W : World} {l ps : List Asr} (h : Has w W (l ++ ps)) (is : List Nat) (hp : is.isPerm (List.range l.length) = true) : Has w W (pickA l is ++ ps) := by
  refine h.perm (List.Perm.append_right ps ?_)
  have h1 := (List.isPerm_iff.1 hp).map (fun i => l.getD i (fun _ _ => False))
  rw [map_range_getD] at h1
  exact h1.symm
theorem Has.vnone {w W : World} {ps : List Asr} (h : Has w W ps) (hl : Locs ps) (k n : Int) (s : List UInt8) : Has w W (vlA none 0 ⟨k, n, s, .nil⟩ :: ps) := h.vl hl (Ext.refl W) (VlB.none k n s)
theorem Has.vrow {w W : World} {ps : List Asr} {T : TypeId} {p : Option Addr} {n c : Nat} {es : List El} (h : Has w W (rvA T (.slice p n c) es :: ps)) (k m : Int) (s : List UInt8) : n = es.length ∧ Has w W (vlA p c ⟨k, m, s, Fo.of (es.map Prod.fst)⟩ :: ps) := by
  refine ⟨?_, h.imp fun F hF => ?_⟩
  · obtain ⟨F, hF⟩ := h.head
    exact (RowV.fo hF).1
  · obtain ⟨h1, h2, h3, h4, h5⟩ := RowV.fo hF
    have e : (Fo.of (es.map Prod.fst)).len = es.length := by rw [Fo.of_len, List.length_map]
    exact ⟨⟨fun h => by rw [e]; exact h2 h, by rw [e]; exact h3, h4, h5⟩, hF.lt⟩
def restV (f p x : Nat) : RdM (Vl × Nat) :=
  if x = 0 then rPure (⟨0, 0, [], .nil⟩, p + 1)
  else if x = 1 then rBind (Rd.num 18446744073709551615) fun n => rPure (⟨1, zagI n, [], .nil⟩, p + 1)
  else if x = 2 then rBind Rd.text fun t => rBind (overT t) fun _ => rPure (⟨2, 0, t, .nil⟩, p + 1)
  else if x = 3 then
    match f with
    | 0 => rBind (rFail 30) fun _ => rPure (⟨3, 0, [], .nil⟩, p + 1)
    | f + 1 => rBind (Rd.num 64) fun m => rBind (loopV (readV f) m (p + 1)) fun y => rPure (⟨3, 0, [], Fo.of y.1⟩, y.2)
  else rBind (rFail 9) fun _ => rPure (⟨x, 0, [], .nil⟩, p + 1)
theorem restV_0 (f p : Nat) (s : Rd) : restV f p 0 s = ((⟨0, 0, [], .nil⟩, p + 1), s) := by cases f <;> rfl
theorem restV_1 (f p : Nat) (s : Rd) : restV f p 1 s = ((⟨1, zagI (s.num 18446744073709551615).1, [], .nil⟩, p + 1), (s.num 18446744073709551615).2) := by cases f <;> rfl
theorem restV_2 (f p : Nat) (s : Rd) : restV f p 2 s = ((⟨2, 0, s.text.1, .nil⟩, p + 1), (overT s.text.1 s.text.2).2) := by cases f <;> rfl
theorem restV_3z (p : Nat) (s : Rd) : restV 0 p 3 s = ((⟨3, 0, [], .nil⟩, p + 1), s.fail 30) := rfl
theorem restV_3s (f p : Nat) (s : Rd) : restV (f + 1) p 3 s = ((⟨3, 0, [], Fo.of (loopV (readV f) (s.num 64).1 (p + 1) (s.num 64).2).1.1⟩, (loopV (readV f) (s.num 64).1 (p + 1) (s.num 64).2).1.2), (loopV (readV f) (s.num 64).1 (p + 1) (s.num 64).2).2) := rfl
theorem restV_o (f p x : Nat) (s : Rd) (h0 : x ≠ 0) (h1 : x ≠ 1) (h2 : x ≠ 2) (h3 : x ≠ 3) : restV f p x s = ((⟨x, 0, [], .nil⟩, p + 1), s.fail 9) := by
  unfold restV
  rw [if_neg h0, if_neg h1, if_neg h2, if_neg h3]; rfl
theorem overT_pos {t : List UInt8} (h : 256 < t.length) (s : Rd) : (overT t s).2 = s.fail 2 := by unfold overT; rw [if_pos h]; rfl
theorem overT_neg {t : List UInt8} (h : ¬ 256 < t.length) (s : Rd) : (overT t s).2 = s := by unfold overT; rw [if_neg h]; rfl
theorem readV_rest (f p : Nat) (s : Rd) : readV f p s = restV f p s.byte.1 (overP p s.byte.2).2 := by
  rw [readV_eq]; rfl
theorem loopV_le {g : Nat → RdM (Vl × Nat)} {b : Nat} (h : ∀ p s, (g p s).1.2 ≤ p + b) : ∀ m p s, (loopV g m p s).1.2 ≤ p + m * b
  | 0, p, s => by show p ≤ _; omega
  | m + 1, p, s => by
    have h1 := loopV_le h m p s
    have h2 := h (loopV g m p s).1.2 (loopV g m p s).2
    show (g (loopV g m p s).1.2 (loopV g m p s).2).1.2 ≤ _
    rw [Nat.add_mul]; omega
theorem readV_le : ∀ (f p : Nat) (s : Rd), (readV f p s).1.2 ≤ p + 65 ^ (f + 1)
  | f, p, s => by
    rw [readV_rest]
    generalize (overP p s.byte.2).2 = s2
    generalize s.byte.1 = x
    have h1 : 1 ≤ 65 ^ (f + 1) := Nat.pow_pos (by omega)
    unfold restV
    split
    · show p + 1 ≤ _; omega
    split
    · show p + 1 ≤ _; omega
    split
    · show p + 1 ≤ _; omega
    split
    · match f with
      | 0 => show p + 1 ≤ _; omega
      | f + 1 =>
        have h2 := loopV_le (g := readV f) (fun p s => readV_le f p s) (Rd.num 64 s2).1 (p + 1) (Rd.num 64 s2).2
        have h3 := Rd.num_le 64 s2
        have h4 : (Rd.num 64 s2).1 * 65 ^ (f + 1) ≤ 64 * 65 ^ (f + 1) := Nat.mul_le_mul_right _ h3
        have h5 : 65 ^ (f + 1 + 1) = 65 * 65 ^ (f + 1) := by rw [Nat.pow_succ, Nat.mul_comm]
        have h6 : 1 ≤ 65 ^ (f + 1) := Nat.pow_pos (by omega)
        show (loopV (readV f) (Rd.num 64 s2).1 (p + 1) (Rd.num 64 s2).2).1.2 ≤ _
        rw [h5]; omega
    · show p + 1 ≤ _; omega
theorem num_failed {s : Rd} (h : s.err ≠ 0) (m : Nat) : s.num m = (0, s) := by
  have hb : s.byte = (0, s) := by unfold Rd.byte; rw [if_neg h]
  have hg : Rd.numGo 10 0 0 s = (0, s) := by
    rw [Rd.numGo, hb, if_pos h]
  unfold Rd.num
  rw [hg, if_pos h]
end Go.Proofs.Ytkkhcpknldlpoaa

namespace Go.Proofs.Ytkkhcpknldlpoaa
set_option maxRecDepth 4000
set_option linter.unusedVariables false
set_option linter.unusedSimpArgs false
open Go Go.RowKit
theorem vwalk_thin (v : Vl) (is : ∀ d m, (v.l.walk d m).1 = 0 → v.l.thin) (d m : Nat) (h0 : (v.walk d m).1 = 0) : v.k = 3 → v.l.len ≤ 64 ∧ v.l.thin := by
  intro hk
  unfold Vl.walk at h0
  by_cases h1 : 256 < m + 1
  · rw [if_pos h1] at h0; exact absurd h0 (show ¬ (2 : Int) = 0 by decide)
  rw [if_neg h1, if_neg (by omega), if_neg (by omega), if_neg (fun h => h hk)] at h0
  by_cases h5 : 8 ≤ d
  · rw [if_pos h5] at h0; exact absurd h0 (show ¬ (30 : Int) = 0 by decide)
  rw [if_neg h5] at h0
  by_cases h6 : 64 < v.l.len
  · rw [if_pos h6] at h0; exact absurd h0 (show ¬ (2 : Int) = 0 by decide)
  rw [if_neg h6] at h0
  exact ⟨by omega, is _ _ h0⟩
theorem walk_thin : ∀ (f : Fo) (d m : Nat), (f.walk d m).1 = 0 → f.thin
  | .nil, _, _, _ => trivial
  | .node k n s sub r, d, m, h0 => by
    have ir := walk_thin r d
    have is := walk_thin sub
    have e : (Fo.node k n s sub r).walk d m = if (Vl.walk ⟨k, n, s, sub⟩ d m).1 ≠ 0 then Vl.walk ⟨k, n, s, sub⟩ d m else r.walk d (Vl.walk ⟨k, n, s, sub⟩ d m).2 := rfl
    have iv := vwalk_thin ⟨k, n, s, sub⟩ is d m
    rw [e] at h0
    by_cases h7 : (Vl.walk ⟨k, n, s, sub⟩ d m).1 = 0
    · rw [if_neg (fun h => h h7)] at h0
      exact ⟨iv h7, ir _ h0⟩
    · rw [if_pos h7] at h0; exact absurd h0 h7
theorem check_thin {v : Vl} (h : v.check = 0) : v.k = 3 → v.l.len ≤ 64 ∧ v.l.thin := by
  unfold Vl.check at h
  by_cases h1 : (v.one.walk 0 0).1 = 0
  · rw [one_walk] at h1
    exact vwalk_thin v (walk_thin v.l) 0 0 h1
  · rw [if_pos h1] at h; exact absurd h h1
def IcIs (W : World) (p : Im) (e : Ending) (W' : World) : Prop := (∃ a, e = .returned (.agg (p.clone.cells a).toArray) ∧ ImB (fun k => W.heap.size ≤ k) W' a p.clone) ∧ Ext W W'
abbrev bxA (bx : Nat) (pc pk pn : Option Addr) (nc nk nn cc ck cn : Nat) (pl : Int) : Asr := blkA bx 26 #[.slice pc nc cc, .slice pk nk ck, .slice pn nn cn, .int .i64 pl]
abbrev zrB (rx : Nat) : Asr := blkA rx 26 #[.slice none 0 0, .slice none 0 0, .slice none 0 0, .int .i64 0]
def IcRel (W : World) (p : Im) (vc : Value) (bx rx ox : Nat) (bcs : Array Value) (k : Value) (wr : World) : Prop :=
  ∃ (i : Nat) (s : Value) (es : List El), k = .int .i64 i ∧ i ≤ p.consts.vals.length ∧ es.map Prod.fst = (p.consts.vals.take i).map Vl.clone ∧
    Has W wr [rvA 62 s es, blkA ox 26 #[vc, s, .slice none 0 0, .int .i64 p.places], zrB rx, blkA bx 26 bcs, rowA 52 2 vc p.code.length (cdVs p.code)]
set_option maxHeartbeats 4000000 in
theorem imclone_any (p : Im) (a : Ip) (W : World) (hI : ImAt W a p) (hf : p.Fine) :
    Calls Try.prog 18 #[.agg (p.cells a).toArray] W fun e W' => IcIs W p e W' := by
  obtain ⟨i0, hi0, hz0, hz1, hz2⟩ := info_parts valueInfo
  obtain ⟨j0, hj0, hj1, hj2, hj3⟩ := info_parts strInfoI
  obtain ⟨k0, hk0, hk1, hk2, hk3⟩ := info_parts instrInfo
  obtain ⟨pc, cc, pk, ck, pn, cn⟩ := a
  obtain ⟨hIc, hIo, hIk, hIn, hIq⟩ := hI
  simp only at hIc hIo hIk hIn hIq
  have H1 := (Has.nil (Ext.refl W)).new .nil 26 (p.cells ⟨pc, cc, pk, ck, pn, cn⟩).toArray
  have L1 : Locs [blkA W.heap.size 26 (p.cells ⟨pc, cc, pk, ck, pn, cn⟩).toArray] := .cons (blkA_loc _ _ _) .nil
  have H2 := H1.new L1 26 imzV.toArray
  have L2 := Locs.cons (blkA_loc (W.alloc (.cells (p.cells ⟨pc, cc, pk, ck, pn, cn⟩).toArray 26)).heap.size 26 imzV.toArray) L1
  have H3 := H2.new L2 26 #[.slice none 0 0, .slice none 0 0, .slice none 0 0, .int .i64 p.places]
  have e1 : (W.alloc (.cells (p.cells ⟨pc, cc, pk, ck, pn, cn⟩).toArray 26)).heap.size = W.heap.size + 1 := by simp
  have e2 : ((W.alloc (.cells (p.cells ⟨pc, cc, pk, ck, pn, cn⟩).toArray 26)).alloc (.cells imzV.toArray 26)).heap.size = W.heap.size + 1 + 1 := by simp
  rw [e1, e2] at H3
  simp only [Im.cells, imzV] at H3
  clear H1 H2 L1 L2 e1 e2
  have f1 := hf.ncode
  have f2 := hf.nconsts
  have f3 := hf.nnames
  go_enter Try.func18, Try.ntmps18
  simp only [Im.cells]
  go_upto_region 2 with fail
  generalize World.alloc _ _ = W3 at *
  generalize hbx : W.heap.size = bx at *
  generalize hrx : bx + 1 = rx at *
  generalize hox : rx + 1 = ox at *
  clear hbx hrx hox
  have L1 : Locs [blkA bx 26 #[.slice pc p.code.length cc, .slice pk p.consts.len ck, .slice pn p.names.length cn, .int .i64 p.places]] := .cons (blkA_loc _ _ _) .nil
  have L2 : Locs [zrB rx, blkA bx 26 #[.slice pc p.code.length cc, .slice pk p.consts.len ck, .slice pn p.names.length cn, .int .i64 p.places]] := .cons (blkA_loc _ _ _) L1
  have b0 : W3.cell? ⟨bx, 0, none⟩ = some (.slice pc p.code.length cc) := H3.third.blk0.cell 0
  have o0 : W3.cell? ⟨ox, 0, none⟩ = some (.slice none 0 0) := H3.blk0.cell 0
  have H4 := H3.rowNil (.cons (blkA_loc _ _ _) L2) 52 2
  have hnews := (hIc.keep fun k _ hl => H3.base.block k hl).news
  go_wp2_with (at_builtin; refine wpList_append_new rfl _ _ 22 rfl 52 k0 (.agg #[.int .i64 0, .int .i64 0]) 2 16 Try.underlying22 hk0 hk1 hk2 hk3 rfl (by decide) _ 0 [] rfl H4.row0 pc p.code.length cc (cdVs p.code) rfl (cdVs_length _) hIo.nil_ hnews (cdVs_one _) (by unfold maxLen; omega) (by omega) ?_)
  intro vc w4 hown hg hfr
  have H5 := H4.grow (.cons (blkA_loc _ _ _) L2) hown hg hfr
  (try rw [Nat.zero_add, List.nil_append] at H5)
  obtain ⟨qc, gc, rfl⟩ : ∃ q c, vc = .slice q p.code.length c := by
    first
      | exact ownsRow_slice hown
      | (rw [Nat.zero_add] at hown; exact ownsRow_slice hown)
  clear H3 H4 b0 o0 hnews hown hg hfr
  have o0 : w4.cell? ⟨ox, 0, none⟩ = some (.slice none 0 0) := H5.swap.blk0.cell 0
  have g0 := H5.swap.blk0.frozen 0
  have H6 := H5.swap.setB (.cons (rowA_loc _ _ _ _ _) L2) 0 (.slice qc p.code.length gc)
  simp only [List.setIfInBounds_toArray, List.set_cons_succ, List.set_cons_zero] at H6
  clear H5
  go_upto_region 3 with fail
  generalize World.setCell _ _ _ = w5 at *
  clear o0 g0
  have H7 := H6.rvnil (.cons (blkA_loc _ _ _) (.cons (rowA_loc _ _ _ _ _) L2)) 62
  have H8 := Has.pick (l := [_, _, _, _, _]) H7 [0, 1, 3, 4, 2] rfl
  simp only [pickA, List.map_cons, List.map_nil, List.getD_cons_zero, List.getD_cons_succ, List.cons_append, List.nil_append] at H8
  clear H6 H7
  have b1 : w5.cell? ⟨bx, 1, none⟩ = some (.slice pk p.consts.len ck) := by
    have Hq := Has.pick (l := [_, _, _, _, _]) H8 [3, 0, 1, 2, 4] rfl
    simp only [pickA, List.map_cons, List.map_nil, List.getD_cons_zero, List.getD_cons_succ, List.cons_append, List.nil_append] at Hq
    exact Hq.blk0.cell 1
  have hvl := p.consts.vals_len
  go_wp2_with fail
  clear b1
  go_loopw [18] (fun k wr => IcRel W p (.slice qc p.code.length gc) bx rx ox #[.slice pc p.code.length cc, .slice pk p.consts.len ck, .slice pn p.names.length cn, .int .i64 p.places] k wr) (fun k _ => ((p.consts.len : Int) + 1 - intOf k).toNat)
  case atStart => exact ⟨0, .slice none 0 0, [], rfl, Nat.zero_le _, rfl, H8⟩
  case round =>
    clear H8
    obtain ⟨i, sl, es, rfl, hi, hes, hX⟩ := hrel
    have hel : es.length = i := by
      have := congrArg List.length hes
      simp only [List.length_map, List.length_take] at this
      omega
    obtain ⟨ps, cs, hsl⟩ : ∃ p c, sl = .slice p i c := by
      obtain ⟨F, hF⟩ := hX.head
      exact hel ▸ RowV.slice hF
    subst hsl
    by_cases hlt : i < p.consts.vals.length
    · obtain ⟨b, o, q2, c2, hq, hV2, d0, d1, d2, d3⟩ := hIk.at.fo.get i hlt
      have hmem := List.getElem_mem hlt
      have hthx := check_thin (hf.consts _ hmem)
      have hes2 : (p.consts.vals.take (i + 1)).map Vl.clone = (p.consts.vals.take i).map Vl.clone ++ [p.consts.vals[i].clone] := by
        rw [List.take_succ_eq_append_getElem hlt, List.map_append]; rfl
      have HES := Lib.hid hes2
      have HE0 := Lib.hid hes
      simp only at hq hV2 d0 d1 d2 d3
      subst hq
      clear hes2 hes
      have LX : Locs [rvA 62 (.slice ps i cs) es, blkA ox 26 #[.slice qc p.code.length gc, .slice ps i cs, .slice none 0 0, .int .i64 p.places], zrB rx, blkA bx 26 #[.slice pc p.code.length cc, .slice (some ⟨b, o, none⟩) p.consts.len ck, .slice pn p.names.length cn, .int .i64 p.places], rowA 52 2 (.slice qc p.code.length gc) p.code.length (cdVs p.code)] := .cons (rvA_loc _ _ _) (.cons (blkA_loc _ _ _) (.cons (blkA_loc _ _ _) (.cons (blkA_loc _ _ _) (.cons (rowA_loc _ _ _ _ _) .nil))))
      generalize p.consts.vals[i] = x at *
      replace d0 := cell_ext hX.base d0
      replace d1 := cell_ext hX.base d1
      replace d2 := cell_ext hX.base d2
      replace d3 := cell_ext hX.base d3
      rw [Nat.zero_add, Nat.mul_comm 4 i] at d0 d1 d2 d3
      have i7 : (i : Int) < p.consts.len := by omega
      have X2 := hX.new LX 62 (x.cells q2 c2).toArray
      have hbx2 := X2.blk0
      have hbo2 := X2.third.blk0
      simp only [Vl.cells] at X2 hbx2 hbo2
      go_upto_region 6 with fail
      generalize World.alloc _ _ = wr2 at *
      generalize wr.heap.size = xb at *
      clear d0 d1 d2 d3 hX
      have o3 : ∀ y : Of (fun X => Blk X ox 26 #[.slice qc p.code.length gc, .slice ps i cs, .slice none 0 0, .int .i64 p.places] ∧ Blk X xb 62 #[.int .i64 x.k, .int .i64 x.n, .string ⟨x.s.toArray⟩, .slice q2 x.l.len c2]), y.val.cell? ⟨ox, 1, none⟩ = some (.slice ps i cs) := fun y => y.property.1.cell 1
      have x0 : ∀ y : Of (fun X => Blk X ox 26 #[.slice qc p.code.length gc, .slice ps i cs, .slice none 0 0, .int .i64 p.places] ∧ Blk X xb 62 #[.int .i64 x.k, .int .i64 x.n, .string ⟨x.s.toArray⟩, .slice q2 x.l.len c2]), y.val.cell? ⟨xb, 0, none⟩ = some (.int .i64 x.k) := fun y => y.property.2.cell 0
      have x1 : ∀ y : Of (fun X => Blk X ox 26 #[.slice qc p.code.length gc, .slice ps i cs, .slice none 0 0, .int .i64 p.places] ∧ Blk X xb 62 #[.int .i64 x.k, .int .i64 x.n, .string ⟨x.s.toArray⟩, .slice q2 x.l.len c2]), y.val.cell? ⟨xb, 1, none⟩ = some (.int .i64 x.n) := fun y => y.property.2.cell 1
      have x2 : ∀ y : Of (fun X => Blk X ox 26 #[.slice qc p.code.length gc, .slice ps i cs, .slice none 0 0, .int .i64 p.places] ∧ Blk X xb 62 #[.int .i64 x.k, .int .i64 x.n, .string ⟨x.s.toArray⟩, .slice q2 x.l.len c2]), y.val.cell? ⟨xb, 2, none⟩ = some (.string ⟨x.s.toArray⟩) := fun y => y.property.2.cell 2
      have x3 : ∀ y : Of (fun X => Blk X ox 26 #[.slice qc p.code.length gc, .slice ps i cs, .slice none 0 0, .int .i64 p.places] ∧ Blk X xb 62 #[.int .i64 x.k, .int .i64 x.n, .string ⟨x.s.toArray⟩, .slice q2 x.l.len c2]), y.val.cell? ⟨xb, 3, none⟩ = some (.slice q2 x.l.len c2) := fun y => y.property.2.cell 3
      have hV3 : VlAt wr2.drew q2 c2 x := (hV2.ext X2.base).ext (Ext.refl _).drew
      have hc := clone_n _ x (Nat.lt_succ_self _) wr2.drew q2 c2 hV3 hthx
      simp only [Vl.cells] at hc
      have HCL := Lib.hid hc
      clear hc hV2 hV3 hmem hthx
      have hFd := (And.intro hbo2.drew hbx2.drew)
      have hne_ : Nonempty (Of ((fun X => Blk X ox 26 #[.slice qc p.code.length gc, .slice ps i cs, .slice none 0 0, .int .i64 p.places] ∧ Blk X xb 62 #[.int .i64 x.k, .int .i64 x.n, .string ⟨x.s.toArray⟩, .slice q2 x.l.len c2]))) := ⟨⟨_, hFd⟩⟩
      refine region_planZ 7 (.seg [0,2,1,3,4,5,6] [true,true,true,false,false,false,true] .done) ((fun X => Blk X ox 26 #[.slice qc p.code.length gc, .slice ps i cs, .slice none 0 0, .int .i64 p.places] ∧ Blk X xb 62 #[.int .i64 x.k, .int .i64 x.n, .string ⟨x.s.toArray⟩, .slice q2 x.l.len c2])) (by kernel_rfl) (by kernel_rfl) hFd ?_
      refine walkZ_seg ?_
      simp only [List.filterMap_cons, List.filterMap_nil, List.getElem?_cons_zero, List.getElem?_cons_succ]
      refine steps_quiet 3 (by kernel_rfl) ?_
      simp only [List.take_succ_cons, List.take_zero, List.drop_succ_cons, List.drop_zero]
      repeat (go_big_quiet_step (fail))
      refine wpQuiet_nil ?_
      clear o3 x0 x1 x2 x3
      have LX2 : Locs [blkA xb 62 #[.int .i64 x.k, .int .i64 x.n, .string ⟨x.s.toArray⟩, .slice q2 x.l.len c2], rvA 62 (.slice ps i cs) es, blkA ox 26 #[.slice qc p.code.length gc, .slice ps i cs, .slice none 0 0, .int .i64 p.places], zrB rx, blkA bx 26 #[.slice pc p.code.length cc, .slice (some ⟨b, o, none⟩) p.consts.len ck, .slice pn p.names.length cn, .int .i64 p.places], rowA 52 2 (.slice qc p.code.length gc) p.code.length (cdVs p.code)] := .cons (blkA_loc _ _ _) LX
      have X3 := X2.ext LX2 (Ext.refl _).drew
      refine steps_want rfl (fun K hK => ?_)
      go_simp
      refine HCL.out.mono ?_
      rintro e w6 ⟨⟨q3, c3, rfl, hvx⟩, hE4⟩
      clear HCL
      generalize x.clone = xc at *
      have Y4 := X3.vl LX2 hE4 hvx
      have LY4 := Locs.cons (vlA_loc q3 c3 xc) LX2
      clear X3 X2 hvx hE4 hbo2 hbx2
      have Y4b := Has.pick (l := [_, _, _, _]) Y4 [3, 1, 0, 2] rfl
      simp only [pickA, List.map_cons, List.map_nil, List.getD_cons_zero, List.getD_cons_succ, List.cons_append, List.nil_append] at Y4b
      refine hK _ _ (fun X => Blk X ox 26 #[.slice qc p.code.length gc, .slice ps i cs, .slice none 0 0, .int .i64 p.places] ∧ Blk X xb 62 #[.int .i64 x.k, .int .i64 x.n, .string ⟨x.s.toArray⟩, .slice q2 x.l.len c2]) ⟨Y4b.blk0, Y4b.swap.blk0⟩ (fun _ h => h) ?_
      clear hK K Y4b
      (try simp only [Act.put, List.setIfInBounds_toArray, List.set_cons_succ, List.set_cons_zero])
      have Y5 := Y4.ext LY4 (ext_alloc w6 (.cells (xc.cells q3 c3).toArray 62))
      have hnews := news_new w6 (xc.cells q3 c3) 62
      simp only [Vl.cells] at Y5 hnews
      simp only [Vl.cells]
      refine steps_want rfl (fun K hK => ?_)
      go_simp
      generalize World.alloc _ _ = w7 at *
      clear Y4
      have Y5b := Has.pick (l := [_, _, _, _]) Y5 [3, 1, 0, 2] rfl
      simp only [pickA, List.map_cons, List.map_nil, List.getD_cons_zero, List.getD_cons_succ, List.cons_append, List.nil_append] at Y5b
      refine hK _ _ (fun X => Blk X ox 26 #[.slice qc p.code.length gc, .slice ps i cs, .slice none 0 0, .int .i64 p.places] ∧ Blk X xb 62 #[.int .i64 x.k, .int .i64 x.n, .string ⟨x.s.toArray⟩, .slice q2 x.l.len c2]) ⟨Y5b.blk0, Y5b.swap.blk0⟩ (fun _ h => h) ?_
      clear hK K Y5b
      (try simp only [Act.put, List.setIfInBounds_toArray, List.set_cons_succ, List.set_cons_zero])
      have Y6 := (Y5.third).rvx (e := (xc, q3, c3))
      have LY6 : Locs [blkA xb 62 #[.int .i64 x.k, .int .i64 x.n, .string ⟨x.s.toArray⟩, .slice q2 x.l.len c2], blkA ox 26 #[.slice qc p.code.length gc, .slice ps i cs, .slice none 0 0, .int .i64 p.places], zrB rx, blkA bx 26 #[.slice pc p.code.length cc, .slice (some ⟨b, o, none⟩) p.consts.len ck, .slice pn p.names.length cn, .int .i64 p.places], rowA 52 2 (.slice qc p.code.length gc) p.code.length (cdVs p.code)] := .cons (blkA_loc _ _ _) (.cons (blkA_loc _ _ _) (.cons (blkA_loc _ _ _) (.cons (blkA_loc _ _ _) (.cons (rowA_loc _ _ _ _ _) .nil))))
      obtain ⟨FR, hFR⟩ := Y6.head
      clear Y5
      refine steps_want rfl (fun K hK => ?_)
      refine wp_append_new _ _ 23 rfl 62 i0 (.agg zeroV.toArray) 4 56 Try.underlying23 hi0 hz0 hz1 hz2 rfl (by decide) _ i (els es) rfl (hel ▸ hFR.1.own) (some ⟨w6.heap.size, 0, none⟩) 1 1 (xc.cells q3 c3) rfl rfl (fun h => nomatch h) hnews (cells_one _ _ _) (by unfold maxLen; omega) (by omega) ?_
      intro v6 w8 hown6 hg6 hf6
      have Z6 := Y6.next LY6 (fun F hF => RowV.grow hF.1 hF.2 (hel.symm ▸ hown6) hg6 hf6)
      clear Y6 hFR hnews hown6 hg6 hf6
      obtain ⟨p6, c6, rfl⟩ : ∃ p c, v6 = .slice p (i + 1) c := by
        obtain ⟨F, hF⟩ := Z6.head
        obtain ⟨p, c, h⟩ := RowV.slice hF
        exact ⟨p, c, by rw [h, List.length_append, hel]; rfl⟩
      refine hK _ _ (fun X => Blk X ox 26 #[.slice qc p.code.length gc, .slice ps i cs, .slice none 0 0, .int .i64 p.places] ∧ Blk X xb 62 #[.int .i64 x.k, .int .i64 x.n, .string ⟨x.s.toArray⟩, .slice q2 x.l.len c2]) ⟨Z6.third.blk0, Z6.swap.blk0⟩ (fun _ h => h) ?_
      clear hK K
      (try simp only [Act.put, List.setIfInBounds_toArray, List.set_cons_succ, List.set_cons_zero])
      have o6 : w8.cell? ⟨ox, 1, none⟩ = some (.slice ps i cs) := Z6.third.blk0.cell 1
      have f6 := Z6.third.blk0.frozen 1
      refine steps_quiet 1 (by kernel_rfl) ?_
      simp only [List.take_succ_cons, List.take_zero, List.drop_succ_cons, List.drop_zero]
      repeat (go_big_quiet_step (fail))
      refine wpQuiet_nil ?_
      refine steps_end ?_
      refine walkZ_done rfl rfl (fun K hK => ?_)
      go_simp
      refine hK _ _ ?_
      clear hK K
      try simp only [Act.put, List.setIfInBounds_toArray, List.set_cons_succ, List.set_cons_zero]
      have Z7 := Z6.third.setB (.cons (rvA_loc _ _ _) (.cons (blkA_loc _ _ _) (.cons (blkA_loc _ _ _) (.cons (blkA_loc _ _ _) (.cons (rowA_loc _ _ _ _ _) .nil))))) 1 (.slice p6 (i + 1) c6)
      simp only [List.setIfInBounds_toArray, List.set_cons_succ, List.set_cons_zero] at Z7
      generalize World.setCell _ _ _ = w9 at *
      have Z8 := Z7.third.drop.swap
      clear Z6 Z7 o6 f6
      go_wp2_with fail
      refine ⟨⟨i + 1, .slice p6 (i + 1) c6, es ++ [(xc, q3, c3)], by go_num, by omega, ?_, Z8⟩, by simp [intOf]; omega⟩
      rw [HES.out, List.map_append, HE0.out]; rfl
    · have hi' : i = p.consts.len := by omega
      have i7 : ¬ (i : Int) < p.consts.len := by omega
      rw [List.take_of_length_le (by omega)] at hes
      have HE0 := Lib.hid hes
      have HI := Lib.hid hi'
      clear hes hi' hlt
      have LX : Locs [rvA 62 (.slice ps i cs) es, blkA ox 26 #[.slice qc p.code.length gc, .slice ps i cs, .slice none 0 0, .int .i64 p.places], zrB rx, blkA bx 26 #[.slice pc p.code.length cc, .slice pk p.consts.len ck, .slice pn p.names.length cn, .int .i64 p.places], rowA 52 2 (.slice qc p.code.length gc) p.code.length (cdVs p.code)] := .cons (rvA_loc _ _ _) (.cons (blkA_loc _ _ _) (.cons (blkA_loc _ _ _) (.cons (blkA_loc _ _ _) (.cons (rowA_loc _ _ _ _ _) .nil))))
      have b2 : wr.cell? ⟨bx, 2, none⟩ = some (.slice pn p.names.length cn) := by
        have Hq := Has.pick (l := [_, _, _, _, _]) hX [3, 0, 1, 2, 4] rfl
        simp only [pickA, List.map_cons, List.map_nil, List.getD_cons_zero, List.getD_cons_succ, List.cons_append, List.nil_append] at Hq
        exact Hq.blk0.cell 2
      have o2 : wr.cell? ⟨ox, 2, none⟩ = some (.slice none 0 0) := hX.swap.blk0.cell 2
      have H4 := hX.rowNil LX 9 1
      have hnews := (hIn.keep fun k _ hl => hX.base.block k hl).news
      clear hX
      go_wp2_with (at_builtin; refine wpList_append_new rfl _ _ 24 rfl 9 j0 (.string ⟨#[]⟩) 1 16 Try.underlying24 hj0 hj1 hj2 hj3 rfl (by decide) _ 0 [] rfl H4.row0 pn p.names.length cn (p.names.map nmV) rfl (by rw [List.length_map, Nat.mul_one]) hIq.nil_ hnews (nmV_one _) (by unfold maxLen; omega) (by omega) ?_)
      intro vn w6 hown hg hfr
      have H5 := H4.grow LX hown hg hfr
      (try rw [Nat.zero_add, List.nil_append] at H5)
      obtain ⟨qn, gn, rfl⟩ : ∃ q c, vn = .slice q p.names.length c := by
        first
          | exact ownsRow_slice hown
          | (rw [Nat.zero_add] at hown; exact ownsRow_slice hown)
      clear H4 b2 o2 hnews hown hg hfr
      have o2 : w6.cell? ⟨ox, 2, none⟩ = some (.slice none 0 0) := H5.third.blk0.cell 2
      have g2 := H5.third.blk0.frozen 2
      have H6 := H5.third.setB (.cons (rowA_loc _ _ _ _ _) (.cons (rvA_loc _ _ _) (.cons (blkA_loc _ _ _) (.cons (blkA_loc _ _ _) (.cons (rowA_loc _ _ _ _ _) .nil))))) 2 (.slice qn p.names.length gn)
      simp only [List.setIfInBounds_toArray, List.set_cons_succ, List.set_cons_zero] at H6
      clear H5
      go_upto_region 9 with fail
      generalize World.setCell _ _ _ = w7 at *
      clear o2 g2
      have H7 := Has.pick (l := [_, _, _, _, _, _]) H6 [2, 1, 5, 0, 3, 4] rfl
      simp only [pickA, List.map_cons, List.map_nil, List.getD_cons_zero, List.getD_cons_succ, List.cons_append, List.nil_append] at H7
      have H8 := H7.mkIm p.places
      have hcells : p.clone.cells ⟨qc, gc, ps, cs, qn, gn⟩ = [.slice qc p.code.length gc, .slice ps i cs, .slice qn p.names.length gn, .int .i64 p.places] := by
        unfold Im.cells Im.clone
        simp only [Fo.clone_len]
        rw [HI.out]
      have hcl : (⟨p.code, Fo.of (es.map Prod.fst), p.names, p.places⟩ : Im) = p.clone := by
        rw [HE0.out, Fo.of_map_clone]; rfl
      rw [hcl] at H8
      have HCE := Lib.hid hcells
      clear hcells hcl H6 H7
      have hbo := H8.swap.blk0
      have o0 := hbo.cell 0
      have o1 := hbo.cell 1
      have o2 := hbo.cell 2
      have o3 := hbo.cell 3
      have Hz := Has.pick (l := [_, _, _]) H8 [2, 0, 1] rfl
      simp only [pickA, List.map_cons, List.map_nil, List.getD_cons_zero, List.getD_cons_succ, List.cons_append, List.nil_append] at Hz
      have LZ : Locs [imA ⟨qc, gc, ps, cs, qn, gn⟩ p.clone, blkA ox 26 #[.slice qc p.code.length gc, .slice ps i cs, .slice qn p.names.length gn, .int .i64 p.places], blkA bx 26 #[.slice pc p.code.length cc, .slice pk p.consts.len ck, .slice pn p.names.length cn, .int .i64 p.places]] := .cons (imA_loc _ _) (.cons (blkA_loc _ _ _) (.cons (blkA_loc _ _ _) .nil))
      have hbr := Hz.blk0
      have r0 := hbr.cell 0
      have r1 := hbr.cell 1
      have r2 := hbr.cell 2
      have r3 := hbr.cell 3
      have g0 := hbr.frozen 0
      have g1 := hbr.frozen 1
      have g2 := hbr.frozen 2
      have g3 := hbr.frozen 3
      simp only [List.getElem?_toArray, List.getElem?_cons_zero, List.getElem?_cons_succ] at o0 o1 o2 o3 r0 r1 r2 r3
      have Z9 := (((Hz.setB LZ 0 (.slice qc p.code.length gc)).setB LZ 1 (.slice ps i cs)).setB LZ 2 (.slice qn p.names.length gn)).setB LZ 3 (.int .i64 p.places)
      simp only [List.setIfInBounds_toArray, List.set_cons_succ, List.set_cons_zero] at Z9
      go_wp2_with fail
      generalize World.setCell _ _ _ = w99 at *
      clear o0 o1 o2 o3 r0 r1 r2 r3 g0 g1 g2 g3 hbr hbo
      have hbr := Z9.blk0
      have r0 := hbr.cell 0
      have r1 := hbr.cell 1
      have r2 := hbr.cell 2
      have r3 := hbr.cell 3
      simp only [List.getElem?_toArray, List.getElem?_cons_zero, List.getElem?_cons_succ] at r0 r1 r2 r3
      (try simp only [Exit.inBlock, Exit.then])
      refine bodyPost_ret (by simp [results, Try.results18, go_sem, r0, r1, r2, r3]; try rfl) rfl ?_
      refine ⟨⟨⟨qc, gc, ps, cs, qn, gn⟩, by rw [HCE.out], ?_⟩, Z9.base⟩
      exact Z9.swap.imB
end Go.Proofs.Ytkkhcpknldlpoaa

namespace Go.Proofs.Ytkkhcpknldlpoaa
set_option maxRecDepth 4000
set_option linter.unusedVariables false
set_option linter.unusedSimpArgs false
open Go Go.RowKit
theorem pz_len : (zb 32).length = 32 := by simp [zb]
theorem sumOf_len (nm : List UInt8) (p : Im) : (sumOf nm p).length = 32 := sha_len _
/-- not yet reckoned, or reckoned -/
def pgS (nm : List UInt8) (p : Im) (a : Ip) (done : Bool) : List Value := if done then pgC nm p a 1 0 (sumOf nm p) p.bytes.length else pgC nm p a 0 0 (zb 32) 0
section
variable {nm : List UInt8} {p : Im} {a : Ip} {w W : World} {ps : List Asr} {b : Nat}
theorem do_first {cb : Nat} (hH : Has w W (blkA b 113 (pgC nm p a 0 0 (zb 32) 0).toArray :: blkA cb 58 #[.pointer (some ⟨b, 0, none⟩)] :: imA a p :: ps)) (hl : Locs ps) (hc : p.check = 0) (hok : p.ok) (hnm : nm.length ≤ 64) :
    Calls Try.prog 71 #[.pointer (some ⟨b, 5, none⟩), .func (.func 72) #[] #[.pointer (some ⟨cb, 0, none⟩)]] W fun e W' => e = .returned (.tuple #[]) ∧ Has w W' (blkA b 113 (pgC nm p a 1 0 (sumOf nm p) p.bytes.length).toArray :: blkA cb 58 #[.pointer (some ⟨b, 0, none⟩)] :: imA a p :: ps) := by
  have hld := load_any ⟨b, 5, none⟩ 0 W (hH.blk0.cell 5)
  have hslow := slow_any hH hl hc hok hnm
  have hnot : ∀ (x : Bool) (w : World), (Op.unary .not (.bool x)).run Try.prog w = .ok (.bool (!x)) w := fun _ _ => rfl
  go_enter Try.func71, Try.ntmps71
  go_wp2_with fail
  refine hld.mono ?_
  rintro e w' ⟨rfl, rfl⟩
  go_wp2_with fail
  refine hslow.mono ?_
  rintro e w2 ⟨rfl, H2⟩
  go_wp2_with fail
  go_returns
  exact ⟨rfl, H2⟩
theorem do_done (fv : Value) (hc : W.cell? ⟨b, 5, none⟩ = some (.int .u32 1)) : Calls Try.prog 71 #[.pointer (some ⟨b, 5, none⟩), fv] W fun e W' => e = .returned (.tuple #[]) ∧ W' = W := by
  have hld := load_any ⟨b, 5, none⟩ 1 W hc
  have hnot : ∀ (x : Bool) (w : World), (Op.unary .not (.bool x)).run Try.prog w = .ok (.bool (!x)) w := fun _ _ => rfl
  go_enter Try.func71, Try.ntmps71
  go_wp2_with fail
  refine hld.mono ?_
  rintro e w' ⟨rfl, rfl⟩
  go_wp2_with fail
  go_returns
  exact ⟨rfl, rfl⟩
theorem reckon_any (done : Bool) (hH : Has w W (blkA b 113 (pgS nm p a done).toArray :: imA a p :: ps)) (hl : Locs ps) (hc : p.check = 0) (hok : p.ok) (hnm : nm.length ≤ 64) :
    Calls Try.prog 61 #[.pointer (some ⟨b, 0, none⟩)] W fun e W' => e = .returned (.tuple #[]) ∧ Has w W' (blkA b 113 (pgS nm p a true).toArray :: imA a p :: ps) := by
  have hmf : ∀ (fn : Fn) (first cap : Array Value) (w : World), (Instr.makeFunc fn first cap).run Try.prog w = .ok (.func fn first cap) w := fun _ _ _ _ => rfl
  have H1 := (hH.new (.cons (blkA_loc _ _ _) (.cons (imA_loc _ _) hl)) 58 #[.pointer (some ⟨b, 0, none⟩)]).swap
  cases done with
  | false =>
    have hdo := do_first (nm := nm) (p := p) (a := a) H1 hl hc hok hnm
    go_enter Try.func61, Try.ntmps61
    go_wp2_with fail
    refine hdo.mono ?_
    rintro e w2 ⟨rfl, H2⟩
    clear hdo H1
    go_wp2_with fail
    go_returns
    exact ⟨rfl, H2.swap.drop⟩
  | true =>
    have hdo := fun fv => do_done (b := b) fv (H1.blk0.cell 5)
    go_enter Try.func61, Try.ntmps61
    go_wp2_with fail
    refine (hdo _).mono ?_
    rintro e w2 ⟨rfl, rfl⟩
    clear hdo
    go_wp2_with fail
    go_returns
    exact ⟨rfl, H1.swap.drop⟩
theorem pbytes_any (done : Bool) (hH : Has w W (blkA b 113 (pgS nm p a done).toArray :: imA a p :: ps)) (hl : Locs ps) (hc : p.check = 0) (hok : p.ok) (hnm : nm.length ≤ 64) :
    Calls Try.prog 32 #[.pointer (some ⟨b, 0, none⟩)] W fun e W' => e = .returned (.int .i64 p.bytes.length) ∧ Has w W' (blkA b 113 (pgS nm p a true).toArray :: imA a p :: ps) := by
  have hr := reckon_any done hH hl hc hok hnm
  go_enter Try.func32, Try.ntmps32
  go_wp2_with fail
  refine hr.mono ?_
  rintro e w2 ⟨rfl, H2⟩
  clear hr hH
  have c40 : w2.cell? ⟨b, 40, none⟩ = some (.int .i64 p.bytes.length) := (H2.blk0.cell 40).trans (pg_at40 (sumOf_len nm p))
  go_wp2_with fail
  go_returns
  exact ⟨rfl, H2⟩
theorem psum_any (done : Bool) (hH : Has w W (blkA b 113 (pgS nm p a done).toArray :: imA a p :: ps)) (hl : Locs ps) (hc : p.check = 0) (hok : p.ok) (hnm : nm.length ≤ 64) :
    Calls Try.prog 31 #[.pointer (some ⟨b, 0, none⟩)] W fun e W' => e = .returned (smV (sumOf nm p)) ∧ Has w W' (blkA b 113 (pgS nm p a true).toArray :: imA a p :: ps) := by
  have H1 := hH.new (.cons (blkA_loc _ _ _) (.cons (imA_loc _ _) hl)) 66 (u8s (zb 32)).toArray
  have hr := reckon_any (ps := blkA W.heap.size 66 (u8s (zb 32)).toArray :: ps) done (by
    have h2 := H1.swap
    exact h2.perm (List.Perm.cons _ (List.Perm.swap _ _ _))) (.cons (blkA_loc _ _ _) hl) hc hok hnm
  have hsl := sumOf_len nm p
  go_enter Try.func31, Try.ntmps31
  go_wp2_with fail
  refine hr.mono ?_
  rintro e w2 ⟨rfl, H2⟩
  clear hr hH H1
  generalize W.heap.size = rx at *
  have hrg : w2.rangeAt b 8 (u8s (sumOf nm p)) := pg_range H2.blk0
  have H3 := H2.third
  have hrb := H3.blk0
  have H4 := BdA_row (l' := sumOf nm p) H3 (.cons (blkA_loc _ _ _) (.cons (imA_loc _ _) hl))
  go_wp2_with (first
    | (refine wpList_load_mid rfl 66 _ rfl b 8 rfl (u8s (sumOf nm p)) _ hrg Try.underlying66 rfl (by rw [u8s_length, hsl]; kernel_rfl) ?_)
    | (refine wpList_store_row rfl _ _ _ rfl rx (u8s (sumOf nm p)).toArray rfl rfl _ _ hrb (smSize hsl) (by simp [zb, u8s, hsl]) (u8s_oneAll _) ?_))
  have hF3 := H4.blk0
  exact bodyPost_ret (v := smV (sumOf nm p)) (results_cell_row Try.results31 _ _ _ _ _ _ _ rfl hF3 Try.underlying66 rfl (smSize hsl)) rfl ⟨rfl, H4.drop⟩
theorem pname_any (done : Bool) (hH : Has w W (blkA b 113 (pgS nm p a done).toArray :: ps)) :
    Calls Try.prog 33 #[.pointer (some ⟨b, 0, none⟩)] W fun e W' => e = .returned (.string ⟨nm.toArray⟩) ∧ W = W' := by
  have c0 : W.cell? ⟨b, 0, none⟩ = some (.string ⟨nm.toArray⟩) := by
    cases done <;> exact hH.blk0.cell 0
  go_enter Try.func33, Try.ntmps33
  go_wp2_with fail
  go_returns
  exact ⟨rfl, rfl⟩
theorem pimage_any (done : Bool) (hH : Has w W (blkA b 113 (pgS nm p a done).toArray :: imA a p :: ps)) (hf : p.Fine) :
    Calls Try.prog 29 #[.pointer (some ⟨b, 0, none⟩)] W fun e W' => IcIs W p e W' := by
  obtain ⟨pc, cc, pk, ck, pn, cn⟩ := a
  have hI := hH.swap.im
  have c1 : W.cell? ⟨b, 1, none⟩ = some (.slice pc p.code.length cc) := by cases done <;> exact hH.blk0.cell 1
  have c2 : W.cell? ⟨b, 2, none⟩ = some (.slice pk p.consts.len ck) := by cases done <;> exact hH.blk0.cell 2
  have c3 : W.cell? ⟨b, 3, none⟩ = some (.slice pn p.names.length cn) := by cases done <;> exact hH.blk0.cell 3
  have c4 : W.cell? ⟨b, 4, none⟩ = some (.int .i64 p.places) := by cases done <;> exact hH.blk0.cell 4
  have hblt := hH.blk0.lt
  have hE1 := ext_alloc W (.cells imzV.toArray 26)
  have hcl := Lib.hid (imclone_any p _ _ (hI.ext hE1) hf)
  have H1 := (Has.nil (Ext.refl W)).new .nil 26 imzV.toArray
  have k1 := (hE1.cell _ _ hblt).trans c1
  have k2 := (hE1.cell _ _ hblt).trans c2
  have k3 := (hE1.cell _ _ hblt).trans c3
  have k4 := (hE1.cell _ _ hblt).trans c4
  simp only [Im.cells, imzV] at hcl H1 k1 k2 k3 k4
  clear c1 c2 c3 c4 hE1 hH
  go_enter Try.func29, Try.ntmps29
  go_upto_region 1 with fail
  generalize hW1 : World.alloc _ _ = W1 at *
  have hsz : W1.heap.size = W.heap.size + 1 := by rw [← hW1]; simp
  generalize hrx : W.heap.size = rx at *
  clear hW1
  go_wp2_with fail
  refine hcl.out.mono ?_
  rintro e w2 ⟨⟨⟨qc, gc, qk, gk, qn, gn⟩, rfl, hB⟩, hE2⟩
  clear hcl k1 k2 k3 k4
  have H2 := H1.ext (.cons (blkA_loc _ _ _) .nil) hE2
  have H3 : Has W w2 [imA ⟨qc, gc, qk, gk, qn, gn⟩ p.clone, blkA rx 26 #[.slice none 0 0, .slice none 0 0, .slice none 0 0, .int .i64 0]] :=
    H1.add (F := fun k => W1.heap.size ≤ k ∧ k < w2.heap.size) (.cons (blkA_loc _ _ _) .nil) hE2 ⟨hB.mono fun k h1 h2 => ⟨h1, h2⟩, fun k hk => hk.2⟩ (fun k hk => hk.1)
  have H4 := H3.swap
  have hbr := H4.blk0
  have r0 := hbr.cell 0
  have r1 := hbr.cell 1
  have r2 := hbr.cell 2
  have r3 := hbr.cell 3
  have g0 := hbr.frozen 0
  have g1 := hbr.frozen 1
  have g2 := hbr.frozen 2
  have g3 := hbr.frozen 3
  simp only [List.getElem?_toArray, List.getElem?_cons_zero, List.getElem?_cons_succ] at r0 r1 r2 r3
  have LZ : Locs [imA ⟨qc, gc, qk, gk, qn, gn⟩ p.clone] := .cons (imA_loc _ _) .nil
  have Z9 := (((H4.setB LZ 0 (.slice qc p.clone.code.length gc)).setB LZ 1 (.slice qk p.clone.consts.len gk)).setB LZ 2 (.slice qn p.clone.names.length gn)).setB LZ 3 (.int .i64 p.clone.places)
  simp only [List.setIfInBounds_toArray, List.set_cons_succ, List.set_cons_zero] at Z9
  simp only [Im.cells]
  clear H1 H2 H3 H4
  go_wp2_with fail
  generalize World.setCell _ _ _ = w99 at *
  clear r0 r1 r2 r3 g0 g1 g2 g3 hbr
  have hbr := Z9.blk0
  have r0 := hbr.cell 0
  have r1 := hbr.cell 1
  have r2 := hbr.cell 2
  have r3 := hbr.cell 3
  simp only [List.getElem?_toArray, List.getElem?_cons_zero, List.getElem?_cons_succ] at r0 r1 r2 r3
  (try simp only [Exit.inBlock, Exit.then])
  refine bodyPost_ret (by simp [results, Try.results29, go_sem, r0, r1, r2, r3]; try rfl) rfl ?_
  subst hrx
  exact ⟨⟨⟨qc, gc, qk, gk, qn, gn⟩, rfl, Z9.swap.imB⟩, Z9.base⟩
end
end Go.Proofs.Ytkkhcpknldlpoaa

namespace Go.Proofs.Ytkkhcpknldlpoaa
set_option maxRecDepth 4000
set_option linter.unusedVariables false
set_option linter.unusedSimpArgs false
open Go Go.RowKit
def newE (nm : List UInt8) (p : Im) : Int := if 64 < nm.length then 2 else p.check
/-- no program, and why; or one of one's own -/
def NewIs (W : World) (nm : List UInt8) (p : Im) (e : Ending) (W' : World) : Prop :=
  (newE nm p ≠ 0 ∧ e = .returned (.tuple #[.pointer none, .int .i64 (newE nm p)]) ∧ Ext W W') ∨
  (newE nm p = 0 ∧ ∃ b a, e = .returned (.tuple #[.pointer (some ⟨b, 0, none⟩), .int .i64 0]) ∧ Has W W' [blkA b 113 (pgS nm p.clone a false).toArray, imA a p.clone])
set_option maxHeartbeats 4000000 in
theorem new_any (nm : List UInt8) (p : Im) (a : Ip) (W : World) (hI : ImAt W a p) (hok : p.ok) (hb : ∀ v ∈ p.consts.vals, v.bytes.length ≤ 70368744170000) :
    Calls Try.prog 27 #[.string ⟨nm.toArray⟩, .agg (p.cells a).toArray] W fun e W' => NewIs W nm p e W' := by
  obtain ⟨pc, cc, pk, ck, pn, cn⟩ := a
  have H1 := (Has.nil (Ext.refl W)).new .nil 26 (p.cells ⟨pc, cc, pk, ck, pn, cn⟩).toArray
  have hck := Lib.hid (imcheck_any p ⟨pc, cc, pk, ck, pn, cn⟩ _ (hI.ext H1.base) hok hb)
  have hsz : (⟨nm.toArray⟩ : ByteArray).size = nm.length := rfl
  have hE1 := H1.base
  have hbl := H1.blk0
  simp only [Im.cells] at hck hE1 hbl H1
  go_enter Try.func27, Try.ntmps27
  simp only [Im.cells]
  go_upto_region 1 with fail
  generalize World.alloc _ _ = W1 at *
  generalize W.heap.size = bx at *
  by_cases hn : 64 < nm.length
  · have hnE : newE nm p = 2 := if_pos hn
    have HN := Lib.hid hnE
    have g1 : (64 : Int) < ((⟨nm.toArray⟩ : ByteArray).size : Int) := by rw [hsz]; omega
    clear hnE hn
    go_wp2_with fail
    go_returns
    exact Or.inl ⟨by rw [HN.out]; decide, by rw [HN.out]; rfl, hE1⟩
  have hnE : newE nm p = p.check := if_neg hn
  have HN := Lib.hid hnE
  have g1 : ¬ (64 : Int) < ((⟨nm.toArray⟩ : ByteArray).size : Int) := by rw [hsz]; omega
  have b0 : W1.cell? ⟨bx, 0, none⟩ = some (.slice pc p.code.length cc) := hbl.cell 0
  have b1 : W1.cell? ⟨bx, 1, none⟩ = some (.slice pk p.consts.len ck) := hbl.cell 1
  have b2 : W1.cell? ⟨bx, 2, none⟩ = some (.slice pn p.names.length cn) := hbl.cell 2
  have b3 : W1.cell? ⟨bx, 3, none⟩ = some (.int .i64 p.places) := hbl.cell 3
  clear hnE
  go_wp2_with fail
  refine hck.out.mono ?_
  rintro e w2 ⟨rfl, hE2⟩
  have hlt := hbl.lt
  replace b0 := (hE2.cell _ _ hlt).trans b0
  replace b1 := (hE2.cell _ _ hlt).trans b1
  replace b2 := (hE2.cell _ _ hlt).trans b2
  replace b3 := (hE2.cell _ _ hlt).trans b3
  by_cases hce : p.check = 0
  case neg =>
    have hc1 : (p.check != 0) = true := by simp [hce]
    have hc2 : (p.check == 0) = false := by simp [hce]
    go_wp2_with fail
    go_returns
    exact Or.inl ⟨by rw [HN.out]; exact hce, by rw [HN.out]; rfl, hE1.trans hE2⟩
  have hc1 : (p.check != 0) = false := by simp [hce]
  have hcl := Lib.hid (imclone_any p ⟨pc, cc, pk, ck, pn, cn⟩ w2 ((hI.ext hE1).ext hE2) (Im.fine hce))
  simp only [Im.cells] at hcl
  have HCE := Lib.hid hce
  generalize hcee : p.check = ce at hc1 ⊢
  clear hce hcee
  go_wp2_with fail
  refine hcl.out.mono ?_
  rintro e w3 ⟨⟨⟨qc, gc, qk, gk, qn, gn⟩, rfl, hB⟩, hE3⟩
  clear hcl b0 b1 b2 b3
  have H3 : Has W w3 [imA ⟨qc, gc, qk, gk, qn, gn⟩ p.clone] :=
    (Has.nil (hE1.trans hE2)).add (F := fun k => w2.heap.size ≤ k ∧ k < w3.heap.size) .nil hE3 ⟨hB.mono fun k h1 h2 => ⟨h1, h2⟩, fun k hk => hk.2⟩ (fun k hk => hk.1)
  have H4 := H3.new (.cons (imA_loc _ _) .nil) 113 (pgS nm p.clone ⟨qc, gc, qk, gk, qn, gn⟩ false).toArray
  simp only [Im.cells]
  go_wp2_with fail
  go_returns
  refine Or.inr ⟨by rw [HN.out]; exact HCE.out, w3.heap.size, ⟨qc, gc, qk, gk, qn, gn⟩, rfl, ?_⟩
  exact H4
end Go.Proofs.Ytkkhcpknldlpoaa

namespace Go.Proofs.Ytkkhcpknldlpoaa
set_option maxRecDepth 4000
set_option linter.unusedVariables false
set_option linter.unusedSimpArgs false
open Go Go.RowKit
/-- what v holds is handed back: H: the reader, the count, v, the result -/
def RdIs (w : World) (r cb : Nat) (e0 : Int) (ps : List Asr) (o : (Vl × Nat) × Rd) (e : Ending) (W' : World) : Prop :=
  ∃ q c, e = .returned (.agg (o.1.1.cells q c).toArray) ∧ Has w W' (vlA q c o.1.1 :: rA r o.2 :: blkA cb 121 #[.int .i64 o.1.2, .int .i64 e0] :: ps)
theorem overP_pos {p : Nat} (h : 256 < p + 1) (s : Rd) : (overP p s).2 = s.fail 2 := by unfold overP; rw [if_pos h]; rfl
theorem overP_neg {p : Nat} (h : ¬ 256 < p + 1) (s : Rd) : (overP p s).2 = s := by unfold overP; rw [if_neg h]; rfl
theorem loopV_len {g : Nat → RdM (Vl × Nat)} : ∀ m p s, (loopV g m p s).1.1.length = m
  | 0, _, _ => rfl
  | m + 1, p, s => by
    show ((loopV g m p s).1.1 ++ [_]).length = _
    rw [List.length_append, loopV_len m]; rfl
theorem loopV_succ {g : Nat → RdM (Vl × Nat)} {m p m1 m2 : Nat} {s s1 s2 : Rd} {l : List Vl} {v : Vl} (h : loopV g m p s = ((l, m1), s1)) (h2 : g m1 s1 = ((v, m2), s2)) : loopV g (m + 1) p s = ((l ++ [v], m2), s2) := by
  show rBind (loopV g m p) (fun x => rBind (g x.2) fun y => rPure (x.1 ++ [y.1], y.2)) s = _
  unfold rBind rPure
  simp only [h, h2]
def RdRel (w : World) (r cb vx rx x : Nat) (e0 : Int) (ps : List Asr) (g : Nat → RdM (Vl × Nat)) (p0 n : Nat) (s0 : Rd) (k : Value) (wr : World) : Prop :=
  ∃ (i m : Nat) (s' : Rd) (sl : Value) (es : List El), k = .int .u64 i ∧ i ≤ n ∧ loopV g i p0 s0 = ((es.map Prod.fst, m), s') ∧
    Has w wr (rA r s' :: blkA cb 121 #[.int .i64 m, .int .i64 e0] :: blkA vx 62 #[.int .i64 x, .int .i64 0, .string ⟨#[]⟩, sl] :: blkA rx 62 #[.int .i64 0, .int .i64 0, .string ⟨#[]⟩, .slice none 0 0] :: rvA 62 sl es :: ps)
set_option maxHeartbeats 8000000 in
theorem read_n : ∀ (f : Nat) (w W : World) (ps : List Asr) (r cb : Nat) (e0 : Int) (s : Rd) (d p : Nat), d + f = 8 → Has w W (rA r s :: blkA cb 121 #[.int .i64 p, .int .i64 e0] :: ps) → Locs ps → p + 65 ^ (f + 1) ≤ 4611686018427387904 →
    Calls Try.prog 67 #[.pointer (some ⟨cb, 0, none⟩), .pointer (some ⟨r, 0, none⟩), .int .i64 d] W fun e W' => RdIs w r cb e0 ps (readV f p s) e W' :=
  by
    intro f
    induction f using Nat.strongRecOn with
    | _ f ih =>
    intro w W ps r cb e0 s d p hd hH hl hp
    obtain ⟨i0, hi0, hz0, hz1, hz2⟩ := info_parts valueInfo
    have h65 : 1 ≤ 65 ^ (f + 1) := Nat.pow_pos (by omega)
    have hv0 := readV_rest f p s
    have L0 : Locs (rA r s :: blkA cb 121 #[.int .i64 p, .int .i64 e0] :: ps) := .cons (rA_loc _ _) (.cons (blkA_loc _ _ _) hl)
    have H1 := hH.new L0 62 zeroV.toArray
    simp only [zeroV] at H1
    clear hH
    have hxlt := s.byte_lt
    generalize hbyte : s.byte = o at *
    obtain ⟨x, s1⟩ := o
    simp only at hv0 hxlt
    have HB := Lib.hid hbyte
    clear hbyte
    go_enter Try.func67, Try.ntmps67
    go_upto_region 1 with fail
    generalize World.alloc _ _ = W1 at *
    generalize W.heap.size = rx at *
    have LZ : Locs (blkA rx 62 #[.int .i64 0, .int .i64 0, .string ⟨#[]⟩, .slice none 0 0] :: blkA cb 121 #[.int .i64 p, .int .i64 e0] :: ps) := .cons (blkA_loc _ _ _) (.cons (blkA_loc _ _ _) hl)
    go_wp2_with fail
    refine (H1.swap.act LZ fun F hF => HB.out ▸ rbyte_any hF).mono ?_
    rintro e w2 ⟨rfl, H2⟩
    simp only at H2
    clear H1 L0
    have L2 : Locs (rA r s1 :: blkA rx 62 #[.int .i64 0, .int .i64 0, .string ⟨#[]⟩, .slice none 0 0] :: blkA cb 121 #[.int .i64 p, .int .i64 e0] :: ps) := .cons (rA_loc _ _) LZ
    have H3 := H2.new L2 62 #[.int .i64 x, .int .i64 0, .string ⟨#[]⟩, .slice none 0 0]
    go_upto_region 2 with fail
    generalize World.alloc _ _ = W3 at *
    generalize w2.heap.size = vx at *
    clear H2 L2 LZ
    have H4 := Has.pick (l := [_, _, _, _]) H3 [3, 1, 0, 2] rfl
    simp only [pickA, List.map_cons, List.map_nil, List.getD_cons_zero, List.getD_cons_succ, List.cons_append, List.nil_append] at H4
    have hbc := H4.blk0
    have c0 : W3.cell? ⟨cb, 0, none⟩ = some (.int .i64 p) := hbc.cell 0
    have g0 := hbc.frozen 0
    have L4 : Locs (rA r s1 :: blkA vx 62 #[.int .i64 x, .int .i64 0, .string ⟨#[]⟩, .slice none 0 0] :: blkA rx 62 #[.int .i64 0, .int .i64 0, .string ⟨#[]⟩, .slice none 0 0] :: ps) := .cons (rA_loc _ _) (.cons (blkA_loc _ _ _) (.cons (blkA_loc _ _ _) hl))
    have H5 := H4.setB L4 0 (.int .i64 ((p : Int) + 1))
    simp only [List.setIfInBounds_toArray, List.set_cons_succ, List.set_cons_zero] at H5
    clear H3 H4 hbc L4
    go_upto_region 3 with fail
    generalize World.setCell _ _ _ = W4 at *
    clear c0 g0
    have c0 : W4.cell? ⟨cb, 0, none⟩ = some (.int .i64 ((p : Int) + 1)) := H5.blk0.cell 0
    have L5 : Locs (blkA cb 121 #[.int .i64 ((p : Int) + 1), .int .i64 e0] :: blkA vx 62 #[.int .i64 x, .int .i64 0, .string ⟨#[]⟩, .slice none 0 0] :: blkA rx 62 #[.int .i64 0, .int .i64 0, .string ⟨#[]⟩, .slice none 0 0] :: ps) := .cons (blkA_loc _ _ _) (.cons (blkA_loc _ _ _) (.cons (blkA_loc _ _ _) hl))
    by_cases h1 : 256 < p + 1
    · rw [overP_pos h1] at hv0
      have g1 : (256 : Int) < (p : Int) + 1 := by omega
      go_wp2_with fail
      refine (H5.swap.act L5 fun F hF => rfail_any hF 2).mono ?_
      rintro e w5 ⟨rfl, H6⟩
      clear H5 c0 g1 h1
      generalize s1.fail 2 = s2 at *
      go_upto_region 5 with fail
      clear HB
      have hbl := H6.third.blk0
      have v0 : w5.cell? ⟨vx, 0, none⟩ = some (.int .i64 x) := hbl.cell 0
      have v1 : w5.cell? ⟨vx, 1, none⟩ = some (.int .i64 0) := hbl.cell 1
      have v2 : w5.cell? ⟨vx, 2, none⟩ = some (.string ⟨#[]⟩) := hbl.cell 2
      have u1 := hbl.frozen 1
      have u2 := hbl.frozen 2
      have lc : Loc (blkA cb 121 #[.int .i64 ((p : Int) + 1), .int .i64 e0]) := blkA_loc _ _ _
      have lr : Loc (blkA rx 62 #[.int .i64 0, .int .i64 0, .string ⟨#[]⟩, .slice none 0 0]) := blkA_loc _ _ _
      have L6 : Locs (blkA cb 121 #[.int .i64 ((p : Int) + 1), .int .i64 e0] :: blkA vx 62 #[.int .i64 x, .int .i64 0, .string ⟨#[]⟩, .slice none 0 0] :: blkA rx 62 #[.int .i64 0, .int .i64 0, .string ⟨#[]⟩, .slice none 0 0] :: ps) := .cons lc (.cons (blkA_loc _ _ _) (.cons lr hl))
      clear hbl
      by_cases x0 : x = 0
      · have ex0 : ((x : Int) == 0) = true := by simp; omega
        have hv1 : readV f p s = ((⟨0, 0, [], .nil⟩, p + 1), s2) := by rw [hv0, x0, restV_0]
        have HV := Lib.hid hv1
        have HX := Lib.hid x0
        have LR : Locs (rA r s2 :: blkA cb 121 #[.int .i64 ((p : Int) + 1), .int .i64 e0] :: blkA vx 62 #[.int .i64 x, .int .i64 0, .string ⟨#[]⟩, .slice none 0 0] :: ps) := .cons (rA_loc _ _) (.cons lc (.cons (blkA_loc _ _ _) hl))
        clear hv0 hv1 x0
        go_upto_region 21 with fail
        clear v0 v1 v2 u1 u2
        have hbo := H6.third.blk0
        have Hr := Has.pick (l := [_, _, _, _]) H6 [3, 0, 1, 2] rfl
        simp only [pickA, List.map_cons, List.map_nil, List.getD_cons_zero, List.getD_cons_succ, List.cons_append, List.nil_append] at Hr
        have hbr := Hr.blk0
        have o0 := hbo.cell 0
        have o1 := hbo.cell 1
        have o2 := hbo.cell 2
        have o3 := hbo.cell 3
        have r0 := hbr.cell 0
        have r1 := hbr.cell 1
        have r2 := hbr.cell 2
        have r3 := hbr.cell 3
        have f0 := hbr.frozen 0
        have f1 := hbr.frozen 1
        have f2 := hbr.frozen 2
        have f3 := hbr.frozen 3
        simp only [List.getElem?_toArray, List.getElem?_cons_zero, List.getElem?_cons_succ] at o0 o1 o2 o3 r0 r1 r2 r3
        have H8 := (((Hr.setB LR 0 (.int .i64 x)).setB LR 1 (.int .i64 0)).setB LR 2 (.string ⟨#[]⟩)).setB LR 3 (.slice none 0 0)
        simp only [List.setIfInBounds_toArray, List.set_cons_succ, List.set_cons_zero] at H8
        clear Hr
        go_wp2_with fail
        generalize World.setCell _ _ _ = w9 at *
        clear o0 o1 o2 o3 r0 r1 r2 r3 f0 f1 f2 f3 hbo hbr
        have hbr := H8.blk0
        have r0 := hbr.cell 0
        have r1 := hbr.cell 1
        have r2 := hbr.cell 2
        have r3 := hbr.cell 3
        simp only [List.getElem?_toArray, List.getElem?_cons_zero, List.getElem?_cons_succ] at r0 r1 r2 r3
        (try simp only [Exit.inBlock, Exit.then])
        refine bodyPost_ret (by simp [results, Try.results67, go_sem, r0, r1, r2, r3]; try rfl) rfl ?_
        have H9 := H8.drop.third.drop
        have H10 := H9.vnone (.cons (rA_loc _ _) (.cons lc hl)) 0 0 []
        exact ⟨none, 0, by rw [HV.out, HX.out]; rfl, by rw [HV.out]; exact H10⟩
      have ex0 : ((x : Int) == 0) = false := by simp; omega
      by_cases x1 : x = 1
      · have ex1 : ((x : Int) == 1) = true := by simp; omega
        have hv1 : readV f p s = ((⟨1, zagI (s2.num 18446744073709551615).1, [], .nil⟩, p + 1), (s2.num 18446744073709551615).2) := by rw [hv0, x1, restV_1]
        have HV := Lib.hid hv1
        have HX := Lib.hid x1
        clear hv0 hv1 x0 x1
        have hint := H6.act L6 fun F hF => rint_any hF
        generalize zagI (s2.num 18446744073709551615).1 = n1 at *
        generalize (s2.num 18446744073709551615).2 = s3 at *
        go_wp2_with fail
        refine hint.mono ?_
        rintro e w6 ⟨rfl, H7⟩
        clear hint v0 v1 v2 u1 u2 H6
        have v1 : w6.cell? ⟨vx, 1, none⟩ = some (.int .i64 0) := H7.third.blk0.cell 1
        have u1 := H7.third.blk0.frozen 1
        have H8 := H7.third.setB (.cons (rA_loc _ _) (.cons lc (.cons lr hl))) 1 (.int .i64 n1)
        simp only [List.setIfInBounds_toArray, List.set_cons_succ, List.set_cons_zero] at H8
        have H6 := H8.third.third
        have LR : Locs (rA r s3 :: blkA cb 121 #[.int .i64 ((p : Int) + 1), .int .i64 e0] :: blkA vx 62 #[.int .i64 x, .int .i64 n1, .string ⟨#[]⟩, .slice none 0 0] :: ps) := .cons (rA_loc _ _) (.cons lc (.cons (blkA_loc _ _ _) hl))
        clear H7 H8
        go_upto_region 21 with fail
        generalize World.setCell _ _ _ = w7 at *
        clear v1 u1
        have hbo := H6.third.blk0
        have Hr := Has.pick (l := [_, _, _, _]) H6 [3, 0, 1, 2] rfl
        simp only [pickA, List.map_cons, List.map_nil, List.getD_cons_zero, List.getD_cons_succ, List.cons_append, List.nil_append] at Hr
        have hbr := Hr.blk0
        have o0 := hbo.cell 0
        have o1 := hbo.cell 1
        have o2 := hbo.cell 2
        have o3 := hbo.cell 3
        have r0 := hbr.cell 0
        have r1 := hbr.cell 1
        have r2 := hbr.cell 2
        have r3 := hbr.cell 3
        have f0 := hbr.frozen 0
        have f1 := hbr.frozen 1
        have f2 := hbr.frozen 2
        have f3 := hbr.frozen 3
        simp only [List.getElem?_toArray, List.getElem?_cons_zero, List.getElem?_cons_succ] at o0 o1 o2 o3 r0 r1 r2 r3
        have H8 := (((Hr.setB LR 0 (.int .i64 x)).setB LR 1 (.int .i64 n1)).setB LR 2 (.string ⟨#[]⟩)).setB LR 3 (.slice none 0 0)
        simp only [List.setIfInBounds_toArray, List.set_cons_succ, List.set_cons_zero] at H8
        clear Hr
        go_wp2_with fail
        generalize World.setCell _ _ _ = w9 at *
        clear o0 o1 o2 o3 r0 r1 r2 r3 f0 f1 f2 f3 hbo hbr
        have hbr := H8.blk0
        have r0 := hbr.cell 0
        have r1 := hbr.cell 1
        have r2 := hbr.cell 2
        have r3 := hbr.cell 3
        simp only [List.getElem?_toArray, List.getElem?_cons_zero, List.getElem?_cons_succ] at r0 r1 r2 r3
        (try simp only [Exit.inBlock, Exit.then])
        refine bodyPost_ret (by simp [results, Try.results67, go_sem, r0, r1, r2, r3]; try rfl) rfl ?_
        have H9 := H8.drop.third.drop
        have H10 := H9.vnone (.cons (rA_loc _ _) (.cons lc hl)) 1 n1 []
        exact ⟨none, 0, by rw [HV.out, HX.out]; rfl, by rw [HV.out]; exact H10⟩
      have ex1 : ((x : Int) == 1) = false := by simp; omega
      by_cases x2 : x = 2
      · have ex2 : ((x : Int) == 2) = true := by simp; omega
        have hv1 : readV f p s = ((⟨2, 0, s2.text.1, .nil⟩, p + 1), (overT s2.text.1 s2.text.2).2) := by rw [hv0, x2, restV_2]
        have HX := Lib.hid x2
        clear hv0 x0 x1 x2
        have htx := H6.act L6 fun F hF => rtext_any hF
        generalize s2.text.1 = t1 at *
        generalize s2.text.2 = s3 at *
        have hss : (strOf t1).size = t1.length := rfl
        go_wp2_with fail
        refine htx.mono ?_
        rintro e w6 ⟨rfl, H7⟩
        clear htx v0 v1 v2 u1 u2 H6
        have v2 : w6.cell? ⟨vx, 2, none⟩ = some (.string ⟨#[]⟩) := H7.third.blk0.cell 2
        have u2 := H7.third.blk0.frozen 2
        have H8 := H7.third.setB (.cons (rA_loc _ _) (.cons lc (.cons lr hl))) 2 (.string (strOf t1))
        simp only [List.setIfInBounds_toArray, List.set_cons_succ, List.set_cons_zero] at H8
        have H6 := H8.third.third
        clear H7 H8
        go_upto_region 12 with fail
        generalize World.setCell _ _ _ = w7 at *
        clear v2 u2
        have v2 : w7.cell? ⟨vx, 2, none⟩ = some (.string (strOf t1)) := H6.third.blk0.cell 2
        have hs30 : 0 ≤ ((strOf t1).size : Int) := by omega
        by_cases h3 : 256 < t1.length
        · rw [overT_pos h3] at hv1
          have HV := Lib.hid hv1
          have g3 : (256 : Int) < ((strOf t1).size : Int) := by rw [hss]; omega
          have hfl := H6.act (.cons lc (.cons (blkA_loc _ _ _) (.cons lr hl))) fun F hF => rfail_any hF 2
          clear hv1 h3
          go_wp2_with fail
          refine hfl.mono ?_
          rintro e w8 ⟨rfl, H7⟩
          clear hfl H6 v2
          generalize s3.fail 2 = s4 at *
          have LR : Locs (rA r s4 :: blkA cb 121 #[.int .i64 ((p : Int) + 1), .int .i64 e0] :: blkA vx 62 #[.int .i64 x, .int .i64 0, .string (strOf t1), .slice none 0 0] :: ps) := .cons (rA_loc _ _) (.cons lc (.cons (blkA_loc _ _ _) hl))
          go_upto_region 21 with fail
          have hbo := H7.third.blk0
          have Hr := Has.pick (l := [_, _, _, _]) H7 [3, 0, 1, 2] rfl
          simp only [pickA, List.map_cons, List.map_nil, List.getD_cons_zero, List.getD_cons_succ, List.cons_append, List.nil_append] at Hr
          have hbr := Hr.blk0
          have o0 := hbo.cell 0
          have o1 := hbo.cell 1
          have o2 := hbo.cell 2
          have o3 := hbo.cell 3
          have r0 := hbr.cell 0
          have r1 := hbr.cell 1
          have r2 := hbr.cell 2
          have r3 := hbr.cell 3
          have f0 := hbr.frozen 0
          have f1 := hbr.frozen 1
          have f2 := hbr.frozen 2
          have f3 := hbr.frozen 3
          simp only [List.getElem?_toArray, List.getElem?_cons_zero, List.getElem?_cons_succ] at o0 o1 o2 o3 r0 r1 r2 r3
          have H8 := (((Hr.setB LR 0 (.int .i64 x)).setB LR 1 (.int .i64 0)).setB LR 2 (.string (strOf t1))).setB LR 3 (.slice none 0 0)
          simp only [List.setIfInBounds_toArray, List.set_cons_succ, List.set_cons_zero] at H8
          clear Hr
          go_wp2_with fail
          generalize World.setCell _ _ _ = w9 at *
          clear o0 o1 o2 o3 r0 r1 r2 r3 f0 f1 f2 f3 hbo hbr
          have hbr := H8.blk0
          have r0 := hbr.cell 0
          have r1 := hbr.cell 1
          have r2 := hbr.cell 2
          have r3 := hbr.cell 3
          simp only [List.getElem?_toArray, List.getElem?_cons_zero, List.getElem?_cons_succ] at r0 r1 r2 r3
          (try simp only [Exit.inBlock, Exit.then])
          refine bodyPost_ret (by simp [results, Try.results67, go_sem, r0, r1, r2, r3]; try rfl) rfl ?_
          have H9 := H8.drop.third.drop
          have H10 := H9.vnone (.cons (rA_loc _ _) (.cons lc hl)) 2 0 t1
          exact ⟨none, 0, by rw [HV.out, HX.out]; rfl, by rw [HV.out]; exact H10⟩
        · rw [overT_neg h3] at hv1
          have HV := Lib.hid hv1
          have g3 : ¬ (256 : Int) < ((strOf t1).size : Int) := by rw [hss]; omega
          have LR : Locs (rA r s3 :: blkA cb 121 #[.int .i64 ((p : Int) + 1), .int .i64 e0] :: blkA vx 62 #[.int .i64 x, .int .i64 0, .string (strOf t1), .slice none 0 0] :: ps) := .cons (rA_loc _ _) (.cons lc (.cons (blkA_loc _ _ _) hl))
          clear hv1 h3
          go_upto_region 21 with fail
          clear v2
          have hbo := H6.third.blk0
          have Hr := Has.pick (l := [_, _, _, _]) H6 [3, 0, 1, 2] rfl
          simp only [pickA, List.map_cons, List.map_nil, List.getD_cons_zero, List.getD_cons_succ, List.cons_append, List.nil_append] at Hr
          have hbr := Hr.blk0
          have o0 := hbo.cell 0
          have o1 := hbo.cell 1
          have o2 := hbo.cell 2
          have o3 := hbo.cell 3
          have r0 := hbr.cell 0
          have r1 := hbr.cell 1
          have r2 := hbr.cell 2
          have r3 := hbr.cell 3
          have f0 := hbr.frozen 0
          have f1 := hbr.frozen 1
          have f2 := hbr.frozen 2
          have f3 := hbr.frozen 3
          simp only [List.getElem?_toArray, List.getElem?_cons_zero, List.getElem?_cons_succ] at o0 o1 o2 o3 r0 r1 r2 r3
          have H8 := (((Hr.setB LR 0 (.int .i64 x)).setB LR 1 (.int .i64 0)).setB LR 2 (.string (strOf t1))).setB LR 3 (.slice none 0 0)
          simp only [List.setIfInBounds_toArray, List.set_cons_succ, List.set_cons_zero] at H8
          clear Hr
          go_wp2_with fail
          generalize World.setCell _ _ _ = w9 at *
          clear o0 o1 o2 o3 r0 r1 r2 r3 f0 f1 f2 f3 hbo hbr
          have hbr := H8.blk0
          have r0 := hbr.cell 0
          have r1 := hbr.cell 1
          have r2 := hbr.cell 2
          have r3 := hbr.cell 3
          simp only [List.getElem?_toArray, List.getElem?_cons_zero, List.getElem?_cons_succ] at r0 r1 r2 r3
          (try simp only [Exit.inBlock, Exit.then])
          refine bodyPost_ret (by simp [results, Try.results67, go_sem, r0, r1, r2, r3]; try rfl) rfl ?_
          have H9 := H8.drop.third.drop
          have H10 := H9.vnone (.cons (rA_loc _ _) (.cons lc hl)) 2 0 t1
          exact ⟨none, 0, by rw [HV.out, HX.out]; rfl, by rw [HV.out]; exact H10⟩
      have ex2 : ((x : Int) == 2) = false := by simp; omega
      by_cases x3 : x = 3
      case neg =>
        have ex3 : ((x : Int) == 3) = false := by simp; omega
        have hv1 : readV f p s = ((⟨x, 0, [], .nil⟩, p + 1), s2.fail 9) := by rw [hv0, restV_o f p x s2 x0 x1 x2 x3]
        have HV := Lib.hid hv1
        have hfl := H6.act L6 fun F hF => rfail_any hF 9
        clear hv0 hv1 x0 x1 x2 x3
        go_wp2_with fail
        refine hfl.mono ?_
        rintro e w8 ⟨rfl, H7⟩
        clear hfl H6 v0 v1 v2 u1 u2
        generalize s2.fail 9 = s4 at *
        have LR : Locs (rA r s4 :: blkA cb 121 #[.int .i64 ((p : Int) + 1), .int .i64 e0] :: blkA vx 62 #[.int .i64 x, .int .i64 0, .string ⟨#[]⟩, .slice none 0 0] :: ps) := .cons (rA_loc _ _) (.cons lc (.cons (blkA_loc _ _ _) hl))
        go_upto_region 21 with fail
        have hbo := H7.third.blk0
        have Hr := Has.pick (l := [_, _, _, _]) H7 [3, 0, 1, 2] rfl
        simp only [pickA, List.map_cons, List.map_nil, List.getD_cons_zero, List.getD_cons_succ, List.cons_append, List.nil_append] at Hr
        have hbr := Hr.blk0
        have o0 := hbo.cell 0
        have o1 := hbo.cell 1
        have o2 := hbo.cell 2
        have o3 := hbo.cell 3
        have r0 := hbr.cell 0
        have r1 := hbr.cell 1
        have r2 := hbr.cell 2
        have r3 := hbr.cell 3
        have f0 := hbr.frozen 0
        have f1 := hbr.frozen 1
        have f2 := hbr.frozen 2
        have f3 := hbr.frozen 3
        simp only [List.getElem?_toArray, List.getElem?_cons_zero, List.getElem?_cons_succ] at o0 o1 o2 o3 r0 r1 r2 r3
        have H8 := (((Hr.setB LR 0 (.int .i64 x)).setB LR 1 (.int .i64 0)).setB LR 2 (.string ⟨#[]⟩)).setB LR 3 (.slice none 0 0)
        simp only [List.setIfInBounds_toArray, List.set_cons_succ, List.set_cons_zero] at H8
        clear Hr
        go_wp2_with fail
        generalize World.setCell _ _ _ = w9 at *
        clear o0 o1 o2 o3 r0 r1 r2 r3 f0 f1 f2 f3 hbo hbr
        have hbr := H8.blk0
        have r0 := hbr.cell 0
        have r1 := hbr.cell 1
        have r2 := hbr.cell 2
        have r3 := hbr.cell 3
        simp only [List.getElem?_toArray, List.getElem?_cons_zero, List.getElem?_cons_succ] at r0 r1 r2 r3
        (try simp only [Exit.inBlock, Exit.then])
        refine bodyPost_ret (by simp [results, Try.results67, go_sem, r0, r1, r2, r3]; try rfl) rfl ?_
        have H9 := H8.drop.third.drop
        have H10 := H9.vnone (.cons (rA_loc _ _) (.cons lc hl)) x 0 []
        exact ⟨none, 0, by rw [HV.out]; rfl, by rw [HV.out]; exact H10⟩
      have ex3 : ((x : Int) == 3) = true := by simp; omega
      have HX := Lib.hid x3
      rw [x3] at hv0
      clear x0 x1 x2 x3 v1 v2 u1 u2
      cases f with
      | zero =>
        have hd8 : d = 8 := by omega
        subst hd8
        rw [restV_3z] at hv0
        have hfl := H6.act L6 fun F hF => rfail_any hF 30
        have hne := fail_ne (s := s2) (e := 30) (by decide)
        generalize s2.fail 30 = s3 at *
        have hnf := num_failed hne 64
        obtain ⟨n, hn0⟩ : ∃ n : Nat, n = 0 := ⟨0, rfl⟩
        have hv1 : readV 0 p s = ((⟨3, 0, [], Fo.of (loopV (readV 0) n (p + 1) s3).1.1⟩, (loopV (readV 0) n (p + 1) s3).1.2), (loopV (readV 0) n (p + 1) s3).2) := by rw [hn0]; exact hv0
        have hnf2 : s3.num 64 = (n, s3) := by rw [hn0]; exact hnf
        have HV := Lib.hid hv1
        have HN := Lib.hid hnf2
        have HN0 := Lib.hid hn0
        clear hv0 hv1 hnf hne hnf2 hn0
        go_wp2_with fail
        refine hfl.mono ?_
        rintro e w6 ⟨rfl, H7⟩
        clear hfl H6 v0
        have hnum := H7.act L6 fun F hF => rnum_any hF 64 (by omega)
        rw [HN.out] at hnum
        go_wp2_with fail
        refine hnum.mono ?_
        rintro e w7 ⟨rfl, H8⟩
        clear hnum H7
        go_wp2_with fail
        have hnil := H8.rvnil (.cons (rA_loc _ _) (.cons lc (.cons (blkA_loc _ _ _) (.cons lr hl)))) 62
        have HS := Has.pick (l := [_, _, _, _, _]) hnil [1, 2, 3, 4, 0] rfl
        simp only [pickA, List.map_cons, List.map_nil, List.getD_cons_zero, List.getD_cons_succ, List.cons_append, List.nil_append] at HS
        clear hnil H8
        go_loopw [56] (fun k wr => RdRel w r cb vx rx x e0 ps (readV 0) (p + 1) n s3 k wr) (fun k _ => ((n : Int) + 1 - intOf k).toNat)
        case atStart => exact ⟨0, p + 1, s3, .slice none 0 0, [], rfl, by omega, rfl, HS⟩
        case round =>
          clear HS
          obtain ⟨i, m, s4, sl, es, rfl, hi, hlo, hX⟩ := hrel
          have hel : es.length = i := by
            have h1 := loopV_len (g := (readV 0)) i (p + 1) s3
            rw [hlo] at h1
            simpa using h1
          obtain ⟨ps1, cs, hsl⟩ : ∃ p c, sl = .slice p i c := by
            have hX2 := Has.pick (l := [_, _, _, _, _]) hX [4, 0, 1, 2, 3] rfl
            simp only [pickA, List.map_cons, List.map_nil, List.getD_cons_zero, List.getD_cons_succ, List.cons_append, List.nil_append] at hX2
            obtain ⟨F, hF⟩ := hX2.head
            exact hel ▸ RowV.slice hF
          subst hsl
          by_cases hlt : i < n
          · exfalso
            have hz0' := HN0.out
            omega
          · have hi' : i = n := by omega
            subst hi'
            have i7 : ¬ ((i : Nat) : Int) < i := by omega
            have hv2 : readV 0 p s = ((⟨3, 0, [], Fo.of (es.map Prod.fst)⟩, m), s4) := by rw [HV.out, hlo]
            have HV2 := Lib.hid hv2
            have HL := Lib.hid hlo
            have LR : Locs (rA r s4 :: blkA cb 121 #[.int .i64 m, .int .i64 e0] :: blkA vx 62 #[.int .i64 x, .int .i64 0, .string ⟨#[]⟩, .slice ps1 i cs] :: rvA 62 (.slice ps1 i cs) es :: ps) := .cons (rA_loc _ _) (.cons (blkA_loc _ _ _) (.cons (blkA_loc _ _ _) (.cons (rvA_loc _ _ _) hl)))
            clear hv2 hlo
            go_upto_region 21 with fail
            have hbo := hX.third.blk0
            have Hr := Has.pick (l := [_, _, _, _]) hX [3, 0, 1, 2] rfl
            simp only [pickA, List.map_cons, List.map_nil, List.getD_cons_zero, List.getD_cons_succ, List.cons_append, List.nil_append] at Hr
            have hbr := Hr.blk0
            have o0 := hbo.cell 0
            have o1 := hbo.cell 1
            have o2 := hbo.cell 2
            have o3 := hbo.cell 3
            have r0 := hbr.cell 0
            have r1 := hbr.cell 1
            have r2 := hbr.cell 2
            have r3 := hbr.cell 3
            have f0 := hbr.frozen 0
            have f1 := hbr.frozen 1
            have f2 := hbr.frozen 2
            have f3 := hbr.frozen 3
            simp only [List.getElem?_toArray, List.getElem?_cons_zero, List.getElem?_cons_succ] at o0 o1 o2 o3 r0 r1 r2 r3
            have H8 := (((Hr.setB LR 0 (.int .i64 x)).setB LR 1 (.int .i64 0)).setB LR 2 (.string ⟨#[]⟩)).setB LR 3 (.slice ps1 i cs)
            simp only [List.setIfInBounds_toArray, List.set_cons_succ, List.set_cons_zero] at H8
            clear Hr
            go_wp2_with fail
            generalize World.setCell _ _ _ = w9 at *
            clear o0 o1 o2 o3 r0 r1 r2 r3 f0 f1 f2 f3 hbo hbr
            have hbr := H8.blk0
            have r0 := hbr.cell 0
            have r1 := hbr.cell 1
            have r2 := hbr.cell 2
            have r3 := hbr.cell 3
            simp only [List.getElem?_toArray, List.getElem?_cons_zero, List.getElem?_cons_succ] at r0 r1 r2 r3
            (try simp only [Exit.inBlock, Exit.then])
            refine bodyPost_ret (by simp [results, Try.results67, go_sem, r0, r1, r2, r3]; try rfl) rfl ?_
            have H9 := H8.drop.third.drop
            obtain ⟨_, H10⟩ := H9.third.vrow 3 0 []
            have hfl : (Fo.of (es.map Prod.fst)).len = i := by rw [Fo.of_len, List.length_map, hel]
            refine ⟨ps1, cs, ?_, by rw [HV2.out]; exact H10⟩
            rw [HV2.out, HX.out]
            simp only [Vl.cells, hfl]
            rfl
      | succ f =>
        have hd8 : ¬ (8 : Int) ≤ d := by omega
        rw [restV_3s] at hv0
        have hn64 := Rd.num_le 64 s2
        have hnum := H6.act L6 fun F hF => rnum_any hF 64 (by omega)
        generalize (s2.num 64).1 = n at *
        generalize (s2.num 64).2 = s3 at *
        have HV := Lib.hid hv0
        have hih := ih f (Nat.lt_succ_self f)
        clear hv0 ih
        go_wp2_with fail
        refine hnum.mono ?_
        rintro e w7 ⟨rfl, H8⟩
        clear hnum H6 v0
        go_wp2_with fail
        have hnil := H8.rvnil (.cons (rA_loc _ _) (.cons lc (.cons (blkA_loc _ _ _) (.cons lr hl)))) 62
        have HS := Has.pick (l := [_, _, _, _, _]) hnil [1, 2, 3, 4, 0] rfl
        simp only [pickA, List.map_cons, List.map_nil, List.getD_cons_zero, List.getD_cons_succ, List.cons_append, List.nil_append] at HS
        clear hnil H8
        go_loopw [56] (fun k wr => RdRel w r cb vx rx x e0 ps (readV f) (p + 1) n s3 k wr) (fun k _ => ((n : Int) + 1 - intOf k).toNat)
        case atStart => exact ⟨0, p + 1, s3, .slice none 0 0, [], rfl, by omega, rfl, HS⟩
        case round =>
          clear HS
          obtain ⟨i, m, s4, sl, es, rfl, hi, hlo, hX⟩ := hrel
          have hel : es.length = i := by
            have h1 := loopV_len (g := (readV f)) i (p + 1) s3
            rw [hlo] at h1
            simpa using h1
          obtain ⟨ps1, cs, hsl⟩ : ∃ p c, sl = .slice p i c := by
            have hX2 := Has.pick (l := [_, _, _, _, _]) hX [4, 0, 1, 2, 3] rfl
            simp only [pickA, List.map_cons, List.map_nil, List.getD_cons_zero, List.getD_cons_succ, List.cons_append, List.nil_append] at hX2
            obtain ⟨F, hF⟩ := hX2.head
            exact hel ▸ RowV.slice hF
          subst hsl
          by_cases hlt : i < n
          · have hm1 := loopV_le (g := readV f) (fun p s => readV_le f p s) i (p + 1) s3
            rw [hlo] at hm1
            simp only at hm1
            have hpow : 65 ^ (f + 1 + 1) = 65 * 65 ^ (f + 1) := by rw [Nat.pow_succ, Nat.mul_comm]
            rw [hpow] at hp
            have him : i * 65 ^ (f + 1) ≤ 63 * 65 ^ (f + 1) := Nat.mul_le_mul_right _ (by omega)
            have hmp : m + 65 ^ (f + 1) ≤ 4611686018427387904 := by omega
            have HL := Lib.hid hlo
            have i7 : ((i : Nat) : Int) < n := by omega
            have L4 : Locs (blkA vx 62 #[.int .i64 x, .int .i64 0, .string ⟨#[]⟩, .slice ps1 i cs] :: blkA rx 62 #[.int .i64 0, .int .i64 0, .string ⟨#[]⟩, .slice none 0 0] :: rvA 62 (.slice ps1 i cs) es :: ps) := .cons (blkA_loc _ _ _) (.cons lr (.cons (rvA_loc _ _ _) hl))
            have X2 := hX.ext (.cons (rA_loc _ _) (.cons (blkA_loc _ _ _) L4)) (Ext.refl _).drew
            have hc := hih w wr.drew _ r cb e0 s4 (d + 1) m (by omega) X2 L4 hmp
            have e9 : ((d + 1 : Nat) : Int) = (d : Int) + 1 := by omega
            rw [e9] at hc
            rcases hrd : readV f m s4 with ⟨⟨vy, m5⟩, s5⟩
            rw [hrd] at hc
            have HSU := Lib.hid (loopV_succ hlo hrd)
            have HCL := Lib.hid hc
            have hbv := X2.third.blk0
            have v3 : ∀ y : Of (fun X => Blk X vx 62 #[.int .i64 x, .int .i64 0, .string ⟨#[]⟩, .slice ps1 i cs]), y.val.cell? ⟨vx, 3, none⟩ = some (.slice ps1 i cs) := fun y => y.property.cell 3
            clear hc hrd e9 hlo hm1 hpow him hmp X2 hX
            go_upto_region 19 with fail
            have hFd := hbv
            have hne_ : Nonempty (Of ((fun X => Blk X vx 62 #[.int .i64 x, .int .i64 0, .string ⟨#[]⟩, .slice ps1 i cs]))) := ⟨⟨_, hFd⟩⟩
            refine region_planZ 10 (.seg [0,2,3,4,5,1,6,7,8,9] [true,true,true,true,true,true,false,false,false,true] .done) ((fun X => Blk X vx 62 #[.int .i64 x, .int .i64 0, .string ⟨#[]⟩, .slice ps1 i cs])) (by kernel_rfl) (by kernel_rfl) hFd ?_
            refine walkZ_seg ?_
            simp only [List.filterMap_cons, List.filterMap_nil, List.getElem?_cons_zero, List.getElem?_cons_succ]
            refine steps_quiet 6 (by kernel_rfl) ?_
            simp only [List.take_succ_cons, List.take_zero, List.drop_succ_cons, List.drop_zero]
            repeat (go_big_quiet_step (fail))
            refine wpQuiet_nil ?_
            clear v3
            refine steps_want rfl (fun K hK => ?_)
            go_simp
            refine HCL.out.mono ?_
            rintro e w4 ⟨q3, c3, rfl, Y4⟩
            simp only at Y4
            have LY4 : Locs (vlA q3 c3 vy :: rA r s5 :: blkA cb 121 #[.int .i64 m5, .int .i64 e0] :: blkA vx 62 #[.int .i64 x, .int .i64 0, .string ⟨#[]⟩, .slice ps1 i cs] :: blkA rx 62 #[.int .i64 0, .int .i64 0, .string ⟨#[]⟩, .slice none 0 0] :: rvA 62 (.slice ps1 i cs) es :: ps) := .cons (vlA_loc _ _ _) (.cons (rA_loc _ _) (.cons (blkA_loc _ _ _) L4))
            clear HCL hbv
            have Y4b := Has.pick (l := [_, _, _, _]) Y4 [3, 0, 1, 2] rfl
            simp only [pickA, List.map_cons, List.map_nil, List.getD_cons_zero, List.getD_cons_succ, List.cons_append, List.nil_append] at Y4b
            have hbv := Y4b.blk0
            clear Y4b
            refine hK _ _ (fun X => Blk X vx 62 #[.int .i64 x, .int .i64 0, .string ⟨#[]⟩, .slice ps1 i cs]) hbv (fun _ h => h) ?_
            clear hK K
            (try simp only [Act.put, List.setIfInBounds_toArray, List.set_cons_succ, List.set_cons_zero])
            have Y5 := Y4.ext LY4 (ext_alloc w4 (.cells (vy.cells q3 c3).toArray 62))
            have hnews := news_new w4 (vy.cells q3 c3) 62
            simp only [Vl.cells] at Y5 hnews
            simp only [Vl.cells]
            refine steps_want rfl (fun K hK => ?_)
            go_simp
            generalize World.alloc _ _ = w5' at *
            clear Y4 hbv LY4
            have Y4b := Has.pick (l := [_, _, _, _]) Y5 [3, 0, 1, 2] rfl
            simp only [pickA, List.map_cons, List.map_nil, List.getD_cons_zero, List.getD_cons_succ, List.cons_append, List.nil_append] at Y4b
            have hbv := Y4b.blk0
            clear Y4b
            refine hK _ _ (fun X => Blk X vx 62 #[.int .i64 x, .int .i64 0, .string ⟨#[]⟩, .slice ps1 i cs]) hbv (fun _ h => h) ?_
            clear hK K
            (try simp only [Act.put, List.setIfInBounds_toArray, List.set_cons_succ, List.set_cons_zero])
            have Y5b := Has.pick (l := [_, _, _, _, _, _]) Y5 [5, 0, 1, 2, 3, 4] rfl
            simp only [pickA, List.map_cons, List.map_nil, List.getD_cons_zero, List.getD_cons_succ, List.cons_append, List.nil_append] at Y5b
            have Y6 := Y5b.rvx (e := (vy, q3, c3))
            have LY6 : Locs (rA r s5 :: blkA cb 121 #[.int .i64 m5, .int .i64 e0] :: blkA vx 62 #[.int .i64 x, .int .i64 0, .string ⟨#[]⟩, .slice ps1 i cs] :: blkA rx 62 #[.int .i64 0, .int .i64 0, .string ⟨#[]⟩, .slice none 0 0] :: ps) := .cons (rA_loc _ _) (.cons (blkA_loc _ _ _) (.cons (blkA_loc _ _ _) (.cons lr hl)))
            obtain ⟨FR, hFR⟩ := Y6.head
            clear Y5 Y5b hbv
            refine steps_want rfl (fun K hK => ?_)
            refine wp_append_new _ _ 23 rfl 62 i0 (.agg zeroV.toArray) 4 56 Try.underlying23 hi0 hz0 hz1 hz2 rfl (by decide) _ i (els es) rfl (hel ▸ hFR.1.own) (some ⟨w4.heap.size, 0, none⟩) 1 1 (vy.cells q3 c3) rfl rfl (fun h => nomatch h) hnews (cells_one _ _ _) (by unfold maxLen; omega) (by omega) ?_
            intro v6 w6 hown6 hg6 hf6
            have Z6 := Y6.next LY6 (fun F hF => RowV.grow hF.1 hF.2 (hel.symm ▸ hown6) hg6 hf6)
            clear Y6 hFR hnews hown6 hg6 hf6
            obtain ⟨p6, c6, rfl⟩ : ∃ p c, v6 = .slice p (i + 1) c := by
              obtain ⟨F, hF⟩ := Z6.head
              obtain ⟨p, c, h⟩ := RowV.slice hF
              exact ⟨p, c, by rw [h, List.length_append, hel]; rfl⟩
            have Z6b := Has.pick (l := [_, _, _, _]) Z6 [3, 0, 1, 2] rfl
            simp only [pickA, List.map_cons, List.map_nil, List.getD_cons_zero, List.getD_cons_succ, List.cons_append, List.nil_append] at Z6b
            refine hK _ _ (fun X => Blk X vx 62 #[.int .i64 x, .int .i64 0, .string ⟨#[]⟩, .slice ps1 i cs]) Z6b.blk0 (fun _ h => h) ?_
            clear hK K
            (try simp only [Act.put, List.setIfInBounds_toArray, List.set_cons_succ, List.set_cons_zero])
            have o6 : w6.cell? ⟨vx, 3, none⟩ = some (.slice ps1 i cs) := Z6b.blk0.cell 3
            have f6 := Z6b.blk0.frozen 3
            refine steps_quiet 1 (by kernel_rfl) ?_
            simp only [List.take_succ_cons, List.take_zero, List.drop_succ_cons, List.drop_zero]
            repeat (go_big_quiet_step (fail))
            refine wpQuiet_nil ?_
            refine steps_end ?_
            refine walkZ_done rfl rfl (fun K hK => ?_)
            go_simp
            refine hK _ _ ?_
            clear hK K
            try simp only [Act.put, List.setIfInBounds_toArray, List.set_cons_succ, List.set_cons_zero]
            have Z7 := Z6b.setB (.cons (rvA_loc _ _ _) (.cons (rA_loc _ _) (.cons (blkA_loc _ _ _) (.cons lr hl)))) 3 (.slice p6 (i + 1) c6)
            simp only [List.setIfInBounds_toArray, List.set_cons_succ, List.set_cons_zero] at Z7
            generalize World.setCell _ _ _ = w7' at *
            have Z8 := Has.pick (l := [_, _, _, _, _]) Z7 [2, 3, 0, 4, 1] rfl
            simp only [pickA, List.map_cons, List.map_nil, List.getD_cons_zero, List.getD_cons_succ, List.cons_append, List.nil_append] at Z8
            clear Z6 Z6b Z7 o6 f6
            go_wp2_with fail
            refine ⟨⟨i + 1, m5, s5, .slice p6 (i + 1) c6, es ++ [(vy, q3, c3)], by go_num, by omega, ?_, Z8⟩, by simp [intOf]; omega⟩
            rw [HSU.out, List.map_append]; rfl
          · have hi' : i = n := by omega
            subst hi'
            have i7 : ¬ ((i : Nat) : Int) < i := by omega
            have hv2 : readV (f + 1) p s = ((⟨3, 0, [], Fo.of (es.map Prod.fst)⟩, m), s4) := by rw [HV.out, hlo]
            have HV2 := Lib.hid hv2
            have HL := Lib.hid hlo
            have LR : Locs (rA r s4 :: blkA cb 121 #[.int .i64 m, .int .i64 e0] :: blkA vx 62 #[.int .i64 x, .int .i64 0, .string ⟨#[]⟩, .slice ps1 i cs] :: rvA 62 (.slice ps1 i cs) es :: ps) := .cons (rA_loc _ _) (.cons (blkA_loc _ _ _) (.cons (blkA_loc _ _ _) (.cons (rvA_loc _ _ _) hl)))
            clear hv2 hlo
            go_upto_region 21 with fail
            have hbo := hX.third.blk0
            have Hr := Has.pick (l := [_, _, _, _]) hX [3, 0, 1, 2] rfl
            simp only [pickA, List.map_cons, List.map_nil, List.getD_cons_zero, List.getD_cons_succ, List.cons_append, List.nil_append] at Hr
            have hbr := Hr.blk0
            have o0 := hbo.cell 0
            have o1 := hbo.cell 1
            have o2 := hbo.cell 2
            have o3 := hbo.cell 3
            have r0 := hbr.cell 0
            have r1 := hbr.cell 1
            have r2 := hbr.cell 2
            have r3 := hbr.cell 3
            have f0 := hbr.frozen 0
            have f1 := hbr.frozen 1
            have f2 := hbr.frozen 2
            have f3 := hbr.frozen 3
            simp only [List.getElem?_toArray, List.getElem?_cons_zero, List.getElem?_cons_succ] at o0 o1 o2 o3 r0 r1 r2 r3
            have H8 := (((Hr.setB LR 0 (.int .i64 x)).setB LR 1 (.int .i64 0)).setB LR 2 (.string ⟨#[]⟩)).setB LR 3 (.slice ps1 i cs)
            simp only [List.setIfInBounds_toArray, List.set_cons_succ, List.set_cons_zero] at H8
            clear Hr
            go_wp2_with fail
            generalize World.setCell _ _ _ = w9 at *
            clear o0 o1 o2 o3 r0 r1 r2 r3 f0 f1 f2 f3 hbo hbr
            have hbr := H8.blk0
            have r0 := hbr.cell 0
            have r1 := hbr.cell 1
            have r2 := hbr.cell 2
            have r3 := hbr.cell 3
            simp only [List.getElem?_toArray, List.getElem?_cons_zero, List.getElem?_cons_succ] at r0 r1 r2 r3
            (try simp only [Exit.inBlock, Exit.then])
            refine bodyPost_ret (by simp [results, Try.results67, go_sem, r0, r1, r2, r3]; try rfl) rfl ?_
            have H9 := H8.drop.third.drop
            obtain ⟨_, H10⟩ := H9.third.vrow 3 0 []
            have hfl : (Fo.of (es.map Prod.fst)).len = i := by rw [Fo.of_len, List.length_map, hel]
            refine ⟨ps1, cs, ?_, by rw [HV2.out]; exact H10⟩
            rw [HV2.out, HX.out]
            simp only [Vl.cells, hfl]
            rfl
    · rw [overP_neg h1] at hv0
      have g1 : ¬ (256 : Int) < (p : Int) + 1 := by omega
      have H6 := H5.swap
      go_upto_region 5 with fail
      clear H5 c0 g1 h1
      generalize s1 = s2 at *
      generalize W4 = w5 at *
      clear HB
      have hbl := H6.third.blk0
      have v0 : w5.cell? ⟨vx, 0, none⟩ = some (.int .i64 x) := hbl.cell 0
      have v1 : w5.cell? ⟨vx, 1, none⟩ = some (.int .i64 0) := hbl.cell 1
      have v2 : w5.cell? ⟨vx, 2, none⟩ = some (.string ⟨#[]⟩) := hbl.cell 2
      have u1 := hbl.frozen 1
      have u2 := hbl.frozen 2
      have lc : Loc (blkA cb 121 #[.int .i64 ((p : Int) + 1), .int .i64 e0]) := blkA_loc _ _ _
      have lr : Loc (blkA rx 62 #[.int .i64 0, .int .i64 0, .string ⟨#[]⟩, .slice none 0 0]) := blkA_loc _ _ _
      have L6 : Locs (blkA cb 121 #[.int .i64 ((p : Int) + 1), .int .i64 e0] :: blkA vx 62 #[.int .i64 x, .int .i64 0, .string ⟨#[]⟩, .slice none 0 0] :: blkA rx 62 #[.int .i64 0, .int .i64 0, .string ⟨#[]⟩, .slice none 0 0] :: ps) := .cons lc (.cons (blkA_loc _ _ _) (.cons lr hl))
      clear hbl
      by_cases x0 : x = 0
      · have ex0 : ((x : Int) == 0) = true := by simp; omega
        have hv1 : readV f p s = ((⟨0, 0, [], .nil⟩, p + 1), s2) := by rw [hv0, x0, restV_0]
        have HV := Lib.hid hv1
        have HX := Lib.hid x0
        have LR : Locs (rA r s2 :: blkA cb 121 #[.int .i64 ((p : Int) + 1), .int .i64 e0] :: blkA vx 62 #[.int .i64 x, .int .i64 0, .string ⟨#[]⟩, .slice none 0 0] :: ps) := .cons (rA_loc _ _) (.cons lc (.cons (blkA_loc _ _ _) hl))
        clear hv0 hv1 x0
        go_upto_region 21 with fail
        clear v0 v1 v2 u1 u2
        have hbo := H6.third.blk0
        have Hr := Has.pick (l := [_, _, _, _]) H6 [3, 0, 1, 2] rfl
        simp only [pickA, List.map_cons, List.map_nil, List.getD_cons_zero, List.getD_cons_succ, List.cons_append, List.nil_append] at Hr
        have hbr := Hr.blk0
        have o0 := hbo.cell 0
        have o1 := hbo.cell 1
        have o2 := hbo.cell 2
        have o3 := hbo.cell 3
        have r0 := hbr.cell 0
        have r1 := hbr.cell 1
        have r2 := hbr.cell 2
        have r3 := hbr.cell 3
        have f0 := hbr.frozen 0
        have f1 := hbr.frozen 1
        have f2 := hbr.frozen 2
        have f3 := hbr.frozen 3
        simp only [List.getElem?_toArray, List.getElem?_cons_zero, List.getElem?_cons_succ] at o0 o1 o2 o3 r0 r1 r2 r3
        have H8 := (((Hr.setB LR 0 (.int .i64 x)).setB LR 1 (.int .i64 0)).setB LR 2 (.string ⟨#[]⟩)).setB LR 3 (.slice none 0 0)
        simp only [List.setIfInBounds_toArray, List.set_cons_succ, List.set_cons_zero] at H8
        clear Hr
        go_wp2_with fail
        generalize World.setCell _ _ _ = w9 at *
        clear o0 o1 o2 o3 r0 r1 r2 r3 f0 f1 f2 f3 hbo hbr
        have hbr := H8.blk0
        have r0 := hbr.cell 0
        have r1 := hbr.cell 1
        have r2 := hbr.cell 2
        have r3 := hbr.cell 3
        simp only [List.getElem?_toArray, List.getElem?_cons_zero, List.getElem?_cons_succ] at r0 r1 r2 r3
        (try simp only [Exit.inBlock, Exit.then])
        refine bodyPost_ret (by simp [results, Try.results67, go_sem, r0, r1, r2, r3]; try rfl) rfl ?_
        have H9 := H8.drop.third.drop
        have H10 := H9.vnone (.cons (rA_loc _ _) (.cons lc hl)) 0 0 []
        exact ⟨none, 0, by rw [HV.out, HX.out]; rfl, by rw [HV.out]; exact H10⟩
      have ex0 : ((x : Int) == 0) = false := by simp; omega
      by_cases x1 : x = 1
      · have ex1 : ((x : Int) == 1) = true := by simp; omega
        have hv1 : readV f p s = ((⟨1, zagI (s2.num 18446744073709551615).1, [], .nil⟩, p + 1), (s2.num 18446744073709551615).2) := by rw [hv0, x1, restV_1]
        have HV := Lib.hid hv1
        have HX := Lib.hid x1
        clear hv0 hv1 x0 x1
        have hint := H6.act L6 fun F hF => rint_any hF
        generalize zagI (s2.num 18446744073709551615).1 = n1 at *
        generalize (s2.num 18446744073709551615).2 = s3 at *
        go_wp2_with fail
        refine hint.mono ?_
        rintro e w6 ⟨rfl, H7⟩
        clear hint v0 v1 v2 u1 u2 H6
        have v1 : w6.cell? ⟨vx, 1, none⟩ = some (.int .i64 0) := H7.third.blk0.cell 1
        have u1 := H7.third.blk0.frozen 1
        have H8 := H7.third.setB (.cons (rA_loc _ _) (.cons lc (.cons lr hl))) 1 (.int .i64 n1)
        simp only [List.setIfInBounds_toArray, List.set_cons_succ, List.set_cons_zero] at H8
        have H6 := H8.third.third
        have LR : Locs (rA r s3 :: blkA cb 121 #[.int .i64 ((p : Int) + 1), .int .i64 e0] :: blkA vx 62 #[.int .i64 x, .int .i64 n1, .string ⟨#[]⟩, .slice none 0 0] :: ps) := .cons (rA_loc _ _) (.cons lc (.cons (blkA_loc _ _ _) hl))
        clear H7 H8
        go_upto_region 21 with fail
        generalize World.setCell _ _ _ = w7 at *
        clear v1 u1
        have hbo := H6.third.blk0
        have Hr := Has.pick (l := [_, _, _, _]) H6 [3, 0, 1, 2] rfl
        simp only [pickA, List.map_cons, List.map_nil, List.getD_cons_zero, List.getD_cons_succ, List.cons_append, List.nil_append] at Hr
        have hbr := Hr.blk0
        have o0 := hbo.cell 0
        have o1 := hbo.cell 1
        have o2 := hbo.cell 2
        have o3 := hbo.cell 3
        have r0 := hbr.cell 0
        have r1 := hbr.cell 1
        have r2 := hbr.cell 2
        have r3 := hbr.cell 3
        have f0 := hbr.frozen 0
        have f1 := hbr.frozen 1
        have f2 := hbr.frozen 2
        have f3 := hbr.frozen 3
        simp only [List.getElem?_toArray, List.getElem?_cons_zero, List.getElem?_cons_succ] at o0 o1 o2 o3 r0 r1 r2 r3
        have H8 := (((Hr.setB LR 0 (.int .i64 x)).setB LR 1 (.int .i64 n1)).setB LR 2 (.string ⟨#[]⟩)).setB LR 3 (.slice none 0 0)
        simp only [List.setIfInBounds_toArray, List.set_cons_succ, List.set_cons_zero] at H8
        clear Hr
        go_wp2_with fail
        generalize World.setCell _ _ _ = w9 at *
        clear o0 o1 o2 o3 r0 r1 r2 r3 f0 f1 f2 f3 hbo hbr
        have hbr := H8.blk0
        have r0 := hbr.cell 0
        have r1 := hbr.cell 1
        have r2 := hbr.cell 2
        have r3 := hbr.cell 3
        simp only [List.getElem?_toArray, List.getElem?_cons_zero, List.getElem?_cons_succ] at r0 r1 r2 r3
        (try simp only [Exit.inBlock, Exit.then])
        refine bodyPost_ret (by simp [results, Try.results67, go_sem, r0, r1, r2, r3]; try rfl) rfl ?_
        have H9 := H8.drop.third.drop
        have H10 := H9.vnone (.cons (rA_loc _ _) (.cons lc hl)) 1 n1 []
        exact ⟨none, 0, by rw [HV.out, HX.out]; rfl, by rw [HV.out]; exact H10⟩
      have ex1 : ((x : Int) == 1) = false := by simp; omega
      by_cases x2 : x = 2
      · have ex2 : ((x : Int) == 2) = true := by simp; omega
        have hv1 : readV f p s = ((⟨2, 0, s2.text.1, .nil⟩, p + 1), (overT s2.text.1 s2.text.2).2) := by rw [hv0, x2, restV_2]
        have HX := Lib.hid x2
        clear hv0 x0 x1 x2
        have htx := H6.act L6 fun F hF => rtext_any hF
        generalize s2.text.1 = t1 at *
        generalize s2.text.2 = s3 at *
        have hss : (strOf t1).size = t1.length := rfl
        go_wp2_with fail
        refine htx.mono ?_
        rintro e w6 ⟨rfl, H7⟩
        clear htx v0 v1 v2 u1 u2 H6
        have v2 : w6.cell? ⟨vx, 2, none⟩ = some (.string ⟨#[]⟩) := H7.third.blk0.cell 2
        have u2 := H7.third.blk0.frozen 2
        have H8 := H7.third.setB (.cons (rA_loc _ _) (.cons lc (.cons lr hl))) 2 (.string (strOf t1))
        simp only [List.setIfInBounds_toArray, List.set_cons_succ, List.set_cons_zero] at H8
        have H6 := H8.third.third
        clear H7 H8
        go_upto_region 12 with fail
        generalize World.setCell _ _ _ = w7 at *
        clear v2 u2
        have v2 : w7.cell? ⟨vx, 2, none⟩ = some (.string (strOf t1)) := H6.third.blk0.cell 2
        have hs30 : 0 ≤ ((strOf t1).size : Int) := by omega
        by_cases h3 : 256 < t1.length
        · rw [overT_pos h3] at hv1
          have HV := Lib.hid hv1
          have g3 : (256 : Int) < ((strOf t1).size : Int) := by rw [hss]; omega
          have hfl := H6.act (.cons lc (.cons (blkA_loc _ _ _) (.cons lr hl))) fun F hF => rfail_any hF 2
          clear hv1 h3
          go_wp2_with fail
          refine hfl.mono ?_
          rintro e w8 ⟨rfl, H7⟩
          clear hfl H6 v2
          generalize s3.fail 2 = s4 at *
          have LR : Locs (rA r s4 :: blkA cb 121 #[.int .i64 ((p : Int) + 1), .int .i64 e0] :: blkA vx 62 #[.int .i64 x, .int .i64 0, .string (strOf t1), .slice none 0 0] :: ps) := .cons (rA_loc _ _) (.cons lc (.cons (blkA_loc _ _ _) hl))
          go_upto_region 21 with fail
          have hbo := H7.third.blk0
          have Hr := Has.pick (l := [_, _, _, _]) H7 [3, 0, 1, 2] rfl
          simp only [pickA, List.map_cons, List.map_nil, List.getD_cons_zero, List.getD_cons_succ, List.cons_append, List.nil_append] at Hr
          have hbr := Hr.blk0
          have o0 := hbo.cell 0
          have o1 := hbo.cell 1
          have o2 := hbo.cell 2
          have o3 := hbo.cell 3
          have r0 := hbr.cell 0
          have r1 := hbr.cell 1
          have r2 := hbr.cell 2
          have r3 := hbr.cell 3
          have f0 := hbr.frozen 0
          have f1 := hbr.frozen 1
          have f2 := hbr.frozen 2
          have f3 := hbr.frozen 3
          simp only [List.getElem?_toArray, List.getElem?_cons_zero, List.getElem?_cons_succ] at o0 o1 o2 o3 r0 r1 r2 r3
          have H8 := (((Hr.setB LR 0 (.int .i64 x)).setB LR 1 (.int .i64 0)).setB LR 2 (.string (strOf t1))).setB LR 3 (.slice none 0 0)
          simp only [List.setIfInBounds_toArray, List.set_cons_succ, List.set_cons_zero] at H8
          clear Hr
          go_wp2_with fail
          generalize World.setCell _ _ _ = w9 at *
          clear o0 o1 o2 o3 r0 r1 r2 r3 f0 f1 f2 f3 hbo hbr
          have hbr := H8.blk0
          have r0 := hbr.cell 0
          have r1 := hbr.cell 1
          have r2 := hbr.cell 2
          have r3 := hbr.cell 3
          simp only [List.getElem?_toArray, List.getElem?_cons_zero, List.getElem?_cons_succ] at r0 r1 r2 r3
          (try simp only [Exit.inBlock, Exit.then])
          refine bodyPost_ret (by simp [results, Try.results67, go_sem, r0, r1, r2, r3]; try rfl) rfl ?_
          have H9 := H8.drop.third.drop
          have H10 := H9.vnone (.cons (rA_loc _ _) (.cons lc hl)) 2 0 t1
          exact ⟨none, 0, by rw [HV.out, HX.out]; rfl, by rw [HV.out]; exact H10⟩
        · rw [overT_neg h3] at hv1
          have HV := Lib.hid hv1
          have g3 : ¬ (256 : Int) < ((strOf t1).size : Int) := by rw [hss]; omega
          have LR : Locs (rA r s3 :: blkA cb 121 #[.int .i64 ((p : Int) + 1), .int .i64 e0] :: blkA vx 62 #[.int .i64 x, .int .i64 0, .string (strOf t1), .slice none 0 0] :: ps) := .cons (rA_loc _ _) (.cons lc (.cons (blkA_loc _ _ _) hl))
          clear hv1 h3
          go_upto_region 21 with fail
          clear v2
          have hbo := H6.third.blk0
          have Hr := Has.pick (l := [_, _, _, _]) H6 [3, 0, 1, 2] rfl
          simp only [pickA, List.map_cons, List.map_nil, List.getD_cons_zero, List.getD_cons_succ, List.cons_append, List.nil_append] at Hr
          have hbr := Hr.blk0
          have o0 := hbo.cell 0
          have o1 := hbo.cell 1
          have o2 := hbo.cell 2
          have o3 := hbo.cell 3
          have r0 := hbr.cell 0
          have r1 := hbr.cell 1
          have r2 := hbr.cell 2
          have r3 := hbr.cell 3
          have f0 := hbr.frozen 0
          have f1 := hbr.frozen 1
          have f2 := hbr.frozen 2
          have f3 := hbr.frozen 3
          simp only [List.getElem?_toArray, List.getElem?_cons_zero, List.getElem?_cons_succ] at o0 o1 o2 o3 r0 r1 r2 r3
          have H8 := (((Hr.setB LR 0 (.int .i64 x)).setB LR 1 (.int .i64 0)).setB LR 2 (.string (strOf t1))).setB LR 3 (.slice none 0 0)
          simp only [List.setIfInBounds_toArray, List.set_cons_succ, List.set_cons_zero] at H8
          clear Hr
          go_wp2_with fail
          generalize World.setCell _ _ _ = w9 at *
          clear o0 o1 o2 o3 r0 r1 r2 r3 f0 f1 f2 f3 hbo hbr
          have hbr := H8.blk0
          have r0 := hbr.cell 0
          have r1 := hbr.cell 1
          have r2 := hbr.cell 2
          have r3 := hbr.cell 3
          simp only [List.getElem?_toArray, List.getElem?_cons_zero, List.getElem?_cons_succ] at r0 r1 r2 r3
          (try simp only [Exit.inBlock, Exit.then])
          refine bodyPost_ret (by simp [results, Try.results67, go_sem, r0, r1, r2, r3]; try rfl) rfl ?_
          have H9 := H8.drop.third.drop
          have H10 := H9.vnone (.cons (rA_loc _ _) (.cons lc hl)) 2 0 t1
          exact ⟨none, 0, by rw [HV.out, HX.out]; rfl, by rw [HV.out]; exact H10⟩
      have ex2 : ((x : Int) == 2) = false := by simp; omega
      by_cases x3 : x = 3
      case neg =>
        have ex3 : ((x : Int) == 3) = false := by simp; omega
        have hv1 : readV f p s = ((⟨x, 0, [], .nil⟩, p + 1), s2.fail 9) := by rw [hv0, restV_o f p x s2 x0 x1 x2 x3]
        have HV := Lib.hid hv1
        have hfl := H6.act L6 fun F hF => rfail_any hF 9
        clear hv0 hv1 x0 x1 x2 x3
        go_wp2_with fail
        refine hfl.mono ?_
        rintro e w8 ⟨rfl, H7⟩
        clear hfl H6 v0 v1 v2 u1 u2
        generalize s2.fail 9 = s4 at *
        have LR : Locs (rA r s4 :: blkA cb 121 #[.int .i64 ((p : Int) + 1), .int .i64 e0] :: blkA vx 62 #[.int .i64 x, .int .i64 0, .string ⟨#[]⟩, .slice none 0 0] :: ps) := .cons (rA_loc _ _) (.cons lc (.cons (blkA_loc _ _ _) hl))
        go_upto_region 21 with fail
        have hbo := H7.third.blk0
        have Hr := Has.pick (l := [_, _, _, _]) H7 [3, 0, 1, 2] rfl
        simp only [pickA, List.map_cons, List.map_nil, List.getD_cons_zero, List.getD_cons_succ, List.cons_append, List.nil_append] at Hr
        have hbr := Hr.blk0
        have o0 := hbo.cell 0
        have o1 := hbo.cell 1
        have o2 := hbo.cell 2
        have o3 := hbo.cell 3
        have r0 := hbr.cell 0
        have r1 := hbr.cell 1
        have r2 := hbr.cell 2
        have r3 := hbr.cell 3
        have f0 := hbr.frozen 0
        have f1 := hbr.frozen 1
        have f2 := hbr.frozen 2
        have f3 := hbr.frozen 3
        simp only [List.getElem?_toArray, List.getElem?_cons_zero, List.getElem?_cons_succ] at o0 o1 o2 o3 r0 r1 r2 r3
        have H8 := (((Hr.setB LR 0 (.int .i64 x)).setB LR 1 (.int .i64 0)).setB LR 2 (.string ⟨#[]⟩)).setB LR 3 (.slice none 0 0)
        simp only [List.setIfInBounds_toArray, List.set_cons_succ, List.set_cons_zero] at H8
        clear Hr
        go_wp2_with fail
        generalize World.setCell _ _ _ = w9 at *
        clear o0 o1 o2 o3 r0 r1 r2 r3 f0 f1 f2 f3 hbo hbr
        have hbr := H8.blk0
        have r0 := hbr.cell 0
        have r1 := hbr.cell 1
        have r2 := hbr.cell 2
        have r3 := hbr.cell 3
        simp only [List.getElem?_toArray, List.getElem?_cons_zero, List.getElem?_cons_succ] at r0 r1 r2 r3
        (try simp only [Exit.inBlock, Exit.then])
        refine bodyPost_ret (by simp [results, Try.results67, go_sem, r0, r1, r2, r3]; try rfl) rfl ?_
        have H9 := H8.drop.third.drop
        have H10 := H9.vnone (.cons (rA_loc _ _) (.cons lc hl)) x 0 []
        exact ⟨none, 0, by rw [HV.out]; rfl, by rw [HV.out]; exact H10⟩
      have ex3 : ((x : Int) == 3) = true := by simp; omega
      have HX := Lib.hid x3
      rw [x3] at hv0
      clear x0 x1 x2 x3 v1 v2 u1 u2
      cases f with
      | zero =>
        have hd8 : d = 8 := by omega
        subst hd8
        rw [restV_3z] at hv0
        have hfl := H6.act L6 fun F hF => rfail_any hF 30
        have hne := fail_ne (s := s2) (e := 30) (by decide)
        generalize s2.fail 30 = s3 at *
        have hnf := num_failed hne 64
        obtain ⟨n, hn0⟩ : ∃ n : Nat, n = 0 := ⟨0, rfl⟩
        have hv1 : readV 0 p s = ((⟨3, 0, [], Fo.of (loopV (readV 0) n (p + 1) s3).1.1⟩, (loopV (readV 0) n (p + 1) s3).1.2), (loopV (readV 0) n (p + 1) s3).2) := by rw [hn0]; exact hv0
        have hnf2 : s3.num 64 = (n, s3) := by rw [hn0]; exact hnf
        have HV := Lib.hid hv1
        have HN := Lib.hid hnf2
        have HN0 := Lib.hid hn0
        clear hv0 hv1 hnf hne hnf2 hn0
        go_wp2_with fail
        refine hfl.mono ?_
        rintro e w6 ⟨rfl, H7⟩
        clear hfl H6 v0
        have hnum := H7.act L6 fun F hF => rnum_any hF 64 (by omega)
        rw [HN.out] at hnum
        go_wp2_with fail
        refine hnum.mono ?_
        rintro e w7 ⟨rfl, H8⟩
        clear hnum H7
        go_wp2_with fail
        have hnil := H8.rvnil (.cons (rA_loc _ _) (.cons lc (.cons (blkA_loc _ _ _) (.cons lr hl)))) 62
        have HS := Has.pick (l := [_, _, _, _, _]) hnil [1, 2, 3, 4, 0] rfl
        simp only [pickA, List.map_cons, List.map_nil, List.getD_cons_zero, List.getD_cons_succ, List.cons_append, List.nil_append] at HS
        clear hnil H8
        go_loopw [56] (fun k wr => RdRel w r cb vx rx x e0 ps (readV 0) (p + 1) n s3 k wr) (fun k _ => ((n : Int) + 1 - intOf k).toNat)
        case atStart => exact ⟨0, p + 1, s3, .slice none 0 0, [], rfl, by omega, rfl, HS⟩
        case round =>
          clear HS
          obtain ⟨i, m, s4, sl, es, rfl, hi, hlo, hX⟩ := hrel
          have hel : es.length = i := by
            have h1 := loopV_len (g := (readV 0)) i (p + 1) s3
            rw [hlo] at h1
            simpa using h1
          obtain ⟨ps1, cs, hsl⟩ : ∃ p c, sl = .slice p i c := by
            have hX2 := Has.pick (l := [_, _, _, _, _]) hX [4, 0, 1, 2, 3] rfl
            simp only [pickA, List.map_cons, List.map_nil, List.getD_cons_zero, List.getD_cons_succ, List.cons_append, List.nil_append] at hX2
            obtain ⟨F, hF⟩ := hX2.head
            exact hel ▸ RowV.slice hF
          subst hsl
          by_cases hlt : i < n
          · exfalso
            have hz0' := HN0.out
            omega
          · have hi' : i = n := by omega
            subst hi'
            have i7 : ¬ ((i : Nat) : Int) < i := by omega
            have hv2 : readV 0 p s = ((⟨3, 0, [], Fo.of (es.map Prod.fst)⟩, m), s4) := by rw [HV.out, hlo]
            have HV2 := Lib.hid hv2
            have HL := Lib.hid hlo
            have LR : Locs (rA r s4 :: blkA cb 121 #[.int .i64 m, .int .i64 e0] :: blkA vx 62 #[.int .i64 x, .int .i64 0, .string ⟨#[]⟩, .slice ps1 i cs] :: rvA 62 (.slice ps1 i cs) es :: ps) := .cons (rA_loc _ _) (.cons (blkA_loc _ _ _) (.cons (blkA_loc _ _ _) (.cons (rvA_loc _ _ _) hl)))
            clear hv2 hlo
            go_upto_region 21 with fail
            have hbo := hX.third.blk0
            have Hr := Has.pick (l := [_, _, _, _]) hX [3, 0, 1, 2] rfl
            simp only [pickA, List.map_cons, List.map_nil, List.getD_cons_zero, List.getD_cons_succ, List.cons_append, List.nil_append] at Hr
            have hbr := Hr.blk0
            have o0 := hbo.cell 0
            have o1 := hbo.cell 1
            have o2 := hbo.cell 2
            have o3 := hbo.cell 3
            have r0 := hbr.cell 0
            have r1 := hbr.cell 1
            have r2 := hbr.cell 2
            have r3 := hbr.cell 3
            have f0 := hbr.frozen 0
            have f1 := hbr.frozen 1
            have f2 := hbr.frozen 2
            have f3 := hbr.frozen 3
            simp only [List.getElem?_toArray, List.getElem?_cons_zero, List.getElem?_cons_succ] at o0 o1 o2 o3 r0 r1 r2 r3
            have H8 := (((Hr.setB LR 0 (.int .i64 x)).setB LR 1 (.int .i64 0)).setB LR 2 (.string ⟨#[]⟩)).setB LR 3 (.slice ps1 i cs)
            simp only [List.setIfInBounds_toArray, List.set_cons_succ, List.set_cons_zero] at H8
            clear Hr
            go_wp2_with fail
            generalize World.setCell _ _ _ = w9 at *
            clear o0 o1 o2 o3 r0 r1 r2 r3 f0 f1 f2 f3 hbo hbr
            have hbr := H8.blk0
            have r0 := hbr.cell 0
            have r1 := hbr.cell 1
            have r2 := hbr.cell 2
            have r3 := hbr.cell 3
            simp only [List.getElem?_toArray, List.getElem?_cons_zero, List.getElem?_cons_succ] at r0 r1 r2 r3
            (try simp only [Exit.inBlock, Exit.then])
            refine bodyPost_ret (by simp [results, Try.results67, go_sem, r0, r1, r2, r3]; try rfl) rfl ?_
            have H9 := H8.drop.third.drop
            obtain ⟨_, H10⟩ := H9.third.vrow 3 0 []
            have hfl : (Fo.of (es.map Prod.fst)).len = i := by rw [Fo.of_len, List.length_map, hel]
            refine ⟨ps1, cs, ?_, by rw [HV2.out]; exact H10⟩
            rw [HV2.out, HX.out]
            simp only [Vl.cells, hfl]
            rfl
      | succ f =>
        have hd8 : ¬ (8 : Int) ≤ d := by omega
        rw [restV_3s] at hv0
        have hn64 := Rd.num_le 64 s2
        have hnum := H6.act L6 fun F hF => rnum_any hF 64 (by omega)
        generalize (s2.num 64).1 = n at *
        generalize (s2.num 64).2 = s3 at *
        have HV := Lib.hid hv0
        have hih := ih f (Nat.lt_succ_self f)
        clear hv0 ih
        go_wp2_with fail
        refine hnum.mono ?_
        rintro e w7 ⟨rfl, H8⟩
        clear hnum H6 v0
        go_wp2_with fail
        have hnil := H8.rvnil (.cons (rA_loc _ _) (.cons lc (.cons (blkA_loc _ _ _) (.cons lr hl)))) 62
        have HS := Has.pick (l := [_, _, _, _, _]) hnil [1, 2, 3, 4, 0] rfl
        simp only [pickA, List.map_cons, List.map_nil, List.getD_cons_zero, List.getD_cons_succ, List.cons_append, List.nil_append] at HS
        clear hnil H8
        go_loopw [56] (fun k wr => RdRel w r cb vx rx x e0 ps (readV f) (p + 1) n s3 k wr) (fun k _ => ((n : Int) + 1 - intOf k).toNat)
        case atStart => exact ⟨0, p + 1, s3, .slice none 0 0, [], rfl, by omega, rfl, HS⟩
        case round =>
          clear HS
          obtain ⟨i, m, s4, sl, es, rfl, hi, hlo, hX⟩ := hrel
          have hel : es.length = i := by
            have h1 := loopV_len (g := (readV f)) i (p + 1) s3
            rw [hlo] at h1
            simpa using h1
          obtain ⟨ps1, cs, hsl⟩ : ∃ p c, sl = .slice p i c := by
            have hX2 := Has.pick (l := [_, _, _, _, _]) hX [4, 0, 1, 2, 3] rfl
            simp only [pickA, List.map_cons, List.map_nil, List.getD_cons_zero, List.getD_cons_succ, List.cons_append, List.nil_append] at hX2
            obtain ⟨F, hF⟩ := hX2.head
            exact hel ▸ RowV.slice hF
          subst hsl
          by_cases hlt : i < n
          · have hm1 := loopV_le (g := readV f) (fun p s => readV_le f p s) i (p + 1) s3
            rw [hlo] at hm1
            simp only at hm1
            have hpow : 65 ^ (f + 1 + 1) = 65 * 65 ^ (f + 1) := by rw [Nat.pow_succ, Nat.mul_comm]
            rw [hpow] at hp
            have him : i * 65 ^ (f + 1) ≤ 63 * 65 ^ (f + 1) := Nat.mul_le_mul_right _ (by omega)
            have hmp : m + 65 ^ (f + 1) ≤ 4611686018427387904 := by omega
            have HL := Lib.hid hlo
            have i7 : ((i : Nat) : Int) < n := by omega
            have L4 : Locs (blkA vx 62 #[.int .i64 x, .int .i64 0, .string ⟨#[]⟩, .slice ps1 i cs] :: blkA rx 62 #[.int .i64 0, .int .i64 0, .string ⟨#[]⟩, .slice none 0 0] :: rvA 62 (.slice ps1 i cs) es :: ps) := .cons (blkA_loc _ _ _) (.cons lr (.cons (rvA_loc _ _ _) hl))
            have X2 := hX.ext (.cons (rA_loc _ _) (.cons (blkA_loc _ _ _) L4)) (Ext.refl _).drew
            have hc := hih w wr.drew _ r cb e0 s4 (d + 1) m (by omega) X2 L4 hmp
            have e9 : ((d + 1 : Nat) : Int) = (d : Int) + 1 := by omega
            rw [e9] at hc
            rcases hrd : readV f m s4 with ⟨⟨vy, m5⟩, s5⟩
            rw [hrd] at hc
            have HSU := Lib.hid (loopV_succ hlo hrd)
            have HCL := Lib.hid hc
            have hbv := X2.third.blk0
            have v3 : ∀ y : Of (fun X => Blk X vx 62 #[.int .i64 x, .int .i64 0, .string ⟨#[]⟩, .slice ps1 i cs]), y.val.cell? ⟨vx, 3, none⟩ = some (.slice ps1 i cs) := fun y => y.property.cell 3
            clear hc hrd e9 hlo hm1 hpow him hmp X2 hX
            go_upto_region 19 with fail
            have hFd := hbv
            have hne_ : Nonempty (Of ((fun X => Blk X vx 62 #[.int .i64 x, .int .i64 0, .string ⟨#[]⟩, .slice ps1 i cs]))) := ⟨⟨_, hFd⟩⟩
            refine region_planZ 10 (.seg [0,2,3,4,5,1,6,7,8,9] [true,true,true,true,true,true,false,false,false,true] .done) ((fun X => Blk X vx 62 #[.int .i64 x, .int .i64 0, .string ⟨#[]⟩, .slice ps1 i cs])) (by kernel_rfl) (by kernel_rfl) hFd ?_
            refine walkZ_seg ?_
            simp only [List.filterMap_cons, List.filterMap_nil, List.getElem?_cons_zero, List.getElem?_cons_succ]
            refine steps_quiet 6 (by kernel_rfl) ?_
            simp only [List.take_succ_cons, List.take_zero, List.drop_succ_cons, List.drop_zero]
            repeat (go_big_quiet_step (fail))
            refine wpQuiet_nil ?_
            clear v3
            refine steps_want rfl (fun K hK => ?_)
            go_simp
            refine HCL.out.mono ?_
            rintro e w4 ⟨q3, c3, rfl, Y4⟩
            simp only at Y4
            have LY4 : Locs (vlA q3 c3 vy :: rA r s5 :: blkA cb 121 #[.int .i64 m5, .int .i64 e0] :: blkA vx 62 #[.int .i64 x, .int .i64 0, .string ⟨#[]⟩, .slice ps1 i cs] :: blkA rx 62 #[.int .i64 0, .int .i64 0, .string ⟨#[]⟩, .slice none 0 0] :: rvA 62 (.slice ps1 i cs) es :: ps) := .cons (vlA_loc _ _ _) (.cons (rA_loc _ _) (.cons (blkA_loc _ _ _) L4))
            clear HCL hbv
            have Y4b := Has.pick (l := [_, _, _, _]) Y4 [3, 0, 1, 2] rfl
            simp only [pickA, List.map_cons, List.map_nil, List.getD_cons_zero, List.getD_cons_succ, List.cons_append, List.nil_append] at Y4b
            have hbv := Y4b.blk0
            clear Y4b
            refine hK _ _ (fun X => Blk X vx 62 #[.int .i64 x, .int .i64 0, .string ⟨#[]⟩, .slice ps1 i cs]) hbv (fun _ h => h) ?_
            clear hK K
            (try simp only [Act.put, List.setIfInBounds_toArray, List.set_cons_succ, List.set_cons_zero])
            have Y5 := Y4.ext LY4 (ext_alloc w4 (.cells (vy.cells q3 c3).toArray 62))
            have hnews := news_new w4 (vy.cells q3 c3) 62
            simp only [Vl.cells] at Y5 hnews
            simp only [Vl.cells]
            refine steps_want rfl (fun K hK => ?_)
            go_simp
            generalize World.alloc _ _ = w5' at *
            clear Y4 hbv LY4
            have Y4b := Has.pick (l := [_, _, _, _]) Y5 [3, 0, 1, 2] rfl
            simp only [pickA, List.map_cons, List.map_nil, List.getD_cons_zero, List.getD_cons_succ, List.cons_append, List.nil_append] at Y4b
            have hbv := Y4b.blk0
            clear Y4b
            refine hK _ _ (fun X => Blk X vx 62 #[.int .i64 x, .int .i64 0, .string ⟨#[]⟩, .slice ps1 i cs]) hbv (fun _ h => h) ?_
            clear hK K
            (try simp only [Act.put, List.setIfInBounds_toArray, List.set_cons_succ, List.set_cons_zero])
            have Y5b := Has.pick (l := [_, _, _, _, _, _]) Y5 [5, 0, 1, 2, 3, 4] rfl
            simp only [pickA, List.map_cons, List.map_nil, List.getD_cons_zero, List.getD_cons_succ, List.cons_append, List.nil_append] at Y5b
            have Y6 := Y5b.rvx (e := (vy, q3, c3))
            have LY6 : Locs (rA r s5 :: blkA cb 121 #[.int .i64 m5, .int .i64 e0] :: blkA vx 62 #[.int .i64 x, .int .i64 0, .string ⟨#[]⟩, .slice ps1 i cs] :: blkA rx 62 #[.int .i64 0, .int .i64 0, .string ⟨#[]⟩, .slice none 0 0] :: ps) := .cons (rA_loc _ _) (.cons (blkA_loc _ _ _) (.cons (blkA_loc _ _ _) (.cons lr hl)))
            obtain ⟨FR, hFR⟩ := Y6.head
            clear Y5 Y5b hbv
            refine steps_want rfl (fun K hK => ?_)
            refine wp_append_new _ _ 23 rfl 62 i0 (.agg zeroV.toArray) 4 56 Try.underlying23 hi0 hz0 hz1 hz2 rfl (by decide) _ i (els es) rfl (hel ▸ hFR.1.own) (some ⟨w4.heap.size, 0, none⟩) 1 1 (vy.cells q3 c3) rfl rfl (fun h => nomatch h) hnews (cells_one _ _ _) (by unfold maxLen; omega) (by omega) ?_
            intro v6 w6 hown6 hg6 hf6
            have Z6 := Y6.next LY6 (fun F hF => RowV.grow hF.1 hF.2 (hel.symm ▸ hown6) hg6 hf6)
            clear Y6 hFR hnews hown6 hg6 hf6
            obtain ⟨p6, c6, rfl⟩ : ∃ p c, v6 = .slice p (i + 1) c := by
              obtain ⟨F, hF⟩ := Z6.head
              obtain ⟨p, c, h⟩ := RowV.slice hF
              exact ⟨p, c, by rw [h, List.length_append, hel]; rfl⟩
            have Z6b := Has.pick (l := [_, _, _, _]) Z6 [3, 0, 1, 2] rfl
            simp only [pickA, List.map_cons, List.map_nil, List.getD_cons_zero, List.getD_cons_succ, List.cons_append, List.nil_append] at Z6b
            refine hK _ _ (fun X => Blk X vx 62 #[.int .i64 x, .int .i64 0, .string ⟨#[]⟩, .slice ps1 i cs]) Z6b.blk0 (fun _ h => h) ?_
            clear hK K
            (try simp only [Act.put, List.setIfInBounds_toArray, List.set_cons_succ, List.set_cons_zero])
            have o6 : w6.cell? ⟨vx, 3, none⟩ = some (.slice ps1 i cs) := Z6b.blk0.cell 3
            have f6 := Z6b.blk0.frozen 3
            refine steps_quiet 1 (by kernel_rfl) ?_
            simp only [List.take_succ_cons, List.take_zero, List.drop_succ_cons, List.drop_zero]
            repeat (go_big_quiet_step (fail))
            refine wpQuiet_nil ?_
            refine steps_end ?_
            refine walkZ_done rfl rfl (fun K hK => ?_)
            go_simp
            refine hK _ _ ?_
            clear hK K
            try simp only [Act.put, List.setIfInBounds_toArray, List.set_cons_succ, List.set_cons_zero]
            have Z7 := Z6b.setB (.cons (rvA_loc _ _ _) (.cons (rA_loc _ _) (.cons (blkA_loc _ _ _) (.cons lr hl)))) 3 (.slice p6 (i + 1) c6)
            simp only [List.setIfInBounds_toArray, List.set_cons_succ, List.set_cons_zero] at Z7
            generalize World.setCell _ _ _ = w7' at *
            have Z8 := Has.pick (l := [_, _, _, _, _]) Z7 [2, 3, 0, 4, 1] rfl
            simp only [pickA, List.map_cons, List.map_nil, List.getD_cons_zero, List.getD_cons_succ, List.cons_append, List.nil_append] at Z8
            clear Z6 Z6b Z7 o6 f6
            go_wp2_with fail
            refine ⟨⟨i + 1, m5, s5, .slice p6 (i + 1) c6, es ++ [(vy, q3, c3)], by go_num, by omega, ?_, Z8⟩, by simp [intOf]; omega⟩
            rw [HSU.out, List.map_append]; rfl
          · have hi' : i = n := by omega
            subst hi'
            have i7 : ¬ ((i : Nat) : Int) < i := by omega
            have hv2 : readV (f + 1) p s = ((⟨3, 0, [], Fo.of (es.map Prod.fst)⟩, m), s4) := by rw [HV.out, hlo]
            have HV2 := Lib.hid hv2
            have HL := Lib.hid hlo
            have LR : Locs (rA r s4 :: blkA cb 121 #[.int .i64 m, .int .i64 e0] :: blkA vx 62 #[.int .i64 x, .int .i64 0, .string ⟨#[]⟩, .slice ps1 i cs] :: rvA 62 (.slice ps1 i cs) es :: ps) := .cons (rA_loc _ _) (.cons (blkA_loc _ _ _) (.cons (blkA_loc _ _ _) (.cons (rvA_loc _ _ _) hl)))
            clear hv2 hlo
            go_upto_region 21 with fail
            have hbo := hX.third.blk0
            have Hr := Has.pick (l := [_, _, _, _]) hX [3, 0, 1, 2] rfl
            simp only [pickA, List.map_cons, List.map_nil, List.getD_cons_zero, List.getD_cons_succ, List.cons_append, List.nil_append] at Hr
            have hbr := Hr.blk0
            have o0 := hbo.cell 0
            have o1 := hbo.cell 1
            have o2 := hbo.cell 2
            have o3 := hbo.cell 3
            have r0 := hbr.cell 0
            have r1 := hbr.cell 1
            have r2 := hbr.cell 2
            have r3 := hbr.cell 3
            have f0 := hbr.frozen 0
            have f1 := hbr.frozen 1
            have f2 := hbr.frozen 2
            have f3 := hbr.frozen 3
            simp only [List.getElem?_toArray, List.getElem?_cons_zero, List.getElem?_cons_succ] at o0 o1 o2 o3 r0 r1 r2 r3
            have H8 := (((Hr.setB LR 0 (.int .i64 x)).setB LR 1 (.int .i64 0)).setB LR 2 (.string ⟨#[]⟩)).setB LR 3 (.slice ps1 i cs)
            simp only [List.setIfInBounds_toArray, List.set_cons_succ, List.set_cons_zero] at H8
            clear Hr
            go_wp2_with fail
            generalize World.setCell _ _ _ = w9 at *
            clear o0 o1 o2 o3 r0 r1 r2 r3 f0 f1 f2 f3 hbo hbr
            have hbr := H8.blk0
            have r0 := hbr.cell 0
            have r1 := hbr.cell 1
            have r2 := hbr.cell 2
            have r3 := hbr.cell 3
            simp only [List.getElem?_toArray, List.getElem?_cons_zero, List.getElem?_cons_succ] at r0 r1 r2 r3
            (try simp only [Exit.inBlock, Exit.then])
            refine bodyPost_ret (by simp [results, Try.results67, go_sem, r0, r1, r2, r3]; try rfl) rfl ?_
            have H9 := H8.drop.third.drop
            obtain ⟨_, H10⟩ := H9.third.vrow 3 0 []
            have hfl : (Fo.of (es.map Prod.fst)).len = i := by rw [Fo.of_len, List.length_map, hel]
            refine ⟨ps1, cs, ?_, by rw [HV2.out]; exact H10⟩
            rw [HV2.out, HX.out]
            simp only [Vl.cells, hfl]
            rfl
end Go.Proofs.Ytkkhcpknldlpoaa

namespace Go.Proofs.Ytkkhcpknldlpoaa
set_option maxRecDepth 4000
set_option linter.unusedVariables false
set_option linter.unusedSimpArgs false
open Go Go.RowKit
theorem readVal_eq {s s1 : Rd} {v : Vl} {p : Nat} (h : readV 8 0 s = ((v, p), s1)) : readVal s = (if ((overB s1.err s.at_ s1.at_) s1).2.err = 0 then v else Vl.zero, ((overB s1.err s.at_ s1.at_) s1).2) := by
  unfold readVal rBind rAt rErr
  simp only [h]
  rfl
theorem overB_pos {e : Int} {i j : Nat} (he : e = 0) (h : 512 < j - i) (s : Rd) : (overB e i j s).2 = s.fail 2 := by unfold overB; rw [if_pos ⟨he, h⟩]; rfl
theorem overB_neg {e : Int} {i j : Nat} (h : ¬ (e = 0 ∧ 512 < j - i)) (s : Rd) : (overB e i j s).2 = s := by unfold overB; rw [if_neg h]; rfl
theorem readVal_bad {s s1 : Rd} {v : Vl} {p : Nat} (h : readV 8 0 s = ((v, p), s1)) (he : s1.err ≠ 0) : readVal s = (Vl.zero, s1) := by
  rw [readVal_eq h, overB_neg (fun h => he h.1), if_neg he]
theorem readVal_over {s s1 : Rd} {v : Vl} {p : Nat} (h : readV 8 0 s = ((v, p), s1)) (he : s1.err = 0) (ho : 512 < s1.at_ - s.at_) : readVal s = (Vl.zero, s1.fail 2) := by
  rw [readVal_eq h, overB_pos he ho, if_neg (fail_ne (by decide))]
theorem readVal_good {s s1 : Rd} {v : Vl} {p : Nat} (h : readV 8 0 s = ((v, p), s1)) (he : s1.err = 0) (ho : ¬ 512 < s1.at_ - s.at_) : readVal s = (v, s1) := by
  rw [readVal_eq h, overB_neg (fun h => ho h.2), if_pos he]
def RvIs (w : World) (r : Nat) (ps : List Asr) (o : Vl × Rd) (e : Ending) (W' : World) : Prop :=
  ∃ q c, e = .returned (.agg (o.1.cells q c).toArray) ∧ Has w W' (vlA q c o.1 :: rA r o.2 :: ps)
/-- nothing is handed back; Hz: the result, and the rest -/
theorem readval_any (w W : World) (ps : List Asr) (r : Nat) (s : Rd) (hH : Has w W (rA r s :: ps)) (hl : Locs ps) :
    Calls Try.prog 47 #[.pointer (some ⟨r, 0, none⟩)] W fun e W' => RvIs w r ps (readVal s) e W' := by
  have L0 : Locs (rA r s :: ps) := .cons (rA_loc _ _) hl
  have H1 := hH.new L0 62 zeroV.toArray
  have L1 : Locs (blkA W.heap.size 62 zeroV.toArray :: rA r s :: ps) := .cons (blkA_loc _ _ _) L0
  have H2 := H1.new L1 121 #[.int .i64 0, .int .i64 0]
  have hz : (W.alloc (.cells zeroV.toArray 62)).heap.size = W.heap.size + 1 := by simp
  rw [hz] at H2
  simp only [zeroV] at H2
  clear hz H1 L1 L0 hH
  go_enter Try.func47, Try.ntmps47
  go_upto_region 2 with fail
  generalize World.alloc _ _ = W2 at *
  generalize hrx : W.heap.size = rx at *
  generalize hcb : rx + 1 = cb at *
  clear hrx hcb
  have H3 := Has.pick (l := [_, _, _]) H2 [2, 0, 1] rfl
  simp only [pickA, List.map_cons, List.map_nil, List.getD_cons_zero, List.getD_cons_succ, List.cons_append, List.nil_append] at H3
  clear H2
  have lr : Loc (blkA rx 62 #[.int .i64 0, .int .i64 0, .string ⟨#[]⟩, .slice none 0 0]) := blkA_loc _ _ _
  have hat := H3.keeps' fun F hF => rat_any hF
  have hle := (Good.readV 8 0).le s
  have hrd := read_n 8 w W2 _ r cb 0 s 0 0 rfl H3 (.cons lr hl) (by decide)
  rcases hrv : readV 8 0 s with ⟨⟨v, p⟩, s1⟩
  rw [hrv] at hrd hle
  simp only at hle
  have HRV := Lib.hid hrv
  have HRD := Lib.hid hrd
  have HLE := Lib.hid hle
  clear hrv hrd hle H3
  go_wp2_with fail
  refine hat.mono ?_
  rintro e w2 ⟨rfl, rfl⟩
  clear hat
  go_wp2_with fail
  refine HRD.out.mono ?_
  rintro e w3 ⟨q, c, rfl, H4⟩
  simp only at H4
  have L4 : Locs (vlA q c v :: rA r s1 :: blkA cb 121 #[.int .i64 p, .int .i64 0] :: blkA rx 62 #[.int .i64 0, .int .i64 0, .string ⟨#[]⟩, .slice none 0 0] :: ps) := .cons (vlA_loc _ _ _) (.cons (rA_loc _ _) (.cons (blkA_loc _ _ _) (.cons lr hl)))
  have H5 := H4.new L4 62 (v.cells q c).toArray
  simp only [Vl.cells] at H5
  simp only [Vl.cells]
  clear HRD H4
  go_upto_region 4 with fail
  generalize World.alloc _ _ = w4 at *
  generalize w3.heap.size = vx at *
  have H6 := Has.pick (l := [_, _, _]) H5 [2, 0, 1] rfl
  simp only [pickA, List.map_cons, List.map_nil, List.getD_cons_zero, List.getD_cons_succ, List.cons_append, List.nil_append] at H6
  have herr := H6.keeps' fun F hF => rerr_any hF
  have hat := H6.keeps' fun F hF => rat_any hF
  have hsm1 : s1.at_ ≤ 70368744177664 := by
    obtain ⟨F, g, c, hR, _⟩ := H6.head
    exact Nat.le_trans hR.le hR.sm
  have hle := HLE.out
  clear H5
  have lvx : Loc (blkA vx 62 #[.int .i64 v.k, .int .i64 v.n, .string ⟨v.s.toArray⟩, .slice q v.l.len c]) := blkA_loc _ _ _
  have lcb : Loc (blkA cb 121 #[.int .i64 p, .int .i64 0]) := blkA_loc _ _ _
  by_cases he : s1.err = 0
  case neg =>
    have he1 : (s1.err == 0) = false := by simp [he]
    have he2 : (s1.err != 0) = true := by simp [he]
    have HV := Lib.hid (readVal_bad HRV.out he)
    clear he
    go_wp2_with fail
    refine herr.mono ?_
    rintro e w5 ⟨rfl, rfl⟩
    clear hat
    go_wp2_with fail
    refine herr.mono ?_
    rintro e w5 ⟨rfl, rfl⟩
    clear herr
    have H7 := Has.pick (l := [_, _, _, _, _]) H6 [4, 0, 1, 2, 3] rfl
    simp only [pickA, List.map_cons, List.map_nil, List.getD_cons_zero, List.getD_cons_succ, List.cons_append, List.nil_append] at H7
    have LZ : Locs (rA r s1 :: blkA vx 62 #[.int .i64 v.k, .int .i64 v.n, .string ⟨v.s.toArray⟩, .slice q v.l.len c] :: vlA q c v :: blkA cb 121 #[.int .i64 p, .int .i64 0] :: ps) := .cons (rA_loc _ _) (.cons lvx (.cons (vlA_loc _ _ _) (.cons lcb hl)))
    have hbr := H7.blk0
    have r0 := hbr.cell 0
    have r1 := hbr.cell 1
    have r2 := hbr.cell 2
    have r3 := hbr.cell 3
    have f0 := hbr.frozen 0
    have f1 := hbr.frozen 1
    have f2 := hbr.frozen 2
    have f3 := hbr.frozen 3
    simp only [List.getElem?_toArray, List.getElem?_cons_zero, List.getElem?_cons_succ] at r0 r1 r2 r3
    have H8 := (((H7.setB LZ 0 (.int .i64 0)).setB LZ 1 (.int .i64 0)).setB LZ 2 (.string ⟨#[]⟩)).setB LZ 3 (.slice none 0 0)
    simp only [List.setIfInBounds_toArray, List.set_cons_succ, List.set_cons_zero] at H8
    go_wp2_with fail
    generalize World.setCell _ _ _ = w9 at *
    clear r0 r1 r2 r3 f0 f1 f2 f3 hbr
    have hbr := H8.blk0
    have r0 := hbr.cell 0
    have r1 := hbr.cell 1
    have r2 := hbr.cell 2
    have r3 := hbr.cell 3
    simp only [List.getElem?_toArray, List.getElem?_cons_zero, List.getElem?_cons_succ] at r0 r1 r2 r3
    (try simp only [Exit.inBlock, Exit.then])
    refine bodyPost_ret (by simp [results, Try.results47, go_sem, r0, r1, r2, r3]; try rfl) rfl ?_
    have H9 := Has.pick (l := [_, _, _, _, _]) H8 [0, 2, 3, 4, 1] rfl
    simp only [pickA, List.map_cons, List.map_nil, List.getD_cons_zero, List.getD_cons_succ, List.cons_append, List.nil_append] at H9
    have H10 := H9.drop.drop.drop.drop.vnone (.cons (rA_loc _ _) hl) 0 0 []
    exact ⟨none, 0, by rw [HV.out]; rfl, by rw [HV.out]; exact H10⟩
  have HE := Lib.hid he
  by_cases ho : 512 < s1.at_ - s.at_
  · have HV := Lib.hid (readVal_over HRV.out he ho)
    have ho1 : (512 : Int) < (s1.at_ : Int) - s.at_ := by omega
    have hne := fail_ne (s := s1) (e := 2) (by decide)
    have hfl := H6.act (.cons lvx (.cons (vlA_loc _ _ _) (.cons lcb (.cons lr hl)))) fun F hF => rfail_any hF 2
    rw [he] at herr
    clear he ho
    go_wp2_with fail
    refine herr.mono ?_
    rintro e w5 ⟨rfl, rfl⟩
    clear herr
    go_wp2_with fail
    refine hat.mono ?_
    rintro e w5 ⟨rfl, rfl⟩
    clear hat
    go_wp2_with fail
    refine hfl.mono ?_
    rintro e w5 ⟨rfl, H7⟩
    clear hfl H6
    generalize s1.fail 2 = s2 at *
    have he1 : (s2.err == 0) = false := by simp [hne]
    have he2 : (s2.err != 0) = true := by simp [hne]
    clear hne
    have herr := H7.keeps' fun F hF => rerr_any hF
    go_wp2_with fail
    refine herr.mono ?_
    rintro e w6 ⟨rfl, rfl⟩
    clear herr
    have H7b := Has.pick (l := [_, _, _, _, _]) H7 [4, 0, 1, 2, 3] rfl
    simp only [pickA, List.map_cons, List.map_nil, List.getD_cons_zero, List.getD_cons_succ, List.cons_append, List.nil_append] at H7b
    have LZ : Locs (rA r s2 :: blkA vx 62 #[.int .i64 v.k, .int .i64 v.n, .string ⟨v.s.toArray⟩, .slice q v.l.len c] :: vlA q c v :: blkA cb 121 #[.int .i64 p, .int .i64 0] :: ps) := .cons (rA_loc _ _) (.cons lvx (.cons (vlA_loc _ _ _) (.cons lcb hl)))
    have hbr := H7b.blk0
    have r0 := hbr.cell 0
    have r1 := hbr.cell 1
    have r2 := hbr.cell 2
    have r3 := hbr.cell 3
    have f0 := hbr.frozen 0
    have f1 := hbr.frozen 1
    have f2 := hbr.frozen 2
    have f3 := hbr.frozen 3
    simp only [List.getElem?_toArray, List.getElem?_cons_zero, List.getElem?_cons_succ] at r0 r1 r2 r3
    have H8 := (((H7b.setB LZ 0 (.int .i64 0)).setB LZ 1 (.int .i64 0)).setB LZ 2 (.string ⟨#[]⟩)).setB LZ 3 (.slice none 0 0)
    simp only [List.setIfInBounds_toArray, List.set_cons_succ, List.set_cons_zero] at H8
    go_wp2_with fail
    generalize World.setCell _ _ _ = w9 at *
    clear r0 r1 r2 r3 f0 f1 f2 f3 hbr
    have hbr := H8.blk0
    have r0 := hbr.cell 0
    have r1 := hbr.cell 1
    have r2 := hbr.cell 2
    have r3 := hbr.cell 3
    simp only [List.getElem?_toArray, List.getElem?_cons_zero, List.getElem?_cons_succ] at r0 r1 r2 r3
    (try simp only [Exit.inBlock, Exit.then])
    refine bodyPost_ret (by simp [results, Try.results47, go_sem, r0, r1, r2, r3]; try rfl) rfl ?_
    have H9 := Has.pick (l := [_, _, _, _, _]) H8 [0, 2, 3, 4, 1] rfl
    simp only [pickA, List.map_cons, List.map_nil, List.getD_cons_zero, List.getD_cons_succ, List.cons_append, List.nil_append] at H9
    have H10 := H9.drop.drop.drop.drop.vnone (.cons (rA_loc _ _) hl) 0 0 []
    exact ⟨none, 0, by rw [HV.out]; rfl, by rw [HV.out]; exact H10⟩
  · have HV := Lib.hid (readVal_good HRV.out he ho)
    have ho1 : ¬ (512 : Int) < (s1.at_ : Int) - s.at_ := by omega
    rw [he] at herr
    clear he ho
    go_wp2_with fail
    refine herr.mono ?_
    rintro e w5 ⟨rfl, rfl⟩
    go_wp2_with fail
    refine hat.mono ?_
    rintro e w5 ⟨rfl, rfl⟩
    clear hat
    go_wp2_with fail
    refine herr.mono ?_
    rintro e w5 ⟨rfl, rfl⟩
    clear herr
    have H7 := Has.pick (l := [_, _, _, _, _]) H6 [4, 1, 0, 2, 3] rfl
    simp only [pickA, List.map_cons, List.map_nil, List.getD_cons_zero, List.getD_cons_succ, List.cons_append, List.nil_append] at H7
    have LZ : Locs (blkA vx 62 #[.int .i64 v.k, .int .i64 v.n, .string ⟨v.s.toArray⟩, .slice q v.l.len c] :: rA r s1 :: vlA q c v :: blkA cb 121 #[.int .i64 p, .int .i64 0] :: ps) := .cons lvx (.cons (rA_loc _ _) (.cons (vlA_loc _ _ _) (.cons lcb hl)))
    have hbo := H7.swap.blk0
    have o0 := hbo.cell 0
    have o1 := hbo.cell 1
    have o2 := hbo.cell 2
    have o3 := hbo.cell 3
    have hbr := H7.blk0
    have r0 := hbr.cell 0
    have r1 := hbr.cell 1
    have r2 := hbr.cell 2
    have r3 := hbr.cell 3
    have f0 := hbr.frozen 0
    have f1 := hbr.frozen 1
    have f2 := hbr.frozen 2
    have f3 := hbr.frozen 3
    simp only [List.getElem?_toArray, List.getElem?_cons_zero, List.getElem?_cons_succ] at o0 o1 o2 o3 r0 r1 r2 r3
    have H8 := (((H7.setB LZ 0 (.int .i64 v.k)).setB LZ 1 (.int .i64 v.n)).setB LZ 2 (.string ⟨v.s.toArray⟩)).setB LZ 3 (.slice q v.l.len c)
    simp only [List.setIfInBounds_toArray, List.set_cons_succ, List.set_cons_zero] at H8
    go_wp2_with fail
    generalize World.setCell _ _ _ = w9 at *
    clear o0 o1 o2 o3 r0 r1 r2 r3 f0 f1 f2 f3 hbr hbo
    have hbr := H8.blk0
    have r0 := hbr.cell 0
    have r1 := hbr.cell 1
    have r2 := hbr.cell 2
    have r3 := hbr.cell 3
    simp only [List.getElem?_toArray, List.getElem?_cons_zero, List.getElem?_cons_succ] at r0 r1 r2 r3
    (try simp only [Exit.inBlock, Exit.then])
    refine bodyPost_ret (by simp [results, Try.results47, go_sem, r0, r1, r2, r3]; try rfl) rfl ?_
    have H9 := Has.pick (l := [_, _, _, _, _]) H8 [0, 1, 4, 3, 2] rfl
    simp only [pickA, List.map_cons, List.map_nil, List.getD_cons_zero, List.getD_cons_succ, List.cons_append, List.nil_append] at H9
    have H10 := H9.drop.drop.drop
    exact ⟨q, c, by rw [HV.out]; rfl, by rw [HV.out]; exact H10⟩
end Go.Proofs.Ytkkhcpknldlpoaa

namespace Go.Proofs.Ytkkhcpknldlpoaa
set_option maxRecDepth 4000
set_option linter.unusedVariables false
set_option linter.unusedSimpArgs false
open Go Go.RowKit
theorem rep_succ {α : Type} {m : RdM α} {i : Nat} {s0 s1 s2 : Rd} {l : List α} {a : α} (h : rep m i s0 = (l, s1)) (h2 : m s1 = (a, s2)) : rep m (i + 1) s0 = (l ++ [a], s2) := by
  show rBind (rep m i) (fun l => rBind m fun a => rPure (l ++ [a])) s0 = _
  unfold rBind rPure
  simp only [h, h2]
theorem rep_len {α : Type} {m : RdM α} : ∀ (i : Nat) (s : Rd), (rep m i s).1.length = i
  | 0, _ => rfl
  | i + 1, s => by
    show ((rep m i s).1 ++ [_]).length = _
    rw [List.length_append, rep_len i]; rfl
theorem readIn_bad {s s1 : Rd} {x : Nat} (h : s.byte = (x, s1)) (hx : ¬ isOp (x : Int)) : readIn s = (((x : Int), 0), s1.fail 110) := by
  have ho : opnd (x : Int) = 0 := if_neg hx
  have e : (overO x s1).2 = s1.fail 110 := by unfold overO; rw [if_neg hx]; rfl
  unfold readIn rBind
  simp only [h, e]
  rw [if_neg (fun h => h ho)]; rfl
theorem readIn_none {s s1 : Rd} {x : Nat} (h : s.byte = (x, s1)) (hx : isOp (x : Int)) (ho : opnd (x : Int) = 0) : readIn s = (((x : Int), 0), s1) := by
  have e : (overO x s1).2 = s1 := by unfold overO; rw [if_pos hx]; rfl
  unfold readIn rBind
  simp only [h, e]
  rw [if_neg (fun h => h ho)]; rfl
theorem readIn_some {s s1 s2 : Rd} {x a : Nat} (h : s.byte = (x, s1)) (hx : isOp (x : Int)) (ho : opnd (x : Int) ≠ 0) (hn : s1.num 512 = (a, s2)) : readIn s = (((x : Int), (a : Int)), s2) := by
  have e : (overO x s1).2 = s1 := by unfold overO; rw [if_pos hx]; rfl
  unfold readIn rBind
  simp only [h, e]
  rw [if_pos ho]
  simp only [hn]; rfl
theorem decodeR_eq {s0 s1 s2 s3 s4 s5 s6 s7 : Rd} {pl n m k : Nat} {cs : List Vl} {ns : List (List UInt8)} {code : List (Int × Int)} (h1 : s0.num 16 = (pl, s1)) (h2 : s1.num 64 = (n, s2)) (h3 : rep readVal n s2 = (cs, s3)) (h4 : s3.num 32 = (m, s4)) (h5 : rep Rd.text m s4 = (ns, s5)) (h6 : s5.num 512 = (k, s6)) (h7 : rep readIn k s6 = (code, s7)) :
    decodeR s0 = (⟨code, Fo.of cs, ns, (pl : Int)⟩, s7) := by
  unfold decodeR rBind rPure
  simp only [h1, h2, h3, h4, h5, h6, h7]
theorem decode_small {b : List UInt8} {p : Im} {s : Rd} (h : decodeR ⟨b, 0, 0⟩ = (p, s)) (he : s.end_ = 0) : ∀ v ∈ p.consts.vals, v.bytes.length ≤ b.length := by
  obtain ⟨e1, e2⟩ := rd_end0 he
  obtain ⟨l, h3, h4⟩ := Wr.decodeR ⟨b, 0, 0⟩ (Nat.zero_le _) (by rw [h]; exact e1)
  rw [h] at h3 h4
  simp only [List.drop_zero] at h4
  have h5 : p.bytes.length ≤ b.length := by rw [← h3, h4, List.length_append]; omega
  intro v hv
  have h6 : v.bytes.length ≤ (p.consts.vals.flatMap Vl.bytes).length := by
    obtain ⟨i, hi, rfl⟩ := List.getElem_of_mem hv
    have := flat_le hi rfl
    omega
  have h7 : (p.consts.vals.flatMap Vl.bytes).length ≤ p.bytes.length := by
    unfold Im.bytes
    simp only [List.length_append]
    omega
  omega
theorem decode_ok {b : List UInt8} {p : Im} {s : Rd} (h : decodeR ⟨b, 0, 0⟩ = (p, s)) : p.ok := by
  have := Ret.decodeR ⟨b, 0, 0⟩
  rw [h] at this
  exact this
theorem decodeE_end {b : List UInt8} {p : Im} {s : Rd} (h : decodeR ⟨b, 0, 0⟩ = (p, s)) (he : s.end_ ≠ 0) : decodeE b = (Im.zero, s.end_) := by
  unfold decodeE; rw [h]; simp only; rw [if_pos he]
theorem decodeE_bad {b : List UInt8} {p : Im} {s : Rd} (h : decodeR ⟨b, 0, 0⟩ = (p, s)) (he : s.end_ = 0) (hc : p.check ≠ 0) : decodeE b = (Im.zero, p.check) := by
  unfold decodeE; rw [h]; simp only; rw [if_neg (fun h => h he), if_pos hc]
theorem decodeE_good {b : List UInt8} {p : Im} {s : Rd} (h : decodeR ⟨b, 0, 0⟩ = (p, s)) (he : s.end_ = 0) (hc : p.check = 0) : decodeE b = (p, 0) := by
  unfold decodeE; rw [h]; simp only; rw [if_neg (fun h => h he), if_neg (fun h => h hc)]
end Go.Proofs.Ytkkhcpknldlpoaa

namespace Go.Proofs.Ytkkhcpknldlpoaa
set_option maxRecDepth 4000
set_option linter.unusedVariables false
set_option linter.unusedSimpArgs false
open Go Go.RowKit
theorem cdVs_snoc (l : List (Int × Int)) (a b : Int) : cdVs (l ++ [(a, b)]) = cdVs l ++ [.int .i64 a, .int .i64 b] := by simp [cdVs, cdV]
theorem Locs.tail {p : Asr} {ps : List Asr} (h : Locs (p :: ps)) : Locs ps := by cases h; assumption
abbrev nilS : Value := .slice none 0 0
abbrev zrA (rx : Nat) : Asr := blkA rx 26 #[.slice none 0 0, .slice none 0 0, .slice none 0 0, .int .i64 0]
def DcRel1 (W : World) (r px rx : Nat) (pl : Int) (n : Nat) (s0 : Rd) (k : Value) (wr : World) : Prop :=
  ∃ (i : Nat) (s' : Rd) (ks : Value) (es : List El), k = .int .u64 i ∧ i ≤ n ∧ rep readVal i s0 = (es.map Prod.fst, s') ∧
    Has W wr [rA r s', blkA px 26 #[.slice none 0 0, ks, .slice none 0 0, .int .i64 pl], zrA rx, rvA 62 ks es]
def DcRel2 (W : World) (r px rx : Nat) (pl : Int) (ks : Value) (es : List El) (n : Nat) (s0 : Rd) (k : Value) (wr : World) : Prop :=
  ∃ (i : Nat) (s' : Rd) (sv : Value) (ns : List (List UInt8)), k = .int .u64 i ∧ i ≤ n ∧ rep Rd.text i s0 = (ns, s') ∧
    Has W wr [rA r s', blkA px 26 #[.slice none 0 0, ks, sv, .int .i64 pl], zrA rx, rowA 9 1 sv i (ns.map nmV), rvA 62 ks es]
def DcRel3 (W : World) (r px rx : Nat) (pl : Int) (ks sv : Value) (es : List El) (m : Nat) (ns : List (List UInt8)) (n : Nat) (s0 : Rd) (k : Value) (wr : World) : Prop :=
  ∃ (i : Nat) (s' : Rd) (cv : Value) (code : List (Int × Int)), k = .int .u64 i ∧ i ≤ n ∧ rep readIn i s0 = (code, s') ∧
    Has W wr [rA r s', blkA px 26 #[cv, ks, sv, .int .i64 pl], zrA rx, rowA 52 2 cv i (cdVs code), rowA 9 1 sv m (ns.map nmV), rvA 62 ks es]
def DecIs (W : World) (o : Im × Int) (e : Ending) (W' : World) : Prop :=
  (∃ a, e = .returned (.tuple #[.agg (o.1.cells a).toArray, .int .i64 o.2]) ∧ ImB (fun k => W.heap.size ≤ k) W' a o.1) ∧ Ext W W'
set_option maxHeartbeats 8000000 in
theorem decode_any (W : World) (p : Option Addr) (c : Nat) (bs : List UInt8) (hN : NumsAt .u8 W p (byI bs)) (hp : p = none → bs.length = 0 ∧ c = 0) (hlen : bs.length ≤ 70368744170000) :
    Calls Try.prog 15 #[.slice p bs.length c] W fun e W' => DecIs W (decodeE bs) e W' := by
  obtain ⟨i0, hi0, hz0, hz1, hz2⟩ := info_parts valueInfo
  obtain ⟨j0, hj0, hj1, hj2, hj3⟩ := info_parts strInfoI
  obtain ⟨k0, hk0, hk1, hk2, hk3⟩ := info_parts instrInfo
  have H1 := (Has.nil (Ext.refl W)).new .nil 26 imzV.toArray
  have L1 : Locs [zrA W.heap.size] := .cons (blkA_loc _ _ _) .nil
  simp only [imzV] at H1
  have hrd := Lib.hid (read_any _ p c bs (hN.ext (ext_alloc W (.cells imzV.toArray 26))) hp (by omega))
  simp only [imzV] at hrd
  rcases e1 : Rd.num 16 ⟨bs, 0, 0⟩ with ⟨pl, s1⟩
  rcases e2 : Rd.num 64 s1 with ⟨n, s2⟩
  have hpl : pl ≤ 16 := by have := Rd.num_le 16 ⟨bs, 0, 0⟩; rw [e1] at this; exact this
  have hn64 : n ≤ 64 := by have := Rd.num_le 64 s1; rw [e2] at this; exact this
  have E1 := Lib.hid e1
  have E2 := Lib.hid e2
  clear e1 e2 hN
  go_enter Try.func15, Try.ntmps15
  go_upto_region 1 with fail
  generalize World.alloc _ _ = W1 at *
  generalize W.heap.size = rx at *
  go_wp2_with fail
  refine hrd.out.mono ?_
  intro e w2 hR
  obtain ⟨r, rfl, H2⟩ := H1.reader L1 hR
  clear hrd hR H1
  have hnum := Lib.hid (H2.act L1 fun F hF => rnum_any hF 16 (by omega))
  rw [E1.out] at hnum
  go_wp2_with fail
  refine hnum.out.mono ?_
  rintro e w3 ⟨rfl, H3⟩
  (try simp only at H3)
  have L3 : Locs [rA r s1, zrA rx] := .cons (rA_loc _ _) L1
  have H4 := (H3.new L3 26 #[.slice none 0 0, .slice none 0 0, .slice none 0 0, .int .i64 pl]).swap
  clear hnum H2 H3 L3
  go_upto_region 3 with fail
  generalize World.alloc _ _ = w4 at *
  generalize w3.heap.size = px at *
  have L4 : Locs [blkA px 26 #[.slice none 0 0, .slice none 0 0, .slice none 0 0, .int .i64 pl], zrA rx] := .cons (blkA_loc _ _ _) L1
  have hnum := Lib.hid (H4.act L4 fun F hF => rnum_any hF 64 (by omega))
  rw [E2.out] at hnum
  go_wp2_with fail
  refine hnum.out.mono ?_
  rintro e w5 ⟨rfl, H5⟩
  (try simp only at H5)
  clear hnum H4
  have H6 := H5.rvnil (.cons (rA_loc _ _) L4) 62
  have H7 := Has.pick (l := [_, _, _, _]) H6 [1, 2, 3, 0] rfl
  simp only [pickA, List.map_cons, List.map_nil, List.getD_cons_zero, List.getD_cons_succ, List.cons_append, List.nil_append] at H7
  clear H5 H6
  go_wp2_with fail
  go_loopw [19] (fun k wr => DcRel1 W r px rx pl n s2 k wr) (fun k _ => ((n : Int) + 1 - intOf k).toNat)
  case atStart => exact ⟨0, s2, .slice none 0 0, [], rfl, Nat.zero_le _, rfl, H7⟩
  case round =>
    clear H7
    obtain ⟨i, s3, ksv, es, rfl, hi, hre, hX⟩ := hrel
    have hel : es.length = i := by
      have := rep_len (m := readVal) i s2
      rw [hre] at this
      simpa using this
    obtain ⟨pk, ck, hks⟩ : ∃ p c, ksv = .slice p i c := by
      have hX2 := Has.pick (l := [_, _, _, _]) hX [3, 0, 1, 2] rfl
      simp only [pickA, List.map_cons, List.map_nil, List.getD_cons_zero, List.getD_cons_succ, List.cons_append, List.nil_append] at hX2
      obtain ⟨F, hF⟩ := hX2.head
      exact hel ▸ RowV.slice hF
    subst hks
    have HRE := Lib.hid hre
    clear hre
    have L5 : Locs [blkA px 26 #[.slice none 0 0, .slice pk i ck, .slice none 0 0, .int .i64 pl], zrA rx, rvA 62 (.slice pk i ck) es] := .cons (blkA_loc _ _ _) (.cons (blkA_loc _ _ _) (.cons (rvA_loc _ _ _) .nil))
    by_cases hlt : i < n
    · have i7 : (i : Int) < n := by omega
      have X2 := hX.ext (.cons (rA_loc _ _) L5) (Ext.refl _).drew
      have hc := readval_any W wr.drew _ r s3 X2 L5
      rcases hrv : readVal s3 with ⟨vy, s4⟩
      rw [hrv] at hc
      have HSU := Lib.hid (rep_succ HRE.out hrv)
      have HCL := Lib.hid hc
      have hbv := X2.swap.blk0
      have v3 : ∀ y : Of (fun X => Blk X px 26 #[.slice none 0 0, .slice pk i ck, .slice none 0 0, .int .i64 pl]), y.val.cell? ⟨px, 1, none⟩ = some (.slice pk i ck) := fun y => y.property.cell 1
      clear hc hrv X2 hX HRE
      go_upto_region 5 with fail
      have hFd := hbv
      have hne_ : Nonempty (Of ((fun X => Blk X px 26 #[.slice none 0 0, .slice pk i ck, .slice none 0 0, .int .i64 pl]))) := ⟨⟨_, hFd⟩⟩
      refine region_planZ 7 (.seg [0,2,1,3,4,5,6] [true,true,true,false,false,false,true] .done) ((fun X => Blk X px 26 #[.slice none 0 0, .slice pk i ck, .slice none 0 0, .int .i64 pl])) (by kernel_rfl) (by kernel_rfl) hFd ?_
      refine walkZ_seg ?_
      simp only [List.filterMap_cons, List.filterMap_nil, List.getElem?_cons_zero, List.getElem?_cons_succ]
      refine steps_quiet 3 (by kernel_rfl) ?_
      simp only [List.take_succ_cons, List.take_zero, List.drop_succ_cons, List.drop_zero]
      repeat (go_big_quiet_step (fail))
      refine wpQuiet_nil ?_
      clear v3
      refine steps_want rfl (fun K hK => ?_)
      go_simp
      refine HCL.out.mono ?_
      rintro e w6 ⟨q3, c3, rfl, Y4⟩
      (try simp only at Y4)
      have LY4 : Locs [vlA q3 c3 vy, rA r s4, blkA px 26 #[.slice none 0 0, .slice pk i ck, .slice none 0 0, .int .i64 pl], zrA rx, rvA 62 (.slice pk i ck) es] := .cons (vlA_loc _ _ _) (.cons (rA_loc _ _) L5)
      clear HCL hbv
      have hbv := Y4.third.blk0
      refine hK _ _ (fun X => Blk X px 26 #[.slice none 0 0, .slice pk i ck, .slice none 0 0, .int .i64 pl]) hbv (fun _ h => h) ?_
      clear hK K
      (try simp only [Act.put, List.setIfInBounds_toArray, List.set_cons_succ, List.set_cons_zero])
      have Y5 := Y4.ext LY4 (ext_alloc w6 (.cells (vy.cells q3 c3).toArray 62))
      have hnews := news_new w6 (vy.cells q3 c3) 62
      simp only [Vl.cells] at Y5 hnews
      simp only [Vl.cells]
      refine steps_want rfl (fun K hK => ?_)
      go_simp
      generalize World.alloc _ _ = w7 at *
      clear Y4 hbv LY4
      have hbv := Y5.third.blk0
      refine hK _ _ (fun X => Blk X px 26 #[.slice none 0 0, .slice pk i ck, .slice none 0 0, .int .i64 pl]) hbv (fun _ h => h) ?_
      clear hK K
      (try simp only [Act.put, List.setIfInBounds_toArray, List.set_cons_succ, List.set_cons_zero])
      have Y5b := Has.pick (l := [_, _, _, _, _]) Y5 [4, 0, 1, 2, 3] rfl
      simp only [pickA, List.map_cons, List.map_nil, List.getD_cons_zero, List.getD_cons_succ, List.cons_append, List.nil_append] at Y5b
      have Y6 := Y5b.rvx (e := (vy, q3, c3))
      have LY6 : Locs [rA r s4, blkA px 26 #[.slice none 0 0, .slice pk i ck, .slice none 0 0, .int .i64 pl], zrA rx] := .cons (rA_loc _ _) (.cons (blkA_loc _ _ _) L1)
      obtain ⟨FR, hFR⟩ := Y6.head
      clear Y5 Y5b hbv
      refine steps_want rfl (fun K hK => ?_)
      refine wp_append_new _ _ 23 rfl 62 i0 (.agg zeroV.toArray) 4 56 Try.underlying23 hi0 hz0 hz1 hz2 rfl (by decide) _ i (els es) rfl (hel ▸ hFR.1.own) (some ⟨w6.heap.size, 0, none⟩) 1 1 (vy.cells q3 c3) rfl rfl (fun h => nomatch h) hnews (cells_one _ _ _) (by unfold maxLen; omega) (by omega) ?_
      intro v6 w8 hown6 hg6 hf6
      have Z6 := Y6.next LY6 (fun F hF => RowV.grow hF.1 hF.2 (hel.symm ▸ hown6) hg6 hf6)
      clear Y6 hFR hnews hown6 hg6 hf6
      obtain ⟨p6, c6, rfl⟩ : ∃ p c, v6 = .slice p (i + 1) c := by
        obtain ⟨F, hF⟩ := Z6.head
        obtain ⟨p, c, h⟩ := RowV.slice hF
        exact ⟨p, c, by rw [h, List.length_append, hel]; rfl⟩
      have Z6b := Z6.third
      refine hK _ _ (fun X => Blk X px 26 #[.slice none 0 0, .slice pk i ck, .slice none 0 0, .int .i64 pl]) Z6b.blk0 (fun _ h => h) ?_
      clear hK K
      (try simp only [Act.put, List.setIfInBounds_toArray, List.set_cons_succ, List.set_cons_zero])
      have o6 : w8.cell? ⟨px, 1, none⟩ = some (.slice pk i ck) := Z6b.blk0.cell 1
      have f6 := Z6b.blk0.frozen 1
      refine steps_quiet 1 (by kernel_rfl) ?_
      simp only [List.take_succ_cons, List.take_zero, List.drop_succ_cons, List.drop_zero]
      repeat (go_big_quiet_step (fail))
      refine wpQuiet_nil ?_
      refine steps_end ?_
      refine walkZ_done rfl rfl (fun K hK => ?_)
      go_simp
      refine hK _ _ ?_
      clear hK K
      try simp only [Act.put, List.setIfInBounds_toArray, List.set_cons_succ, List.set_cons_zero]
      have Z7 := Z6b.setB (.cons (rvA_loc _ _ _) (.cons (rA_loc _ _) L1)) 1 (.slice p6 (i + 1) c6)
      simp only [List.setIfInBounds_toArray, List.set_cons_succ, List.set_cons_zero] at Z7
      generalize World.setCell _ _ _ = w9 at *
      have Z8 := Has.pick (l := [_, _, _, _]) Z7 [2, 0, 3, 1] rfl
      simp only [pickA, List.map_cons, List.map_nil, List.getD_cons_zero, List.getD_cons_succ, List.cons_append, List.nil_append] at Z8
      clear Z6 Z6b Z7 o6 f6
      go_wp2_with fail
      refine ⟨⟨i + 1, s4, .slice p6 (i + 1) c6, es ++ [(vy, q3, c3)], by go_num, by omega, ?_, Z8⟩, by simp [intOf]; omega⟩
      rw [HSU.out, List.map_append]; rfl
    · have hin : i = n := by omega
      subst hin
      have i7 : ¬ (i : Int) < i := by omega
      rcases e4 : Rd.num 32 s3 with ⟨m, s4⟩
      have hm32 : m ≤ 32 := by have := Rd.num_le 32 s3; rw [e4] at this; exact this
      have E4 := Lib.hid e4
      have hnum := Lib.hid (hX.act L5 fun F hF => rnum_any hF 32 (by omega))
      rw [e4] at hnum
      clear e4 hlt hi
      go_wp2_with fail
      refine hnum.out.mono ?_
      rintro e w6 ⟨rfl, H5⟩
      (try simp only at H5)
      clear hnum hX
      have H6 := H5.rowNil (.cons (rA_loc _ _) L5) 9 1
      have H7 := Has.pick (l := [_, _, _, _]) H6 [1, 2, 3, 0] rfl
      simp only [pickA, List.map_cons, List.map_nil, List.getD_cons_zero, List.getD_cons_succ, List.cons_append, List.nil_append] at H7
      clear H5 H6
      go_wp2_with fail
      generalize wr = wz at *
      clear L5 i7
      go_loopw [31] (fun k wr => DcRel2 W r px rx pl (.slice pk i ck) es m s4 k wr) (fun k _ => ((m : Int) + 1 - intOf k).toNat)
      case atStart => exact ⟨0, s4, .slice none 0 0, [], rfl, Nat.zero_le _, rfl, H7⟩
      case round =>
        clear H7
        obtain ⟨j, s5, sv, ns, rfl, hj, hre, hX⟩ := hrel
        have hnl : ns.length = j := by
          have := rep_len (m := Rd.text) j s4
          rw [hre] at this
          exact this
        obtain ⟨pn, cn, hsv⟩ : ∃ p c, sv = .slice p j c := by
          have hX2 := Has.pick (l := [_, _, _, _, _]) hX [3, 0, 1, 2, 4] rfl
          simp only [pickA, List.map_cons, List.map_nil, List.getD_cons_zero, List.getD_cons_succ, List.cons_append, List.nil_append] at hX2
          exact ownsRow_slice hX2.row0
        subst hsv
        have HRN := Lib.hid hre
        clear hre
        have L6 : Locs [blkA px 26 #[.slice none 0 0, .slice pk i ck, .slice pn j cn, .int .i64 pl], zrA rx, rowA 9 1 (.slice pn j cn) j (ns.map nmV), rvA 62 (.slice pk i ck) es] := .cons (blkA_loc _ _ _) (.cons (blkA_loc _ _ _) (.cons (rowA_loc _ _ _ _ _) (.cons (rvA_loc _ _ _) .nil)))
        by_cases hlt : j < m
        · have i7 : (j : Int) < m := by omega
          have X2 := hX.ext (.cons (rA_loc _ _) L6) (Ext.refl _).drew
          have hc := X2.act L6 fun F hF => rtext_any hF
          rcases htx : Rd.text s5 with ⟨t, s6⟩
          have hst : strOf t = ⟨t.toArray⟩ := rfl
          rw [htx] at hc
          simp only [hst] at hc
          have HSU := Lib.hid (rep_succ HRN.out htx)
          have HCL := Lib.hid hc
          have hbv := X2.swap.blk0
          have v3 : ∀ y : Of (fun X => Blk X px 26 #[.slice none 0 0, .slice pk i ck, .slice pn j cn, .int .i64 pl]), y.val.cell? ⟨px, 2, none⟩ = some (.slice pn j cn) := fun y => y.property.cell 2
          clear hc htx hst X2 hX HRN
          go_upto_region 9 with fail
          have hFd := hbv
          have hne_ : Nonempty (Of ((fun X => Blk X px 26 #[.slice none 0 0, .slice pk i ck, .slice pn j cn, .int .i64 pl]))) := ⟨⟨_, hFd⟩⟩
          refine region_planZ 7 (.seg [0,2,1,3,4,5,6] [true,true,true,false,false,false,true] .done) ((fun X => Blk X px 26 #[.slice none 0 0, .slice pk i ck, .slice pn j cn, .int .i64 pl])) (by kernel_rfl) (by kernel_rfl) hFd ?_
          refine walkZ_seg ?_
          simp only [List.filterMap_cons, List.filterMap_nil, List.getElem?_cons_zero, List.getElem?_cons_succ]
          refine steps_quiet 3 (by kernel_rfl) ?_
          simp only [List.take_succ_cons, List.take_zero, List.drop_succ_cons, List.drop_zero]
          repeat (go_big_quiet_step (fail))
          refine wpQuiet_nil ?_
          clear v3
          refine steps_want rfl (fun K hK => ?_)
          go_simp
          refine HCL.out.mono ?_
          rintro e w7 ⟨rfl, Y4⟩
          have LY4 : Locs [rA r s6, blkA px 26 #[.slice none 0 0, .slice pk i ck, .slice pn j cn, .int .i64 pl], zrA rx, rowA 9 1 (.slice pn j cn) j (ns.map nmV), rvA 62 (.slice pk i ck) es] := .cons (rA_loc _ _) L6
          clear HCL hbv
          have hbv := Y4.swap.blk0
          refine hK _ _ (fun X => Blk X px 26 #[.slice none 0 0, .slice pk i ck, .slice pn j cn, .int .i64 pl]) hbv (fun _ h => h) ?_
          clear hK K
          (try simp only [Act.put, List.setIfInBounds_toArray, List.set_cons_succ, List.set_cons_zero])
          have Y5 := Y4.ext LY4 (ext_alloc w7 (.cells #[.string ⟨t.toArray⟩] 9))
          have hnews := news_new w7 [nmV t] 9
          simp only [nmV] at hnews
          refine steps_want rfl (fun K hK => ?_)
          go_simp
          generalize World.alloc _ _ = w8 at *
          clear Y4 hbv LY4
          have hbv := Y5.swap.blk0
          refine hK _ _ (fun X => Blk X px 26 #[.slice none 0 0, .slice pk i ck, .slice pn j cn, .int .i64 pl]) hbv (fun _ h => h) ?_
          clear hK K
          (try simp only [Act.put, List.setIfInBounds_toArray, List.set_cons_succ, List.set_cons_zero])
          have Y6 := Has.pick (l := [_, _, _, _, _]) Y5 [3, 0, 1, 2, 4] rfl
          simp only [pickA, List.map_cons, List.map_nil, List.getD_cons_zero, List.getD_cons_succ, List.cons_append, List.nil_append] at Y6
          have LY6 : Locs [rA r s6, blkA px 26 #[.slice none 0 0, .slice pk i ck, .slice pn j cn, .int .i64 pl], zrA rx, rvA 62 (.slice pk i ck) es] := .cons (rA_loc _ _) (.cons (blkA_loc _ _ _) (.cons (blkA_loc _ _ _) (.cons (rvA_loc _ _ _) .nil)))
          clear Y5 hbv
          refine steps_want rfl (fun K hK => ?_)
          refine wp_append_new _ _ 24 rfl 9 j0 (.string ⟨#[]⟩) 1 16 Try.underlying24 hj0 hj1 hj2 hj3 rfl (by decide) _ j (ns.map nmV) rfl Y6.row0 (some ⟨w7.heap.size, 0, none⟩) 1 1 [nmV t] rfl rfl (fun h => nomatch h) hnews (nmV_one [t]) (by unfold maxLen; omega) (by omega) ?_
          intro v6 w9 hown6 hg6 hf6
          have Z6 := Y6.grow LY6 hown6 hg6 hf6
          obtain ⟨p6, c6, rfl⟩ := ownsRow_slice hown6
          clear Y6 hnews hown6 hg6 hf6
          have Z6b := Z6.third
          refine hK _ _ (fun X => Blk X px 26 #[.slice none 0 0, .slice pk i ck, .slice pn j cn, .int .i64 pl]) Z6b.blk0 (fun _ h => h) ?_
          clear hK K
          (try simp only [Act.put, List.setIfInBounds_toArray, List.set_cons_succ, List.set_cons_zero])
          have o6 : w9.cell? ⟨px, 2, none⟩ = some (.slice pn j cn) := Z6b.blk0.cell 2
          have f6 := Z6b.blk0.frozen 2
          refine steps_quiet 1 (by kernel_rfl) ?_
          simp only [List.take_succ_cons, List.take_zero, List.drop_succ_cons, List.drop_zero]
          repeat (go_big_quiet_step (fail))
          refine wpQuiet_nil ?_
          refine steps_end ?_
          refine walkZ_done rfl rfl (fun K hK => ?_)
          go_simp
          refine hK _ _ ?_
          clear hK K
          try simp only [Act.put, List.setIfInBounds_toArray, List.set_cons_succ, List.set_cons_zero]
          have Z7 := Z6b.setB (.cons (rowA_loc _ _ _ _ _) (.cons (rA_loc _ _) (.cons (blkA_loc _ _ _) (.cons (rvA_loc _ _ _) .nil)))) 2 (.slice p6 (j + 1) c6)
          simp only [List.setIfInBounds_toArray, List.set_cons_succ, List.set_cons_zero] at Z7
          generalize World.setCell _ _ _ = w10 at *
          have Z8 := Has.pick (l := [_, _, _, _, _]) Z7 [2, 0, 3, 1, 4] rfl
          simp only [pickA, List.map_cons, List.map_nil, List.getD_cons_zero, List.getD_cons_succ, List.cons_append, List.nil_append] at Z8
          clear Z6 Z6b Z7 o6 f6
          go_wp2_with fail
          refine ⟨⟨j + 1, s6, .slice p6 (j + 1) c6, ns ++ [t], by go_num, by omega, HSU.out, ?_⟩, by simp [intOf]; omega⟩
          rw [List.map_append]
          exact Z8
        · have hjm : j = m := by omega
          subst hjm
          have i7 : ¬ (j : Int) < j := by omega
          rcases e6 : Rd.num 512 s5 with ⟨k, s6⟩
          have hk512 : k ≤ 512 := by have := Rd.num_le 512 s5; rw [e6] at this; exact this
          have E6 := Lib.hid e6
          have hnum := Lib.hid (hX.act L6 fun F hF => rnum_any hF 512 (by omega))
          rw [e6] at hnum
          clear e6 hlt hj
          go_wp2_with fail
          refine hnum.out.mono ?_
          rintro e w7 ⟨rfl, H5⟩
          (try simp only at H5)
          clear hnum hX
          have H6 := H5.rowNil (.cons (rA_loc _ _) L6) 52 2
          have H7 := Has.pick (l := [_, _, _, _]) H6 [1, 2, 3, 0] rfl
          simp only [pickA, List.map_cons, List.map_nil, List.getD_cons_zero, List.getD_cons_succ, List.cons_append, List.nil_append] at H7
          clear H5 H6
          go_wp2_with fail
          generalize wr = wy at *
          clear L6 i7
          go_loopw [43] (fun k' wr => DcRel3 W r px rx pl (.slice pk i ck) (.slice pn j cn) es j ns k s6 k' wr) (fun k' _ => ((k : Int) + 1 - intOf k').toNat)
          case atStart => exact ⟨0, s6, .slice none 0 0, [], rfl, Nat.zero_le _, rfl, H7⟩
          case round =>
            clear H7
            obtain ⟨l, s7, cv, code, rfl, hl, hre, hX⟩ := hrel
            have hcl : code.length = l := by
              have := rep_len (m := readIn) l s6
              rw [hre] at this
              exact this
            obtain ⟨pc, cc, hcv⟩ : ∃ p c, cv = .slice p l c := by
              have hX2 := Has.pick (l := [_, _, _, _]) hX [3, 0, 1, 2] rfl
              simp only [pickA, List.map_cons, List.map_nil, List.getD_cons_zero, List.getD_cons_succ, List.cons_append, List.nil_append] at hX2
              exact ownsRow_slice hX2.row0
            subst hcv
            have HRC := Lib.hid hre
            clear hre
            have LT : Locs [zrA rx, rowA 52 2 (.slice pc l cc) l (cdVs code), rowA 9 1 (.slice pn j cn) j (ns.map nmV), rvA 62 (.slice pk i ck) es] := .cons (blkA_loc _ _ _) (.cons (rowA_loc _ _ _ _ _) (.cons (rowA_loc _ _ _ _ _) (.cons (rvA_loc _ _ _) .nil)))
            have L6 : Locs [blkA px 26 #[.slice pc l cc, .slice pk i ck, .slice pn j cn, .int .i64 pl], zrA rx, rowA 52 2 (.slice pc l cc) l (cdVs code), rowA 9 1 (.slice pn j cn) j (ns.map nmV), rvA 62 (.slice pk i ck) es] := .cons (blkA_loc _ _ _) LT
            by_cases hlt : l < k
            · have i7 : (l : Int) < k := by omega
              rcases hby : s7.byte with ⟨x, s8⟩
              have hx256 : x < 256 := by have := s7.byte_lt; rw [hby] at this; exact this
              have hc := hX.act L6 fun F hF => rbyte_any hF
              rw [hby] at hc
              have HCL := Lib.hid hc
              have HBY := Lib.hid hby
              have HO := Lib.hid (fun X => of_any (x : Int) X)
              clear hc hby hX
              go_wp2_with fail
              refine HCL.out.mono ?_
              rintro e w8 ⟨rfl, Y1⟩
              (try simp only at Y1)
              clear HCL
              have Y2 := (Y1.new (.cons (rA_loc _ _) L6) 52 #[.int .i64 x, .int .i64 0]).swap
              have L7 : Locs [blkA w8.heap.size 52 #[.int .i64 x, .int .i64 0], blkA px 26 #[.slice pc l cc, .slice pk i ck, .slice pn j cn, .int .i64 pl], zrA rx, rowA 52 2 (.slice pc l cc) l (cdVs code), rowA 9 1 (.slice pn j cn) j (ns.map nmV), rvA 62 (.slice pk i ck) es] := .cons (blkA_loc _ _ _) L6
              clear Y1
              go_upto_region 14 with fail
              generalize World.alloc _ _ = w9 at *
              generalize w8.heap.size = cx at *
              have c0 : w9.cell? ⟨cx, 0, none⟩ = some (.int .i64 x) := Y2.swap.blk0.cell 0
              go_wp2_with fail
              refine (HO.out _).mono ?_
              rintro e w10 ⟨rfl, hE10⟩
              clear HO c0
              have Y3 := Y2.ext (.cons (rA_loc _ _) L7) hE10
              have hro := info_operand (x : Int)
              generalize info (x : Int) = ri at *
              have Y4 := (Y3.new (.cons (rA_loc _ _) L7) 46 ri.cells.toArray).swap
              simp only [IRow.cells, hro] at Y4
              simp only [IRow.cells, hro]
              have HRO := Lib.hid hro
              clear Y2 Y3 hE10 hro
              go_upto_region 15 with fail
              generalize World.alloc _ _ = w11 at *
              generalize w10.heap.size = fx at *
              have hli : Loc (blkA fx 46 #[.string ⟨ri.name.toArray⟩, .int .i64 (opnd (x : Int)), .int .i64 ri.in_, .int .i64 ri.out, .bool ri.blocks, .bool ri.ends, .bool ri.flow]) := blkA_loc _ _ _
              by_cases ho : isOp (x : Int)
              case neg =>
                have hob : isOpB (x : Int) = false := decide_eq_false ho
                have hon : opnd (x : Int) = 0 := if_neg ho
                have HSU := Lib.hid (rep_succ HRC.out (readIn_bad HBY.out ho))
                have hfl := Lib.hid (Y4.act (.cons hli L7) fun F hF => rfail_any hF 110)
                generalize s8.fail 110 = s9 at *
                clear ho
                rw [hon] at Y4 hfl hli
                go_wp2_with fail
                refine hfl.out.mono ?_
                rintro e w12 ⟨rfl, Y5⟩
                clear hfl Y4
                have j1 : w12.cell? ⟨fx, 1, none⟩ = some (.int .i64 ((0 : Nat) : Int)) := Y5.swap.blk0.cell 1
                go_upto_region 19 with fail
                clear j1 hon
                have hbc := Y5.third.blk0
                have HP := Has.pick (l := [_, _, _, _]) Y5 [3, 0, 1, 2] rfl
                simp only [pickA, List.map_cons, List.map_nil, List.getD_cons_zero, List.getD_cons_succ, List.cons_append, List.nil_append] at HP
                have c0 : World.cell? w12 ⟨cx, 0, none⟩ = some (.int .i64 x) := hbc.cell 0
                have c1 : World.cell? w12 ⟨cx, 1, none⟩ = some (.int .i64 0) := hbc.cell 1
                have p0 : World.cell? w12 ⟨px, 0, none⟩ = some (.slice pc l cc) := HP.blk0.cell 0
                have X5 := Y5.ext (.cons (rA_loc _ _) (.cons hli (.cons (blkA_loc _ _ _) L6))) (ext_alloc w12 (.cells #[.int .i64 x, .int .i64 0] 52))
                have X6 := Has.pick (l := [_, _, _, _, _, _]) X5 [5, 0, 1, 2, 3, 4] rfl
                simp only [pickA, List.map_cons, List.map_nil, List.getD_cons_zero, List.getD_cons_succ, List.cons_append, List.nil_append] at X6
                have hnews := news_new w12 [.int .i64 x, .int .i64 0] 52
                have LR6 : Locs [rA r s9, _, _, _, zrA rx, rowA 9 1 (.slice pn j cn) j (ns.map nmV), rvA 62 (.slice pk i ck) es] := .cons (rA_loc _ _) (.cons hli (.cons (blkA_loc cx 52 #[.int .i64 x, .int .i64 0]) (.cons (blkA_loc px 26 #[.slice pc l cc, .slice pk i ck, .slice pn j cn, .int .i64 pl]) (.cons (blkA_loc _ _ _) (.cons (rowA_loc _ _ _ _ _) (.cons (rvA_loc _ _ _) .nil))))))
                clear hbc HP X5
                go_wp2_with (at_builtin; refine wpList_append_new rfl _ _ 22 rfl 52 k0 (.agg #[.int .i64 0, .int .i64 0]) 2 16 Try.underlying22 hk0 hk1 hk2 hk3 rfl (by decide) _ l (cdVs code) rfl X6.row0 (some ⟨World.heap w12 |>.size, 0, none⟩) 1 1 [.int .i64 x, .int .i64 0] rfl rfl (fun h => nomatch h) hnews (by intro u hu; simp at hu; rcases hu with rfl | rfl <;> rfl) (by unfold maxLen; omega) (by omega) ?_)
                intro v6 w20 hown6 hg6 hf6
                rw [← cdVs_snoc] at hown6
                have Z6 := X6.grow LR6 hown6 hg6 hf6
                obtain ⟨p6, c6, rfl⟩ := ownsRow_slice hown6
                clear X6 hnews hown6 hg6 hf6 c0 c1 p0 Y5
                have Z6b := Has.pick (l := [_, _, _, _, _]) Z6 [4, 0, 1, 2, 3] rfl
                simp only [pickA, List.map_cons, List.map_nil, List.getD_cons_zero, List.getD_cons_succ, List.cons_append, List.nil_append] at Z6b
                have p0 : w20.cell? ⟨px, 0, none⟩ = some (.slice pc l cc) := Z6b.blk0.cell 0
                have fp0 := Z6b.blk0.frozen 0
                have Z7 := Z6b.setB (.cons (rowA_loc _ _ _ _ _) (.cons (rA_loc _ _) (.cons hli (.cons (blkA_loc _ _ _) (.cons (blkA_loc _ _ _) (.cons (rowA_loc _ _ _ _ _) (.cons (rvA_loc _ _ _) .nil))))))) 0 (.slice p6 (l + 1) c6)
                simp only [List.setIfInBounds_toArray, List.set_cons_succ, List.set_cons_zero] at Z7
                have Z8 := Has.pick (l := [_, _, _, _, _, _, _, _]) Z7 [3, 4, 2, 0, 5, 1, 6, 7] rfl
                simp only [pickA, List.map_cons, List.map_nil, List.getD_cons_zero, List.getD_cons_succ, List.cons_append, List.nil_append] at Z8
                clear Z6 Z6b Z7
                go_wp2_with fail
                refine ⟨⟨l + 1, s9, .slice p6 (l + 1) c6, code ++ [((x : Int), (0 : Int))], by go_num, by omega, HSU.out, Z8.drop.drop⟩, by simp [intOf]; omega⟩
              have hob : isOpB (x : Int) = true := decide_eq_true ho
              have j1 : w11.cell? ⟨fx, 1, none⟩ = some (.int .i64 (opnd (x : Int))) := Y4.swap.blk0.cell 1
              by_cases hon : opnd (x : Int) = 0
              · have HSU := Lib.hid (rep_succ HRC.out (readIn_none HBY.out ho hon))
                rw [hon] at j1
                clear ho
                go_upto_region 19 with fail
                clear j1 hon
                have hbc := Y4.third.blk0
                have HP := Has.pick (l := [_, _, _, _]) Y4 [3, 0, 1, 2] rfl
                simp only [pickA, List.map_cons, List.map_nil, List.getD_cons_zero, List.getD_cons_succ, List.cons_append, List.nil_append] at HP
                have c0 : World.cell? w11 ⟨cx, 0, none⟩ = some (.int .i64 x) := hbc.cell 0
                have c1 : World.cell? w11 ⟨cx, 1, none⟩ = some (.int .i64 0) := hbc.cell 1
                have p0 : World.cell? w11 ⟨px, 0, none⟩ = some (.slice pc l cc) := HP.blk0.cell 0
                have X5 := Y4.ext (.cons (rA_loc _ _) (.cons hli (.cons (blkA_loc _ _ _) L6))) (ext_alloc w11 (.cells #[.int .i64 x, .int .i64 0] 52))
                have X6 := Has.pick (l := [_, _, _, _, _, _]) X5 [5, 0, 1, 2, 3, 4] rfl
                simp only [pickA, List.map_cons, List.map_nil, List.getD_cons_zero, List.getD_cons_succ, List.cons_append, List.nil_append] at X6
                have hnews := news_new w11 [.int .i64 x, .int .i64 0] 52
                have LR6 : Locs [rA r s8, _, _, _, zrA rx, rowA 9 1 (.slice pn j cn) j (ns.map nmV), rvA 62 (.slice pk i ck) es] := .cons (rA_loc _ _) (.cons hli (.cons (blkA_loc cx 52 #[.int .i64 x, .int .i64 0]) (.cons (blkA_loc px 26 #[.slice pc l cc, .slice pk i ck, .slice pn j cn, .int .i64 pl]) (.cons (blkA_loc _ _ _) (.cons (rowA_loc _ _ _ _ _) (.cons (rvA_loc _ _ _) .nil))))))
                clear hbc HP X5
                go_wp2_with (at_builtin; refine wpList_append_new rfl _ _ 22 rfl 52 k0 (.agg #[.int .i64 0, .int .i64 0]) 2 16 Try.underlying22 hk0 hk1 hk2 hk3 rfl (by decide) _ l (cdVs code) rfl X6.row0 (some ⟨World.heap w11 |>.size, 0, none⟩) 1 1 [.int .i64 x, .int .i64 0] rfl rfl (fun h => nomatch h) hnews (by intro u hu; simp at hu; rcases hu with rfl | rfl <;> rfl) (by unfold maxLen; omega) (by omega) ?_)
                intro v6 w20 hown6 hg6 hf6
                rw [← cdVs_snoc] at hown6
                have Z6 := X6.grow LR6 hown6 hg6 hf6
                obtain ⟨p6, c6, rfl⟩ := ownsRow_slice hown6
                clear X6 hnews hown6 hg6 hf6 c0 c1 p0 Y4
                have Z6b := Has.pick (l := [_, _, _, _, _]) Z6 [4, 0, 1, 2, 3] rfl
                simp only [pickA, List.map_cons, List.map_nil, List.getD_cons_zero, List.getD_cons_succ, List.cons_append, List.nil_append] at Z6b
                have p0 : w20.cell? ⟨px, 0, none⟩ = some (.slice pc l cc) := Z6b.blk0.cell 0
                have fp0 := Z6b.blk0.frozen 0
                have Z7 := Z6b.setB (.cons (rowA_loc _ _ _ _ _) (.cons (rA_loc _ _) (.cons hli (.cons (blkA_loc _ _ _) (.cons (blkA_loc _ _ _) (.cons (rowA_loc _ _ _ _ _) (.cons (rvA_loc _ _ _) .nil))))))) 0 (.slice p6 (l + 1) c6)
                simp only [List.setIfInBounds_toArray, List.set_cons_succ, List.set_cons_zero] at Z7
                have Z8 := Has.pick (l := [_, _, _, _, _, _, _, _]) Z7 [3, 4, 2, 0, 5, 1, 6, 7] rfl
                simp only [pickA, List.map_cons, List.map_nil, List.getD_cons_zero, List.getD_cons_succ, List.cons_append, List.nil_append] at Z8
                clear Z6 Z6b Z7
                go_wp2_with fail
                refine ⟨⟨l + 1, s8, .slice p6 (l + 1) c6, code ++ [((x : Int), (0 : Int))], by go_num, by omega, HSU.out, Z8.drop.drop⟩, by simp [intOf]; omega⟩
              · rcases e9 : Rd.num 512 s8 with ⟨av, s9⟩
                have ha512 : av ≤ 512 := by have := Rd.num_le 512 s8; rw [e9] at this; exact this
                have HSU := Lib.hid (rep_succ HRC.out (readIn_some HBY.out ho hon e9))
                have hnum := Y4.act (.cons hli L7) fun F hF => rnum_any hF 512 (by omega)
                rw [e9] at hnum
                have HNUM := Lib.hid hnum
                have hk1' : ((opnd (x : Int) : Int) != 0) = true := by simp; omega
                have hk2' : ((opnd (x : Int) : Int) == 0) = false := by simp; omega
                generalize opnd (x : Int) = ok1 at *
                clear hnum e9 ho hon
                go_wp2_with fail
                refine HNUM.out.mono ?_
                rintro e w12 ⟨rfl, Y5⟩
                (try simp only at Y5)
                clear HNUM Y4 j1
                have c1 : w12.cell? ⟨cx, 1, none⟩ = some (.int .i64 0) := Y5.third.blk0.cell 1
                have f1 := Y5.third.blk0.frozen 1
                have Y6 := Y5.third.setB (.cons (rA_loc _ _) (.cons hli L6)) 1 (.int .i64 av)
                simp only [List.setIfInBounds_toArray, List.set_cons_succ, List.set_cons_zero] at Y6
                have Y7 := Y6.third.third
                clear Y5 Y6
                go_upto_region 19 with fail
                generalize World.setCell _ _ _ = w13 at *
                clear c1 f1
                have hbc := Y7.third.blk0
                have HP := Has.pick (l := [_, _, _, _]) Y7 [3, 0, 1, 2] rfl
                simp only [pickA, List.map_cons, List.map_nil, List.getD_cons_zero, List.getD_cons_succ, List.cons_append, List.nil_append] at HP
                have c0 : World.cell? w13 ⟨cx, 0, none⟩ = some (.int .i64 x) := hbc.cell 0
                have c1 : World.cell? w13 ⟨cx, 1, none⟩ = some (.int .i64 av) := hbc.cell 1
                have p0 : World.cell? w13 ⟨px, 0, none⟩ = some (.slice pc l cc) := HP.blk0.cell 0
                have X5 := Y7.ext (.cons (rA_loc _ _) (.cons hli (.cons (blkA_loc _ _ _) L6))) (ext_alloc w13 (.cells #[.int .i64 x, .int .i64 av] 52))
                have X6 := Has.pick (l := [_, _, _, _, _, _]) X5 [5, 0, 1, 2, 3, 4] rfl
                simp only [pickA, List.map_cons, List.map_nil, List.getD_cons_zero, List.getD_cons_succ, List.cons_append, List.nil_append] at X6
                have hnews := news_new w13 [.int .i64 x, .int .i64 av] 52
                have LR6 : Locs [rA r s9, _, _, _, zrA rx, rowA 9 1 (.slice pn j cn) j (ns.map nmV), rvA 62 (.slice pk i ck) es] := .cons (rA_loc _ _) (.cons hli (.cons (blkA_loc cx 52 #[.int .i64 x, .int .i64 av]) (.cons (blkA_loc px 26 #[.slice pc l cc, .slice pk i ck, .slice pn j cn, .int .i64 pl]) (.cons (blkA_loc _ _ _) (.cons (rowA_loc _ _ _ _ _) (.cons (rvA_loc _ _ _) .nil))))))
                clear hbc HP X5
                go_wp2_with (at_builtin; refine wpList_append_new rfl _ _ 22 rfl 52 k0 (.agg #[.int .i64 0, .int .i64 0]) 2 16 Try.underlying22 hk0 hk1 hk2 hk3 rfl (by decide) _ l (cdVs code) rfl X6.row0 (some ⟨World.heap w13 |>.size, 0, none⟩) 1 1 [.int .i64 x, .int .i64 av] rfl rfl (fun h => nomatch h) hnews (by intro u hu; simp at hu; rcases hu with rfl | rfl <;> rfl) (by unfold maxLen; omega) (by omega) ?_)
                intro v6 w20 hown6 hg6 hf6
                rw [← cdVs_snoc] at hown6
                have Z6 := X6.grow LR6 hown6 hg6 hf6
                obtain ⟨p6, c6, rfl⟩ := ownsRow_slice hown6
                clear X6 hnews hown6 hg6 hf6 c0 c1 p0 Y7
                have Z6b := Has.pick (l := [_, _, _, _, _]) Z6 [4, 0, 1, 2, 3] rfl
                simp only [pickA, List.map_cons, List.map_nil, List.getD_cons_zero, List.getD_cons_succ, List.cons_append, List.nil_append] at Z6b
                have p0 : w20.cell? ⟨px, 0, none⟩ = some (.slice pc l cc) := Z6b.blk0.cell 0
                have fp0 := Z6b.blk0.frozen 0
                have Z7 := Z6b.setB (.cons (rowA_loc _ _ _ _ _) (.cons (rA_loc _ _) (.cons hli (.cons (blkA_loc _ _ _) (.cons (blkA_loc _ _ _) (.cons (rowA_loc _ _ _ _ _) (.cons (rvA_loc _ _ _) .nil))))))) 0 (.slice p6 (l + 1) c6)
                simp only [List.setIfInBounds_toArray, List.set_cons_succ, List.set_cons_zero] at Z7
                have Z8 := Has.pick (l := [_, _, _, _, _, _, _, _]) Z7 [3, 4, 2, 0, 5, 1, 6, 7] rfl
                simp only [pickA, List.map_cons, List.map_nil, List.getD_cons_zero, List.getD_cons_succ, List.cons_append, List.nil_append] at Z8
                clear Z6 Z6b Z7
                go_wp2_with fail
                refine ⟨⟨l + 1, s9, .slice p6 (l + 1) c6, code ++ [((x : Int), (av : Int))], by go_num, by omega, HSU.out, Z8.drop.drop⟩, by simp [intOf]; omega⟩
            · have hlk : l = k := by omega
              subst hlk
              have i7 : ¬ (l : Int) < l := by omega
              have hdec := decodeR_eq E1.out E2.out HRE.out E4.out HRN.out E6.out HRC.out
              have HDEC := Lib.hid hdec
              have hend := Lib.hid (hX.keeps (.cons (rA_loc _ _) L6) fun F hF => rend_any hF)
              clear hdec hlt hl
              by_cases he : s7.end_ = 0
              case neg =>
                have he1 : (s7.end_ != 0) = true := by simp [he]
                have he2 : (s7.end_ == 0) = false := by simp [he]
                have HD := Lib.hid (decodeE_end HDEC.out he)
                clear he
                go_wp2_with fail
                refine hend.out.mono ?_
                rintro e w8 ⟨rfl, Z1, hE8⟩
                clear hend hX hE8
                have Zz := Has.pick (l := [_, _, _]) Z1 [2, 0, 1] rfl
                simp only [pickA, List.map_cons, List.map_nil, List.getD_cons_zero, List.getD_cons_succ, List.cons_append, List.nil_append] at Zz
                have LZ : Locs [rA r s7, blkA px 26 #[.slice pc l cc, .slice pk i ck, .slice pn j cn, .int .i64 pl], rowA 52 2 (.slice pc l cc) l (cdVs code), rowA 9 1 (.slice pn j cn) j (ns.map nmV), rvA 62 (.slice pk i ck) es] := .cons (rA_loc _ _) (.cons (blkA_loc _ _ _) LT.tail)
                have hbr := Zz.blk0
                have r0 := hbr.cell 0
                have r1 := hbr.cell 1
                have r2 := hbr.cell 2
                have r3 := hbr.cell 3
                have f0 := hbr.frozen 0
                have f1 := hbr.frozen 1
                have f2 := hbr.frozen 2
                have f3 := hbr.frozen 3
                simp only [List.getElem?_toArray, List.getElem?_cons_zero, List.getElem?_cons_succ] at r0 r1 r2 r3
                have Z9 := (((Zz.setB LZ 0 (.slice none 0 0)).setB LZ 1 (.slice none 0 0)).setB LZ 2 (.slice none 0 0)).setB LZ 3 (.int .i64 0)
                simp only [List.setIfInBounds_toArray, List.set_cons_succ, List.set_cons_zero] at Z9
                go_wp2_with fail
                generalize World.setCell _ _ _ = w99 at *
                clear r0 r1 r2 r3 f0 f1 f2 f3 hbr
                have hbr := Z9.blk0
                have r0 := hbr.cell 0
                have r1 := hbr.cell 1
                have r2 := hbr.cell 2
                have r3 := hbr.cell 3
                simp only [List.getElem?_toArray, List.getElem?_cons_zero, List.getElem?_cons_succ] at r0 r1 r2 r3
                (try simp only [Exit.inBlock, Exit.then])
                refine bodyPost_ret (by simp [results, Try.results15, go_sem, r0, r1, r2, r3]; try rfl) rfl ?_
                exact ⟨⟨Ip.nil, by rw [HD.out]; rfl, by rw [HD.out]; exact ImB.zero _ _⟩, Z9.base⟩
              · have he1 : (s7.end_ != 0) = false := by simp [he]
                have he2 : (s7.end_ == 0) = true := by simp [he]
                have HE := Lib.hid he
                have hok := decode_ok HDEC.out
                have hsm := decode_small HDEC.out he
                generalize hee : s7.end_ = ee at hend he1 he2
                clear he hee
                go_wp2_with fail
                refine hend.out.mono ?_
                rintro e w8 ⟨rfl, Z1, hE8⟩
                clear hend hX hE8
                have Z2 := Has.pick (l := [_, _, _, _, _, _]) Z1 [5, 4, 3, 0, 1, 2] rfl
                simp only [pickA, List.map_cons, List.map_nil, List.getD_cons_zero, List.getD_cons_succ, List.cons_append, List.nil_append] at Z2
                have Z3 := Z2.mkIm (pl : Int)
                have hcells : Im.cells ⟨code, Fo.of (es.map Prod.fst), ns, (pl : Int)⟩ ⟨pc, cc, pk, ck, pn, cn⟩ = [.slice pc l cc, .slice pk i ck, .slice pn j cn, .int .i64 pl] := by
                  unfold Im.cells
                  simp only [Fo.of_len, List.length_map, hcl, hnl, hel]
                have hck := imcheck_any _ _ w8 Z3.im hok (fun v hv => Nat.le_trans (hsm v hv) hlen)
                rw [hcells] at hck
                have HCK := Lib.hid hck
                have HCL := Lib.hid hcells
                have hbp : Blk w8 px 26 #[.slice pc l cc, .slice pk i ck, .slice pn j cn, .int .i64 pl] := Z1.swap.blk0
                have p0 := hbp.cell 0
                have p1 := hbp.cell 1
                have p2 := hbp.cell 2
                have p3 := hbp.cell 3
                simp only [List.getElem?_toArray, List.getElem?_cons_zero, List.getElem?_cons_succ] at p0 p1 p2 p3
                clear hck hcells hbp Z1 Z2 hsm
                go_wp2_with fail
                refine HCK.out.mono ?_
                rintro e w9 ⟨rfl, hE9⟩
                have LA : Locs [imA ⟨pc, cc, pk, ck, pn, cn⟩ ⟨code, Fo.of (es.map Prod.fst), ns, (pl : Int)⟩, rA r s7, blkA px 26 #[.slice pc l cc, .slice pk i ck, .slice pn j cn, .int .i64 pl], zrA rx] := .cons (imA_loc _ _) (.cons (rA_loc _ _) (.cons (blkA_loc _ _ _) L1))
                have Z4 := Z3.ext LA hE9
                clear HCK p0 p1 p2 p3 Z3 hE9
                have Zz := Has.pick (l := [_, _, _, _]) Z4 [3, 2, 0, 1] rfl
                simp only [pickA, List.map_cons, List.map_nil, List.getD_cons_zero, List.getD_cons_succ, List.cons_append, List.nil_append] at Zz
                have LZ : Locs [blkA px 26 #[.slice pc l cc, .slice pk i ck, .slice pn j cn, .int .i64 pl], imA ⟨pc, cc, pk, ck, pn, cn⟩ ⟨code, Fo.of (es.map Prod.fst), ns, (pl : Int)⟩, rA r s7] := .cons (blkA_loc _ _ _) (.cons (imA_loc _ _) (.cons (rA_loc _ _) .nil))
                clear Z4
                by_cases hce : Im.check ⟨code, Fo.of (es.map Prod.fst), ns, (pl : Int)⟩ = 0
                case neg =>
                  have HD := Lib.hid (decodeE_bad HDEC.out HE.out hce)
                  generalize Im.check ⟨code, Fo.of (es.map Prod.fst), ns, (pl : Int)⟩ = ce at *
                  have hc1 : (ce != 0) = true := by simp [hce]
                  have hc2 : (ce == 0) = false := by simp [hce]
                  clear hce
                  have hbr := Zz.blk0
                  have r0 := hbr.cell 0
                  have r1 := hbr.cell 1
                  have r2 := hbr.cell 2
                  have r3 := hbr.cell 3
                  have f0 := hbr.frozen 0
                  have f1 := hbr.frozen 1
                  have f2 := hbr.frozen 2
                  have f3 := hbr.frozen 3
                  simp only [List.getElem?_toArray, List.getElem?_cons_zero, List.getElem?_cons_succ] at r0 r1 r2 r3
                  have Z9 := (((Zz.setB LZ 0 (.slice none 0 0)).setB LZ 1 (.slice none 0 0)).setB LZ 2 (.slice none 0 0)).setB LZ 3 (.int .i64 0)
                  simp only [List.setIfInBounds_toArray, List.set_cons_succ, List.set_cons_zero] at Z9
                  go_wp2_with fail
                  generalize World.setCell _ _ _ = w99 at *
                  clear r0 r1 r2 r3 f0 f1 f2 f3 hbr
                  have hbr := Z9.blk0
                  have r0 := hbr.cell 0
                  have r1 := hbr.cell 1
                  have r2 := hbr.cell 2
                  have r3 := hbr.cell 3
                  simp only [List.getElem?_toArray, List.getElem?_cons_zero, List.getElem?_cons_succ] at r0 r1 r2 r3
                  (try simp only [Exit.inBlock, Exit.then])
                  refine bodyPost_ret (by simp [results, Try.results15, go_sem, r0, r1, r2, r3]; try rfl) rfl ?_
                  exact ⟨⟨Ip.nil, by rw [HD.out]; rfl, by rw [HD.out]; exact ImB.zero _ _⟩, Z9.base⟩
                have HD := Lib.hid (decodeE_good HDEC.out HE.out hce)
                generalize Im.check ⟨code, Fo.of (es.map Prod.fst), ns, (pl : Int)⟩ = ce at *
                have hc1 : (ce != 0) = false := by simp [hce]
                have hc2 : (ce == 0) = true := by simp [hce]
                clear hce
                have hbp : Blk w9 px 26 #[.slice pc l cc, .slice pk i ck, .slice pn j cn, .int .i64 pl] := Zz.swap.blk0
                have p0 := hbp.cell 0
                have p1 := hbp.cell 1
                have p2 := hbp.cell 2
                have p3 := hbp.cell 3
                simp only [List.getElem?_toArray, List.getElem?_cons_zero, List.getElem?_cons_succ] at p0 p1 p2 p3
                have hbr := Zz.blk0
                have r0 := hbr.cell 0
                have r1 := hbr.cell 1
                have r2 := hbr.cell 2
                have r3 := hbr.cell 3
                have f0 := hbr.frozen 0
                have f1 := hbr.frozen 1
                have f2 := hbr.frozen 2
                have f3 := hbr.frozen 3
                simp only [List.getElem?_toArray, List.getElem?_cons_zero, List.getElem?_cons_succ] at r0 r1 r2 r3
                have Z9 := (((Zz.setB LZ 0 (.slice pc l cc)).setB LZ 1 (.slice pk i ck)).setB LZ 2 (.slice pn j cn)).setB LZ 3 (.int .i64 pl)
                simp only [List.setIfInBounds_toArray, List.set_cons_succ, List.set_cons_zero] at Z9
                go_wp2_with fail
                generalize World.setCell _ _ _ = w99 at *
                clear r0 r1 r2 r3 f0 f1 f2 f3 hbr
                have hbr := Z9.blk0
                have r0 := hbr.cell 0
                have r1 := hbr.cell 1
                have r2 := hbr.cell 2
                have r3 := hbr.cell 3
                simp only [List.getElem?_toArray, List.getElem?_cons_zero, List.getElem?_cons_succ] at r0 r1 r2 r3
                (try simp only [Exit.inBlock, Exit.then])
                refine bodyPost_ret (by simp [results, Try.results15, go_sem, r0, r1, r2, r3]; try rfl) rfl ?_
                refine ⟨⟨⟨pc, cc, pk, ck, pn, cn⟩, ?_, ?_⟩, Z9.base⟩
                · rw [HD.out, HCL.out]
                · rw [HD.out]
                  have Za := Has.pick (l := [_, _, _, _]) Z9 [2, 0, 1, 3] rfl
                  simp only [pickA, List.map_cons, List.map_nil, List.getD_cons_zero, List.getD_cons_succ, List.cons_append, List.nil_append] at Za
                  exact Za.imB
end Go.Proofs.Ytkkhcpknldlpoaa

namespace Go.Proofs.Ytkkhcpknldlpoaa
set_option maxRecDepth 4000
set_option linter.unusedVariables false
set_option linter.unusedSimpArgs false
open Go Go.RowKit
def nameAt (k : Nat) : List UInt8 := (infoTab.getD k IRow.zero).name
/-- the first instruction from the k-th on that has the name -/
def findGo (s : List UInt8) : Nat → Nat → Option Nat
  | 0, _ => none
  | f + 1, k => if nameAt k = s then some k else findGo s f (k + 1)
def findIx (s : List UInt8) : Option Nat := findGo s 33 0
def findV (o : Option Nat) : Value := .tuple #[.int .i64 (o.getD 0 : Nat), .bool o.isSome]
theorem bytes_ne {a b : List UInt8} (h : a ≠ b) : (⟨a.toArray⟩ : ByteArray) ≠ ⟨b.toArray⟩ := fun e => h (by
  have := congrArg ByteArray.data e
  simpa using this)
theorem bytes_dec_f {a b : List UInt8} (h : a ≠ b) : decide ((⟨a.toArray⟩ : ByteArray) = ⟨b.toArray⟩) = false := decide_eq_false (bytes_ne h)
def FdRel (W : World) (s : List UInt8) (k : Value) (wr : World) : Prop := ∃ i : Nat, k = .int .i64 i ∧ i ≤ 33 ∧ findIx s = findGo s (33 - i) i ∧ Ext W wr
theorem find_any (s : List UInt8) (W : World) : Calls Try.prog 20 #[.string ⟨s.toArray⟩] W fun e W' => e = .returned (findV (findIx s)) ∧ Ext W W' := by
  go_enter Try.func20, Try.ntmps20
  go_wp2_with fail
  go_loopw [7] (fun k wr => FdRel W s k wr) (fun k _ => (34 - intOf k).toNat)
  case atStart => exact ⟨0, rfl, by omega, rfl, Ext.refl _⟩
  case round =>
    obtain ⟨i, rfl, hi, hfi, hE⟩ := hrel
    by_cases hlt : i < 33
    · have i7 : (i : Int) < 33 := by omega
      have hof := of_any (i : Int) wr
      rw [info_lit i hlt, isOpB_lit i hlt] at hof
      have hnx : findGo s (33 - i) i = if nameAt i = s then some i else findGo s (33 - (i + 1)) (i + 1) := by
        rw [show 33 - i = (33 - (i + 1)) + 1 by omega]; rfl
      rw [hnx] at hfi
      have hna : nameAt i = (infoTab.getD i IRow.zero).name := rfl
      rw [hna] at hfi
      generalize infoTab.getD i IRow.zero = r at *
      have HFI := Lib.hid hfi
      have HOF := Lib.hid hof
      clear hof hfi hnx hna
      go_wp2_with fail
      refine HOF.out.mono ?_
      rintro e w2 ⟨rfl, hE2⟩
      simp only [IRow.cells]
      go_upto_region 5 with fail
      by_cases he : r.name = s
      · have hfi := HFI.out
        rw [if_pos he] at hfi
        have HF := Lib.hid hfi
        subst he
        clear hfi HFI
        go_wp2_with fail
        go_returns
        exact ⟨by rw [HF.out]; rfl, (hE.trans hE2).alloc _⟩
      · have hfi := HFI.out
        rw [if_neg he] at hfi
        have HF := Lib.hid hfi
        have g1 : (r.name == s) = false := by simpa using he
        have g2 := bytes_dec_f he
        have g3 := bytes_ne he
        clear hfi HFI he
        go_wp2_with fail
        exact ⟨⟨i + 1, by go_num, by omega, HF.out, (hE.trans hE2).alloc _⟩, by simp [intOf]; omega⟩
    · have hi' : i = 33 := by omega
      subst hi'
      have HF := Lib.hid hfi
      clear hfi hlt
      go_wp2_with fail
      go_returns
      exact ⟨by rw [HF.out]; rfl, hE⟩
def tinyIm : Im := ⟨[(1, 0), (25, 0)], .node 1 5 [] .nil .nil, [], 0⟩
theorem tiny_any (W : World) : Calls Try.prog 34 #[] W fun e W' => (∃ a, e = .returned (.agg (tinyIm.cells a).toArray) ∧ ImB (fun k => W.heap.size ≤ k) W' a tinyIm) ∧ Ext W W' := by
  have hv := fun X => vof_any 5 X
  have HV := Lib.hid hv
  clear hv
  go_enter Try.func34, Try.ntmps34
  have H1 := (Has.nil (Ext.refl W)).new .nil 26 imzV.toArray
  have H2 := H1.new (.cons (blkA_loc _ _ _) .nil) 52 #[.int .i64 1, .int .i64 0, .int .i64 25, .int .i64 0]
  have e1 : (W.alloc (.cells imzV.toArray 26)).heap.size = W.heap.size + 1 := by simp
  rw [e1] at H2
  simp only [imzV] at H2
  have L2 : Locs [blkA (W.heap.size + 1) 52 #[.int .i64 1, .int .i64 0, .int .i64 25, .int .i64 0], blkA W.heap.size 26 #[.slice none 0 0, .slice none 0 0, .slice none 0 0, .int .i64 0]] := .cons (blkA_loc _ _ _) (.cons (blkA_loc _ _ _) .nil)
  clear H1 e1
  go_wp2_with fail
  generalize World.alloc _ _ = W2 at *
  refine (HV.out _).mono ?_
  rintro e w3 ⟨rfl, hE3⟩
  have H3 := H2.ext L2 hE3
  have H4 := H3.new L2 62 #[.int .i64 1, .int .i64 5, .string ⟨#[]⟩, .slice none 0 0]
  clear H2 H3 hE3 HV
  generalize hrx : W.heap.size = rx at *
  generalize rx + 1 = cx at *
  have hbr := H4.third.blk0
  have hvz : w3.heap.size = w3.heap.size := rfl
  have r0 := hbr.cell 0
  have r1 := hbr.cell 1
  have r2 := hbr.cell 2
  have r3 := hbr.cell 3
  have g0 := hbr.frozen 0
  have g1 := hbr.frozen 1
  have g2 := hbr.frozen 2
  have g3 := hbr.frozen 3
  simp only [List.getElem?_toArray, List.getElem?_cons_zero, List.getElem?_cons_succ] at r0 r1 r2 r3
  generalize hvx : w3.heap.size = vx at *
  have H5 := H4.third
  have LZ : Locs [blkA vx 62 #[.int .i64 1, .int .i64 5, .string ⟨#[]⟩, .slice none 0 0], blkA cx 52 #[.int .i64 1, .int .i64 0, .int .i64 25, .int .i64 0]] := .cons (blkA_loc _ _ _) (.cons (blkA_loc _ _ _) .nil)
  have Z9 := (((H5.setB LZ 0 (.slice (some ⟨cx, 0, none⟩) 2 2)).setB LZ 1 (.slice (some ⟨vx, 0, none⟩) 1 1)).setB LZ 2 (.slice none 0 0)).setB LZ 3 (.int .i64 0)
  simp only [List.setIfInBounds_toArray, List.set_cons_succ, List.set_cons_zero] at Z9
  clear hvz hbr H4 H5 L2
  go_wp2_with fail
  generalize World.setCell _ _ _ = w99 at *
  clear r0 r1 r2 r3 g0 g1 g2 g3
  have hbr := Z9.blk0
  have r0 := hbr.cell 0
  have r1 := hbr.cell 1
  have r2 := hbr.cell 2
  have r3 := hbr.cell 3
  simp only [List.getElem?_toArray, List.getElem?_cons_zero, List.getElem?_cons_succ] at r0 r1 r2 r3
  (try simp only [Exit.inBlock, Exit.then])
  refine bodyPost_ret (by simp [results, Try.results34, go_sem, r0, r1, r2, r3]; try rfl) rfl ?_
  refine ⟨⟨⟨some ⟨cx, 0, none⟩, 2, some ⟨vx, 0, none⟩, 1, none, 0⟩, rfl, ?_⟩, Z9.base⟩
  have hbv := Z9.swap.blk0
  have hbc := Z9.third.blk0
  have hvb : W.heap.size ≤ vx ∧ W.heap.size ≤ cx := by
    obtain ⟨F, _, _, F2, hF2, h2, F3, hF3, h3, _⟩ := Z9
    exact ⟨(h2 vx (by rw [hF2.2])).1, (h3 cx (by rw [hF3.2])).1⟩
  refine ⟨fun i hi => ?_, ⟨(fun h => (by cases h)), (show (2 : Nat) ≤ 2 by decide), (show 2 ≤ maxLen by decide)⟩, ⟨(fun h => (by cases h)), (show (1 : Nat) ≤ 1 by decide), (show 1 ≤ maxLen by decide), ⟨⟨vx, 0, none, 0, rfl, hvb.1, hbv.cell 0, hbv.cell 1, hbv.cell 2, hbv.cell 3, (fun _ => ⟨rfl, rfl⟩), Nat.le_refl _, (show 0 ≤ maxLen by decide), trivial⟩, trivial⟩⟩, fun i hi => absurd hi (Nat.not_lt_zero _), ⟨(fun _ => ⟨rfl, rfl⟩), (show (0 : Nat) ≤ 0 by decide), (show 0 ≤ maxLen by decide)⟩⟩
  have : i = 0 ∨ i = 1 := by
    have : i < 2 := hi
    omega
  rcases this with rfl | rfl
  · exact ⟨cx, 0, rfl, hvb.2, hbc.cell 0, hbc.cell 1⟩
  · exact ⟨cx, 0, rfl, hvb.2, hbc.cell 2, hbc.cell 3⟩
def tinyB : List UInt8 := [0, 1, 1, 10, 0, 2, 1, 0, 25]
theorem tiny_check : tinyIm.check = 0 := by decide +kernel
theorem tiny_bytes : tinyIm.bytes = tinyB := by decide +kernel
theorem tiny_clone : tinyIm.clone = tinyIm := rfl
theorem tiny_ok : tinyIm.ok := ⟨fun c hc => by
  simp [tinyIm] at hc
  rcases hc with rfl | rfl <;> exact ⟨⟨by decide, by decide⟩, ⟨by decide, by decide⟩⟩, ⟨⟨⟨by decide, by decide⟩, ⟨by decide, by decide⟩⟩, trivial, trivial⟩, ⟨by decide, by decide⟩⟩
theorem tiny_decode : decodeE tinyB = (tinyIm, 0) := by
  have := decode_bytes tiny_check tiny_ok
  rw [tiny_bytes, tiny_clone] at this
  exact this
theorem find_either : findIx [101, 105, 116, 104, 101, 114] = some 28 := by decide +kernel
end Go.Proofs.Ytkkhcpknldlpoaa

namespace Go.Proofs.Ytkkhcpknldlpoaa
set_option maxRecDepth 4000
set_option linter.unusedVariables false
set_option linter.unusedSimpArgs false
open Go Go.RowKit
theorem tiny_small : ∀ v ∈ tinyIm.consts.vals, v.bytes.length ≤ 70368744170000 := fun v hv => by
  have := check_bytes ((Im.fine tiny_check).consts v hv)
  omega
def fiveL : List UInt8 := [102, 105, 118, 101]
theorem five_new : newE fiveL tinyIm = 0 := by decide +kernel
set_option maxHeartbeats 4000000 in
theorem loads_any (w : World) : Calls Try.prog 10 #[] w fun e w' => e = .returned (.bool true) ∧ Ext w w' := by
  go_enter Try.func10, Try.ntmps10
  go_wp2_with fail
  refine (tiny_any w).mono ?_
  rintro e w1 ⟨⟨a1, rfl, hB1⟩, hE1⟩
  have henc := Lib.hid (encode_any tinyIm a1 w1 hB1.at tiny_ok tiny_small)
  go_wp2_with fail
  refine henc.out.mono ?_
  rintro e w2 ⟨⟨v, rfl, hv, _⟩, hE2⟩
  have hown := hv tiny_check
  rw [tiny_bytes] at hown
  obtain ⟨pv, cv, rfl⟩ := ownsRow_slice hown
  have hcz := tiny_check
  clear henc hv hB1
  have hdec := Lib.hid (decode_any w2 pv cv tinyB (bytesAt_own hown) (row_nil hown) (by decide))
  rw [tiny_decode] at hdec
  rw [hcz]
  go_wp2_with fail
  refine hdec.out.mono ?_
  rintro e w3 ⟨⟨a2, rfl, hB2⟩, hE3⟩
  clear hdec
  have hbp := Blk.new w3 26 (tinyIm.cells a2).toArray
  have hE4 := ext_alloc w3 (.cells (tinyIm.cells a2).toArray 26)
  have hnew := Lib.hid (new_any fiveL tinyIm a2 _ (hB2.at.ext hE4) tiny_ok tiny_small)
  simp only [Im.cells] at hbp hE4 hnew
  simp only [Im.cells]
  go_upto_region 3 with fail
  generalize World.alloc w3 _ = w4 at *
  generalize w3.heap.size = px at *
  have k0 : w4.cell? ⟨px, 0, none⟩ = some (.slice a2.pc tinyIm.code.length a2.cc) := hbp.cell 0
  have k1 : w4.cell? ⟨px, 1, none⟩ = some (.slice a2.pk tinyIm.consts.len a2.ck) := hbp.cell 1
  have k2 : w4.cell? ⟨px, 2, none⟩ = some (.slice a2.pn tinyIm.names.length a2.cn) := hbp.cell 2
  have k3 : w4.cell? ⟨px, 3, none⟩ = some (.int .i64 tinyIm.places) := hbp.cell 3
  go_wp2_with fail
  refine hnew.out.mono ?_
  rintro e w5 hN
  rcases hN with ⟨hbad, _⟩ | ⟨_, b, a3, rfl, H5⟩
  · exact absurd five_new hbad
  clear hnew k0 k1 k2 k3
  have hfind := Lib.hid (find_any [101, 105, 116, 104, 101, 114] w5)
  rw [find_either] at hfind
  go_wp2_with fail
  refine hfind.out.mono ?_
  rintro e w6 ⟨rfl, hE6⟩
  clear hfind
  have LP : Locs [blkA b 113 (pgS fiveL tinyIm.clone a3 false).toArray, imA a3 tinyIm.clone] := .cons (blkA_loc _ _ _) (.cons (imA_loc _ _) .nil)
  have H6 := H5.ext LP hE6
  have hE16 : Ext w w6 := ((((hE1.trans hE2).trans hE3).trans hE4).trans H6.base)
  have hcv : (convert 30 9 (.slice pv tinyB.length cv)).run Try.prog w6 = .ok (.string ⟨#[0, 1, 1, 10, 0, 2, 1, 0, 25]⟩) w6 := own_conv (ownsRow_ext hown (((hE3.trans hE4).trans H6.base)))
  have k0 : w6.cell? ⟨px, 0, none⟩ = some (.slice a2.pc 2 a2.cc) := (H6.base.cell _ _ hbp.lt).trans (hbp.cell 0)
  have hnm := Lib.hid (pname_any false H6)
  have hby := Lib.hid (pbytes_any false H6 .nil (by rw [Im.clone_check]; exact tiny_check) (Im.clone_ok tiny_ok) (by decide))
  rw [tiny_clone, tiny_bytes] at hby
  clear H5 hown hE6
  simp only [findV]
  go_wp2_with fail
  refine hnm.out.mono ?_
  rintro e w7 ⟨rfl, rfl⟩
  clear hnm
  have h9 : ((tinyB.length : Nat) : Int) = 9 := rfl
  rw [h9] at hby
  go_wp2_with fail
  refine hby.out.mono ?_
  rintro e w8 ⟨rfl, H8⟩
  clear hby k0 hcv
  go_wp2_with fail
  go_returns
  exact ⟨rfl, (((hE1.trans hE2).trans hE3).trans hE4).trans H8.base⟩
end Go.Proofs.Ytkkhcpknldlpoaa
