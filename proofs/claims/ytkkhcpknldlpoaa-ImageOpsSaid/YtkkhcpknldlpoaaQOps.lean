/- ImageOps: the walk. | ImageOps: for every input the law returns true, and each argument reads behind the call as it read before. -/
import Derived.Test.YtkkhcpknldlpoaaQA4
import Derived.WalkKit
import Derived.ProofKit
import Derived.OpenShut
import Derived.ShutString
import Derived.ChangeOld
import Derived.Below
import Derived.Lib.SmallJoins
import Derived.Deep.Fields
namespace Go.Proofs.Ytkkhcpknldlpoaa
set_option maxRecDepth 4000
set_option linter.unusedVariables false
set_option linter.unusedSimpArgs false
open Go Go.RowKit
/-- the last instruction ahead of the k-th that has the name -/
def lastTo (s : List UInt8) : Nat → Option Nat
  | 0 => none
  | k + 1 => if nameAt k = s then some k else lastTo s k
theorem last_own : ∀ k : Fin 33, findIx (nameAt k.1) = lastTo (nameAt k.1) 33 := by decide +kernel
theorem findGo_none {s : List UInt8} : ∀ (n k : Nat), (∀ j, j < k + n → nameAt j ≠ s) → findGo s n k = none
  | 0, _, _ => rfl
  | n + 1, k, h => by
    show (if nameAt k = s then some k else findGo s n (k + 1)) = none
    rw [if_neg (h k (by omega))]
    exact findGo_none n (k + 1) fun j hj => h j (by omega)
theorem lastTo_none {s : List UInt8} : ∀ (n : Nat), (∀ j, j < n → nameAt j ≠ s) → lastTo s n = none
  | 0, _ => rfl
  | n + 1, h => by
    show (if nameAt n = s then some n else lastTo s n) = none
    rw [if_neg (h n (by omega))]
    exact lastTo_none n fun j hj => h j (by omega)
theorem find_last (s : List UInt8) : findIx s = lastTo s 33 := by
  by_cases h : ∃ k : Fin 33, nameAt k.1 = s
  · obtain ⟨k, rfl⟩ := h
    exact last_own k
  · have hn : ∀ j, j < 33 → nameAt j ≠ s := fun j hj e => h ⟨⟨j, hj⟩, e⟩
    rw [lastTo_none 33 hn]
    exact findGo_none 33 0 fun j hj => hn j (by omega)
def kindsA : ByteArray := ⟨#[45, 99, 110, 112, 116, 107]⟩
theorem kinds_at : ∀ k : Fin 33, ((infoTab.getD k.1 IRow.zero).operand ≤ 5) ∧ (kindsA.data[(infoTab.getD k.1 IRow.zero).operand]?.map UInt8.toNat) = some (signTab.getD k.1 0) := by decide +kernel
theorem flow_at : ∀ k : Fin 33, (infoTab.getD k.1 IRow.zero).flow = (decide (k.1 = 11) || decide (k.1 = 12)) := by decide +kernel
theorem index_kinds {n sg : Nat} (h : kindsA.data[n]?.map UInt8.toNat = some sg) (w : World) :
    (Instr.index 9 (.string ⟨#[45, 99, 110, 112, 116, 107]⟩) (.int .i64 n)).run Try.prog w = .ok (.int .u8 (sg : Nat)) w := by
  have hn : n < 6 := by
    by_cases hn : n < 6
    · exact hn
    · have : kindsA.data[n]? = none := Array.getElem?_eq_none (by show 6 ≤ n; omega)
      rw [this] at h; cases h
  have hs : ((⟨#[45, 99, 110, 112, 116, 107]⟩ : ByteArray)).size = 6 := rfl
  rw [run_index_string (h := Try.underlying9), dif_pos ⟨by omega, by rw [hs]; omega⟩]
  have h2 : kindsA.data[n]? = some (kindsA.data[n]'hn) := Array.getElem?_eq_getElem hn
  rw [h2] at h
  injection h with h
  rw [← h]
  rfl
def LsRel (W : World) (s : List UInt8) (a b k : Value) (wr : World) : Prop := ∃ i : Nat, a = .int .i64 ((lastTo s i).getD 0 : Nat) ∧ b = .bool (lastTo s i).isSome ∧ k = .int .i64 i ∧ i ≤ 33 ∧ Ext W wr
set_option maxHeartbeats 4000000 in
theorem ops_any (w : World) (op : Int) (s : List UInt8) :
    Calls Try.prog 6 #[.int .i64 op, .string ⟨s.toArray⟩] w fun e w' => e = .returned (.bool true) ∧ Ext w w' := by
  go_enter Try.func6, Try.ntmps6
  go_wp2_with fail
  refine (loads_any w).mono ?_
  rintro e w1 ⟨rfl, hE1⟩
  by_cases hl : 50 < s.length
  · have g1 : (50 : Int) < s.length := by omega
    go_wp2_with fail
    go_returns
    exact ⟨rfl, hE1⟩
  have g1 : ¬ (50 : Int) < s.length := by omega
  go_wp2_with fail
  go_loopw [5, 6, 7] (fun a b k wr => LsRel w1 s a b k wr) (fun _ _ k _ => (34 - intOf k).toNat)
  case atStart => exact ⟨0, rfl, rfl, rfl, by omega, Ext.refl _⟩
  case round =>
    obtain ⟨i, rfl, rfl, rfl, hi, hE⟩ := hrel
    by_cases hlt : i < 33
    · have i7 : (i : Int) < 33 := by omega
      have hof := rname_any (i : Int) wr
      rw [info_lit i hlt] at hof
      have hna : nameAt i = (infoTab.getD i IRow.zero).name := rfl
      have hnx : lastTo s (i + 1) = if nameAt i = s then some i else lastTo s i := rfl
      rw [hna] at hnx
      generalize (infoTab.getD i IRow.zero).name = r at *
      generalize lastTo s i = la at *
      have HNX := Lib.hid hnx
      have HOF := Lib.hid hof
      clear hof hnx hna
      go_wp2_with fail
      refine HOF.out.mono ?_
      rintro e w2 ⟨rfl, hE2⟩
      by_cases he : r = s
      · have hnx := HNX.out
        rw [if_pos he] at hnx
        have HF := Lib.hid hnx
        subst he
        clear hnx HNX
        go_wp2_with fail
        exact ⟨⟨i + 1, by rw [HF.out]; rfl, by rw [HF.out]; rfl, by go_num, by omega, hE.trans hE2⟩, by simp [intOf]; omega⟩
      · have hnx := HNX.out
        rw [if_neg he] at hnx
        have HF := Lib.hid hnx
        have g4 : (r == s) = false := by simpa using he
        have g2 := bytes_dec_f he
        have g3 := bytes_ne he
        clear hnx HNX he
        go_wp2_with fail
        exact ⟨⟨i + 1, by rw [HF.out], by rw [HF.out], by go_num, by omega, hE.trans hE2⟩, by simp [intOf]; omega⟩
    · have hi' : i = 33 := by omega
      subst hi'
      rw [← find_last s]
      clear hlt
      have hfi := Lib.hid (find_any s wr)
      generalize findIx s = fi at *
      go_wp2_with fail
      refine hfi.out.mono ?_
      rintro e w2 ⟨rfl, hE2⟩
      simp only [findV]
      clear hfi
      generalize ((fi.getD 0 : Nat) : Int) = fk at *
      generalize fi.isSome = fb at *
      have hof := Lib.hid (of_any op w2)
      go_wp2_with fail
      refine hof.out.mono ?_
      rintro e w3 ⟨rfl, hE3⟩
      clear hof
      have hbi := Blk.new w3 46 (info op).cells.toArray
      have hEi := ext_alloc w3 (.cells (info op).cells.toArray 46)
      have hE9 := (((hE1.trans hE).trans hE2).trans hE3).trans hEi
      simp only [IRow.cells] at hbi hEi hE9
      simp only [IRow.cells]
      by_cases ho : isOp op
      case neg =>
        rw [info_none ho] at *
        rw [isOpB_none ho]
        simp only [IRow.zero] at *
        go_upto_region 15 with fail
        generalize World.alloc w3 _ = w4 at *
        generalize w3.heap.size = ix at *
        have k0 : w4.cell? ⟨ix, 0, none⟩ = some (.string ⟨#[]⟩) := hbi.cell 0
        have k1 : w4.cell? ⟨ix, 1, none⟩ = some (.int .i64 0) := hbi.cell 1
        have k2 : w4.cell? ⟨ix, 2, none⟩ = some (.int .i64 0) := hbi.cell 2
        have k3 : w4.cell? ⟨ix, 3, none⟩ = some (.int .i64 0) := hbi.cell 3
        have k4 : w4.cell? ⟨ix, 4, none⟩ = some (.bool false) := hbi.cell 4
        have k5 : w4.cell? ⟨ix, 5, none⟩ = some (.bool false) := hbi.cell 5
        have k6 : w4.cell? ⟨ix, 6, none⟩ = some (.bool false) := hbi.cell 6
        by_cases hn : op < 0
        · have hd : decide (op < 0) = true := decide_eq_true hn
          clear ho
          go_wp2_with fail
          go_returns
          exact ⟨rfl, hE9⟩
        · have h33 : (33 : Int) ≤ op := by
            have : ¬ (0 ≤ op ∧ op < 33) := ho
            omega
          clear ho
          have hd : decide (op < 0) = false := decide_eq_false hn
          go_wp2_with fail
          go_returns
          exact ⟨rfl, hE9⟩
      obtain ⟨k, hk, rfl⟩ := isOp_nat ho
      rw [info_lit k hk] at *
      rw [isOpB_lit k hk]
      obtain ⟨hk5, hkx⟩ := kinds_at ⟨k, hk⟩
      have hflow := flow_at ⟨k, hk⟩
      simp only at hk5 hkx hflow
      have HIX := index_kinds hkx
      have R1 := rname_any (k : Int)
      rw [info_lit k hk] at R1
      have R2 := roperand_lit k hk
      have R3 := rin_lit k hk
      have R4 := rout_lit k hk
      have R5 := rblocks_lit k hk
      have R6 := rends_lit k hk
      have HK := Lib.hid hk
      have i33 : (k : Int) < 33 := by omega
      clear hkx ho
      generalize infoTab.getD k IRow.zero = r at *
      generalize signTab.getD k 0 = sg at *
      obtain ⟨rn, ro, ri, rt, rb, re, rf⟩ := r
      simp only at *
      have HO := Lib.hid hk5
      have ro5 : ¬ ((5 : Int) < ro) := by omega
      have ro0 : ¬ ((ro : Int) < 0) := by omega
      subst hflow
      clear hk5
      go_upto_region 18 with fail
      generalize World.alloc w3 _ = w4 at *
      generalize w3.heap.size = ix at *
      have y0 : ∀ z : ExtOf w4, z.val.cell? ⟨ix, 0, none⟩ = some (.string ⟨rn.toArray⟩) := fun z => (z.property.cell _ _ hbi.lt).trans (hbi.cell 0)
      have y1 : ∀ z : ExtOf w4, z.val.cell? ⟨ix, 1, none⟩ = some (.int .i64 ro) := fun z => (z.property.cell _ _ hbi.lt).trans (hbi.cell 1)
      have H1 : ∀ z : ExtOf w4, Calls Try.prog 19 #[.int .i64 k] z.val fun e W' => e = .returned (.string ⟨rn.toArray⟩) ∧ ∃ y : ExtOf w4, W' = y.val := fun z => quiet_ext (R1 z.val)
      have H2 : ∀ z : ExtOf w4, Calls Try.prog 22 #[.int .i64 k] z.val fun e W' => e = .returned (.int .u8 (sg : Nat)) ∧ ∃ y : ExtOf w4, W' = y.val := fun z => (R2 z.val).mono fun e W' ⟨h1, h2⟩ => ⟨h1, z, h2.symm⟩
      refine region_ext (by kernel_rfl) (by kernel_rfl) ?_
      repeat (go_big_quiet_step (first | (with_reducible exact H1 _) | (with_reducible exact H2 _)))
      refine wpQuiet_nil ?_
      intro wq hq
      obtain ⟨xq, rfl⟩ := hq
      have hEq := xq.property
      generalize xq.val = wq at *
      clear xq
      clear y0 y1 H1 H2 R1 R2 HIX
      have hlt4 := hbi.lt
      replace hbi : Blk _ _ _ _ := (hEq.block _ hbi.lt).trans hbi
      replace hE9 := hE9.trans hEq
      clear hEq hEi
      go_upto_region 20 with fail
      have y2 : ∀ z : ExtOf wq, z.val.cell? ⟨ix, 2, none⟩ = some (.int .i64 ri) := fun z => (z.property.cell _ _ hbi.lt).trans (hbi.cell 2)
      have y3 : ∀ z : ExtOf wq, z.val.cell? ⟨ix, 3, none⟩ = some (.int .i64 rt) := fun z => (z.property.cell _ _ hbi.lt).trans (hbi.cell 3)
      have y4 : ∀ z : ExtOf wq, z.val.cell? ⟨ix, 4, none⟩ = some (.bool rb) := fun z => (z.property.cell _ _ hbi.lt).trans (hbi.cell 4)
      have y5 : ∀ z : ExtOf wq, z.val.cell? ⟨ix, 5, none⟩ = some (.bool re) := fun z => (z.property.cell _ _ hbi.lt).trans (hbi.cell 5)
      have H3 : ∀ z : ExtOf wq, Calls Try.prog 23 #[.agg #[.int .i64 k, .int .i64 0]] z.val fun e W' => e = .returned (.int .i64 ri) ∧ ∃ y : ExtOf wq, W' = y.val := fun z => quiet_ext (R3 z.val)
      have H4 : ∀ z : ExtOf wq, Calls Try.prog 24 #[.int .i64 k] z.val fun e W' => e = .returned (.int .i64 rt) ∧ ∃ y : ExtOf wq, W' = y.val := fun z => quiet_ext (R4 z.val)
      have H5 : ∀ z : ExtOf wq, Calls Try.prog 25 #[.int .i64 k] z.val fun e W' => e = .returned (.bool rb) ∧ ∃ y : ExtOf wq, W' = y.val := fun z => (R5 z.val).mono fun e W' ⟨h1, h2⟩ => ⟨h1, z, h2.symm⟩
      have H6 : ∀ z : ExtOf wq, Calls Try.prog 26 #[.int .i64 k] z.val fun e W' => e = .returned (.bool re) ∧ ∃ y : ExtOf wq, W' = y.val := fun z => (R6 z.val).mono fun e W' ⟨h1, h2⟩ => ⟨h1, z, h2.symm⟩
      generalize wq = wr at *
      refine region_ext (by kernel_rfl) (by kernel_rfl) ?_
      repeat (go_big_quiet_step (first | (with_reducible exact H3 _) | (with_reducible exact H4 _) | (with_reducible exact H5 _) | (with_reducible exact H6 _)))
      refine wpQuiet_nil ?_
      intro wq hq
      obtain ⟨xq, rfl⟩ := hq
      have hEq := xq.property
      generalize xq.val = wq at *
      clear xq
      clear y2 y3 y4 y5 H3 H4 H5 H6 R3 R4 R5 R6
      replace hbi : Blk _ _ _ _ := (hEq.block _ hbi.lt).trans hbi
      replace hE9 := hE9.trans hEq
      have k6 : wq.cell? ⟨ix, 6, none⟩ = some (.bool (decide (k = 11) || decide (k = 12))) := hbi.cell 6
      clear hbi hEq
      have e11 : ((k : Int) == 11) = decide (k = 11) := by
        by_cases h : k = 11
        · subst h; rfl
        · rw [decide_eq_false h]; simp; omega
      have e12 : ((k : Int) == 12) = decide (k = 12) := by
        by_cases h : k = 12
        · subst h; rfl
        · rw [decide_eq_false h]; simp; omega
      generalize hx1 : decide (k = 11) = x1 at *
      generalize hx2 : decide (k = 12) = x2 at *
      clear hx1 hx2 i33 hk
      generalize (k : Int) = kk at *
      cases x1 with
      | true =>
        obtain rfl : kk = 11 := by simpa using e11
        go_wp2_with fail
        go_returns
        exact ⟨rfl, hE9⟩
      | false =>
        cases x2 with
        | true =>
          obtain rfl : kk = 12 := by simpa using e12
          go_wp2_with fail
          go_returns
          exact ⟨rfl, hE9⟩
        | false =>
          have n1 : ¬ (kk = 11) := by simpa using e11
          have n2 : ¬ (kk = 12) := by simpa using e12
          go_wp2_with fail
          go_returns
          exact ⟨rfl, hE9⟩
end Go.Proofs.Ytkkhcpknldlpoaa

namespace Go.Proofs.Ytkkhcpknldlpoaa.imageOps
open Go.Proofs.Ytkkhcpknldlpoaa
open Go.ChangeShapes Go.WideShapes Go.ChangeAt Go.RowKit Go.Joins Go.Deep
open Go.ChangeMaps (open_string shut_string)
set_option maxRecDepth 4000
set_option linter.unusedVariables false
set_option linter.unusedSimpArgs false

theorem own : ownKnob Try.prog.godebug = none := by kernel_rfl
theorem laidOut : laidOutB Try.prog = true := by kernel_rfl

set_option maxRecDepth 100000 in
theorem lifted (os : Os) (started : os.Started) (H : Type) (enc : TypeId × Value → H) :
    ReturnsInHanded {} Try.checked os 6 .any (Rows.imageOpsSpec.pre6 enc Try.prog Try.f6 Rows.imageOpsRow.domain false) (Rows.imageOpsSpec.post enc Try.prog Try.f6 false true false false) := by
  refine returnsInHanded_of_change (C := Try.checked) own started (by kernel_rfl) Try.func6
    (ChangeSpec.witness6 (enc := enc) (C := Try.checked) false ⟨#[], #[.int .i64 0, .string ⟨#[]⟩], []⟩ 8 (by kernel_rfl) (by kernel_rfl) (by kernel_rfl) (by kernel_rfl)) ?_
  intro W base args ds gs before hval0 hW hcnd _
  have hval : ∀ (j : Nat) t v, Try.f6.params[j]? = some t → args[j]? = some v → Value.okWide Try.prog W .any base t v := hval0
  have hW' := hW
  obtain ⟨p, q, hA0, hV, rfl, hfz, hnd⟩ := hW
  have hA : DataW.TrodAll enc Try.prog W 0 (fun _ => true) true Try.f6.params.toList args.toList ds p := hA0
  rw [Try.params6] at hA hval
  obtain ⟨v0, vs0, d0, ds0, p0, q0, hargs, rfl, rfl, h0, r0⟩ := trodAll_cons hA
  obtain ⟨v1, vs1, d1, ds1, p1, q1, rfl, rfl, rfl, h1, r1⟩ := trodAll_cons r0
  obtain ⟨rfl, rfl, rfl⟩ := trodAll_nil r1
  obtain rfl : args = #[v0, v1] := by cases args; simp_all
  obtain ⟨rfl, rfl⟩ := trodVars_none hV
  have k0 := h0
  have lt0 : ∀ x ∈ p0, x.block < W.heap.size := by obtain ⟨m, hm⟩ := k0; exact DataW.trod_lt m _ _ _ hm
  have k1 := h1
  have lt1 : ∀ x ∈ p1, x.block < W.heap.size := by obtain ⟨m, hm⟩ := k1; exact DataW.trod_lt m _ _ _ hm
  obtain ⟨op, rfl, rfl, rfl, w0⟩ := open_int Try.underlying3 (hval 0 3 v0 rfl rfl) h0
  obtain ⟨s, rfl, rfl, rfl, -⟩ := open_string Try.underlying9 (hval 1 9 v1 rfl rfl) h1
  have hs : s = ⟨s.data.toList.toArray⟩ := by rw [Array.toArray_toList]
  refine (hs ▸ ops_any W op s.data.toList : Calls Try.prog 6 #[.int .i64 op, .string s] W _).mono fun e W' ⟨he, bel⟩ => ?_
  subst he
  exact ⟨_, rfl, _, _, _, [], _, [], hW', trodAll_mk1 (shut_bool Try.underlying4 _), (trodAll_cons_mk (Below.trod laidOut (by kernel_rfl) (of_decide_eq_true (by kernel_rfl)) k0 bel lt0) (trodAll_cons_mk (Below.trod laidOut (by kernel_rfl) (of_decide_eq_true (by kernel_rfl)) k1 bel lt1) trodAll_mk0)), rfl, bel.frame _, fun h => by cases h⟩

theorem over : Rows.imageOpsRow.holds Try.pinned (OpenSpec.ofChange Rows.imageOpsSpec) :=
  OpenClaim.holds_of_wide 6 Try.f6 rfl rfl rfl rfl rfl rfl rfl ⟨rfl, rfl, rfl, rfl, rfl⟩ rfl rfl rfl rfl rfl (by kernel_rfl) Try.func6 (by kernel_rfl)
    (of_decide_eq_true (by kernel_rfl)) (by unfold Func.isWrapper; first | (rw [if_pos (by decide +kernel)]; kernel_rfl) | (rw [if_neg (by decide +kernel)]; exact ⟨rfl, rfl⟩))
    (fun os started H enc _ => lifted os started H enc)

theorem proved : Rows.ImageOpsSaid := over
#print axioms proved
end Go.Proofs.Ytkkhcpknldlpoaa.imageOps
