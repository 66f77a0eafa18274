/- DERIVED LEMMAS, OF NO PROGRAM: a region that draws its order, where any of four comes first; what several ways end in is shown once. | ImageLimits: the walk. | ImageLimits: for every input the law returns true, and each argument reads behind the call as it read before. -/
import Derived.Test.YtkkhcpknldlpoaaQA4
import Derived.WideKeyPair
import Derived.WalkKit
import Derived.ProofKit
import Derived.OpenShut
import Derived.ShutString
import Derived.ChangeOld
import Derived.Below
import Derived.Lib.SmallJoins
import Derived.Deep.Fields
namespace Go.Proofs.Ytkkhcpknldlpoaa
set_option maxRecDepth 4000
set_option linter.unusedVariables false
set_option linter.unusedSimpArgs false
open Go
section
variable {P : Program} {Q : Exit → Act → World → Prop}
def plan4B (ops : Array Oper) (ks : List Nat) (ts : List Bool) (k1 : Nat) (p1 : Plan) (k2 : Nat) (p2 : Plan) (k3 : Nat) (p3 : Plan) (k4 : Nat) (p4 : Plan) : Bool :=
  let l0 := Array.replicate ops.size false
  let l1 := setAll ks l0
  Region.noSelect ops && decide (ks.length + (p1.size + 1) = ops.size) && segB .any ops ks ts l0 && decide (k1 < ops.size) && decide (k2 < ops.size) && decide (k3 < ops.size) && decide (k4 < ops.size) &&
    decide (Region.ready .any ops l1 = [k1, k2, k3, k4]) && decide (p2.size = p1.size) && decide (p3.size = p1.size) && decide (p4.size = p1.size) &&
    planB .any ops p1 (l1.setIfInBounds k1 true) && planB .any ops p2 (l1.setIfInBounds k2 true) && planB .any ops p3 (l1.setIfInBounds k3 true) && planB .any ops p4 (l1.setIfInBounds k4 true)
theorem region_plan4 {id : Nat} {a : Act} {w : World} {l : List Oper} (ks : List Nat) (ts : List Bool) (k1 : Nat) (p1 : Plan) (k2 : Nat) (p2 : Plan) (k3 : Nat) (p3 : Plan) (k4 : Nat) (p4 : Plan) (F : World → Prop)
    (hm : P.follows .mixedOrders = true) (hB : plan4B l.toArray ks ts k1 p1 k2 p2 k3 p3 k4 p4 = true) (hF : F w.drew)
    (h : walkL P l.toArray (fun F a w =>
      walkL P l.toArray (walkP P l.toArray (NoPanic Q) p1) (NoPanic Q) [false] ([k1].filterMap (l[·]?)) F a w ∧
      walkL P l.toArray (walkP P l.toArray (NoPanic Q) p2) (NoPanic Q) [false] ([k2].filterMap (l[·]?)) F a w ∧
      walkL P l.toArray (walkP P l.toArray (NoPanic Q) p3) (NoPanic Q) [false] ([k3].filterMap (l[·]?)) F a w ∧
      walkL P l.toArray (walkP P l.toArray (NoPanic Q) p4) (NoPanic Q) [false] ([k4].filterMap (l[·]?)) F a w) (NoPanic Q) ts (ks.filterMap (l[·]?)) F a w.drew) :
    (Code.region id l.toArray true).wp P Q a w := by
  simp only [plan4B, Bool.and_eq_true, decide_eq_true_eq] at hB
  obtain ⟨⟨⟨⟨⟨⟨⟨⟨⟨⟨⟨⟨⟨⟨hsel, hsz⟩, hseg⟩, hk1⟩, hk2⟩, hk3⟩, hk4⟩, hr⟩, hs2⟩, hs3⟩, hs4⟩, hB1⟩, hB2⟩, hB3⟩, hB4⟩ := hB
  refine wp_region_noPanic (wp_region_any hm (any_of_anyC (C := cls F) _ _ _ _ ?_))
  have hQ : ∀ c a w, ¬ NoPanic Q (.panic c) a w := fun c a w hh => hh
  have h' := anyC_seg (md := .any) (Q := NoPanic Q) hsel hQ (m := p1.size + 1) ks ts F _ a w.drew hF hseg (by simpa using h) fun F a w hC hh => by
    have e1 : l.toArray[k1]? = some l.toArray[k1] := Array.getElem?_eq_getElem hk1
    have e2 : l.toArray[k2]? = some l.toArray[k2] := Array.getElem?_eq_getElem hk2
    have e3 : l.toArray[k3]? = some l.toArray[k3] := Array.getElem?_eq_getElem hk3
    have e4 : l.toArray[k4]? = some l.toArray[k4] := Array.getElem?_eq_getElem hk4
    refine ⟨fun h1 => (by rw [hr] at h1; cases h1), fun i hi => ?_⟩
    rw [hr] at hi
    have hik : i = k1 ∨ i = k2 ∨ i = k3 ∨ i = k4 := by simpa using hi
    obtain ⟨h1, h2, h3, h4⟩ := hh
    rw [List.filterMap_cons_some (b := l.toArray[k1]) (by rw [← e1]; simp)] at h1
    rw [List.filterMap_cons_some (b := l.toArray[k2]) (by rw [← e2]; simp)] at h2
    rw [List.filterMap_cons_some (b := l.toArray[k3]) (by rw [← e3]; simp)] at h3
    rw [List.filterMap_cons_some (b := l.toArray[k4]) (by rw [← e4]; simp)] at h4
    rcases hik with rfl | rfl | rfl | rfl
    · exact wpOp_of_walkL (L := walkP P l.toArray (NoPanic Q) p1) (ts := []) (l := []) e1 hC (fun F' a' w' h5 h6 => anyC_plan hsel hQ p1 F' _ a' w' h5 hB1 h6) h1
    · exact wpOp_of_walkL (L := walkP P l.toArray (NoPanic Q) p2) (ts := []) (l := []) e2 hC (fun F' a' w' h5 h6 => hs2 ▸ anyC_plan hsel hQ p2 F' _ a' w' h5 hB2 h6) h2
    · exact wpOp_of_walkL (L := walkP P l.toArray (NoPanic Q) p3) (ts := []) (l := []) e3 hC (fun F' a' w' h5 h6 => hs3 ▸ anyC_plan hsel hQ p3 F' _ a' w' h5 hB3 h6) h3
    · exact wpOp_of_walkL (L := walkP P l.toArray (NoPanic Q) p4) (ts := []) (l := []) e4 hC (fun F' a' w' h5 h6 => hs4 ▸ anyC_plan hsel hQ p4 F' _ a' w' h5 hB4 h6) h4
  rwa [hsz] at h'
end
/-- what several ways end in is shown once -/
theorem share4 {G : Prop} (Fc P : Nat → Nat → Nat → Nat → World → Prop) (h1 : (∀ a b c d w, Fc a b c d w → P a b c d w) → G) (h2 : ∀ a b c d w, Fc a b c d w → P a b c d w) : G := h1 h2
end Go.Proofs.Ytkkhcpknldlpoaa

namespace Go.Proofs.Ytkkhcpknldlpoaa
set_option maxRecDepth 4000
set_option linter.unusedVariables false
set_option linter.unusedSimpArgs false
open Go Go.RowKit
theorem made_get {z : Array Value} {n j : Nat} (h : j < n) : (madeCells z n)[j]? = some (z[j % z.size]!) := by
  unfold madeCells
  rw [Array.getElem?_map, Array.getElem?_range, if_pos h]
  rfl
theorem made_code (W : World) (b T n : Nat) (hb : Blk W b T (madeCells #[.int .i64 0, .int .i64 0] (n * 2))) : CodeB (fun _ => True) W (some ⟨b, 0, none⟩) (List.replicate n (0, 0)) := by
  intro i hi
  rw [List.length_replicate] at hi
  refine ⟨b, 0, rfl, trivial, ?_, ?_⟩
  · rw [List.getElem_replicate, hb.cell, made_get (by omega), show (0 + 2 * i) % (#[Value.int .i64 0, Value.int .i64 0] : Array Value).size = 0 by show (0 + 2 * i) % 2 = 0; omega]
    rfl
  · rw [List.getElem_replicate, hb.cell, made_get (by omega), show (0 + 2 * i + 1) % (#[Value.int .i64 0, Value.int .i64 0] : Array Value).size = 1 by show (0 + 2 * i + 1) % 2 = 1; omega]
    rfl
theorem made_names (W : World) (b T n : Nat) (hb : Blk W b T (madeCells #[.string ⟨#[]⟩] n)) : NameB (fun _ => True) W (some ⟨b, 0, none⟩) (List.replicate n []) := by
  intro i hi
  rw [List.length_replicate] at hi
  refine ⟨b, 0, rfl, trivial, ?_⟩
  rw [List.getElem_replicate, hb.cell, made_get (by omega), show (0 + i) % (#[Value.string ⟨#[]⟩] : Array Value).size = 0 from Nat.mod_one _]
  rfl
def zvl : Vl := ⟨0, 0, [], .nil⟩
theorem made_fo (W : World) (b T n : Nat) (hb : Blk W b T (madeCells #[.int .i64 0, .int .i64 0, .string ⟨#[]⟩, .slice none 0 0] (n * 4))) :
    ∀ k i, i + k = n → FoB (fun _ => True) W (some ⟨b, 0, none⟩) i (Fo.of (List.replicate k zvl))
  | 0, _, _ => trivial
  | k + 1, i, h => by
    have hz : (#[Value.int .i64 0, Value.int .i64 0, Value.string ⟨#[]⟩, Value.slice none 0 0] : Array Value).size = 4 := rfl
    rw [List.replicate_succ]
    refine ⟨⟨b, 0, none, 0, rfl, trivial, ?_, ?_, ?_, ?_, (fun _ => ⟨rfl, rfl⟩), Nat.le_refl _, Nat.zero_le _, trivial⟩, made_fo W b T n hb k (i + 1) (by omega)⟩
    · rw [hb.cell, made_get (by omega), show (0 + 4 * i) % _ = 0 by rw [hz]; omega]; rfl
    · rw [hb.cell, made_get (by omega), show (0 + 4 * i + 1) % _ = 1 by rw [hz]; omega]; rfl
    · rw [hb.cell, made_get (by omega), show (0 + 4 * i + 2) % _ = 2 by rw [hz]; omega]; rfl
    · rw [hb.cell, made_get (by omega), show (0 + 4 * i + 3) % _ = 3 by rw [hz]; omega]; rfl
def lmIm (c k n : Nat) (pl : Int) : Im := ⟨List.replicate c (0, 0), Fo.of (List.replicate k zvl), List.replicate n [], pl⟩
theorem lm_at (W : World) (b1 b3 b5 T1 T3 T5 c k n : Nat) (pl : Int) (hc : c ≤ 1000) (hk : k ≤ 1000) (hn : n ≤ 1000) (h1 : Blk W b1 T1 (madeCells #[.int .i64 0, .int .i64 0] (c * 2)))
    (h3 : Blk W b3 T3 (madeCells #[.int .i64 0, .int .i64 0, .string ⟨#[]⟩, .slice none 0 0] (k * 4))) (h5 : Blk W b5 T5 (madeCells #[.string ⟨#[]⟩] n)) :
    ImAt W ⟨some ⟨b1, 0, none⟩, c, some ⟨b3, 0, none⟩, k, some ⟨b5, 0, none⟩, n⟩ (lmIm c k n pl) := by
  have hm : 1000 ≤ maxLen := by decide
  refine ⟨made_code W b1 T1 c h1, ⟨(fun h => by cases h), (by simp [lmIm]), (by show c ≤ maxLen; omega)⟩, ⟨(fun h => by cases h), ?_, (by show k ≤ maxLen; omega), made_fo W b3 T3 k h3 k 0 (by omega)⟩, made_names W b5 T5 n h5, ⟨(fun h => by cases h), (by simp [lmIm]), (by show n ≤ maxLen; omega)⟩⟩
  show (Fo.of (List.replicate k zvl)).len ≤ k
  rw [Fo.of_len, List.length_replicate]
  exact Nat.le_refl _
def lmWant (c k n : Nat) (pl : Int) : Int := if c = 0 then 6 else if 512 < c ∨ 64 < k ∨ 32 < n then 2 else if pl < 0 ∨ 16 < pl then 1 else 0
theorem first_rep {α : Type} {f : α → Int} {x : α} (h : f x = 0) (n : Nat) : firstErr f (List.replicate n x) = 0 := firstErr_zero.2 fun y hy => by
  rw [List.eq_of_mem_replicate hy]; exact h
theorem lm_check (c k n : Nat) (pl : Int) : (lmIm c k n pl).check = lmWant c k n pl := by
  have e1 : firstErr Vl.check (lmIm c k n pl).consts.vals = 0 := by
    show firstErr Vl.check (Fo.of _).vals = 0
    rw [Fo.of_vals]
    exact first_rep (by decide +kernel) k
  have e2 : firstErr nameErr (lmIm c k n pl).names = 0 := first_rep (by decide) n
  have e3 : firstErr (lmIm c k n pl).codeErr (lmIm c k n pl).code = 0 := first_rep (by
    show (if ¬ isOp 0 then (110 : Int) else if (0 : Int) < 0 ∨ (lmIm c k n pl).most (opnd 0) ≤ 0 then 1 else 0) = 0
    have h0 : opnd 0 = 0 := by decide +kernel
    rw [h0, if_neg (by simp; decide)]
    rfl) c
  unfold Im.check lmWant
  rw [e1, e2, e3]
  have h1 : (lmIm c k n pl).code.length = c := by simp [lmIm]
  have h2 : (lmIm c k n pl).consts.len = k := by show (Fo.of _).len = k; rw [Fo.of_len, List.length_replicate]
  have h3 : (lmIm c k n pl).names.length = n := by simp [lmIm]
  have h4 : (lmIm c k n pl).places = pl := rfl
  rw [h1, h2, h3, h4]
  simp
theorem lm_ok (c k n : Nat) (pl : Int) (h : i64b pl) : (lmIm c k n pl).ok := by
  refine ⟨fun x hx => ?_, ?_, h⟩
  · rw [List.eq_of_mem_replicate hx]
    exact ⟨by constructor <;> decide, by constructor <;> decide⟩
  · show (Fo.of _).ok
    refine Fo.of_ok fun v hv => ?_
    rw [List.eq_of_mem_replicate hv]
    exact ⟨by constructor <;> decide, by constructor <;> decide, trivial⟩
theorem lm_small (c k n : Nat) (pl : Int) : ∀ v ∈ (lmIm c k n pl).consts.vals, v.bytes.length ≤ 70368744170000 := by
  intro v hv
  have hv' : v ∈ (Fo.of (List.replicate k zvl)).vals := hv
  rw [Fo.of_vals] at hv'
  rw [List.eq_of_mem_replicate hv']
  have := check_bytes (show zvl.check = 0 by decide +kernel)
  omega
theorem make_instr (X : World) (n : Nat) (h : n ≤ 1000) : (Instr.makeSlice 22 (.int .i64 n) (.int .i64 n)).run Try.prog X = .ok (.slice (some ⟨X.heap.size, 0, none⟩) n n) (X.alloc (.cells (madeCells #[.int .i64 0, .int .i64 0] (n * 2)) 52)) := by
  cases hs : Try.prog.info? 52 with
  | none => have := instrInfo; rw [hs] at this; cases this
  | some i =>
    have h2 := instrInfo
    rw [hs] at h2
    simp only [Option.map_some, Option.some.injEq, Prod.mk.injEq] at h2
    have h3 := run_make (P := Try.prog) X 22 52 i _ Try.underlying22 hs h2.1 .i64 .i64 n n (by omega) (Int.le_refl _) (by rw [h2.2.2]; omega) (by omega)
    rw [h2.2.1] at h3
    simp only [Int.toNat_natCast] at h3
    exact h3
theorem make_value (X : World) (n : Nat) (h : n ≤ 1000) : (Instr.makeSlice 23 (.int .i64 n) (.int .i64 n)).run Try.prog X = .ok (.slice (some ⟨X.heap.size, 0, none⟩) n n) (X.alloc (.cells (madeCells #[.int .i64 0, .int .i64 0, .string ⟨#[]⟩, .slice none 0 0] (n * 4)) 62)) := by
  cases hs : Try.prog.info? 62 with
  | none => have := valueInfo; rw [hs] at this; cases this
  | some i =>
    have h2 := valueInfo
    rw [hs] at h2
    simp only [Option.map_some, Option.some.injEq, Prod.mk.injEq] at h2
    have h3 := run_make (P := Try.prog) X 23 62 i _ Try.underlying23 hs h2.1 .i64 .i64 n n (by omega) (Int.le_refl _) (by rw [h2.2.2]; omega) (by omega)
    rw [h2.2.1] at h3
    simp only [Int.toNat_natCast] at h3
    exact h3
theorem make_string (X : World) (n : Nat) (h : n ≤ 1000) : (Instr.makeSlice 24 (.int .i64 n) (.int .i64 n)).run Try.prog X = .ok (.slice (some ⟨X.heap.size, 0, none⟩) n n) (X.alloc (.cells (madeCells #[.string ⟨#[]⟩] n) 9)) := by
  cases hs : Try.prog.info? 9 with
  | none => have := strInfoI; rw [hs] at this; cases this
  | some i =>
    have h2 := strInfoI
    rw [hs] at h2
    simp only [Option.map_some, Option.some.injEq, Prod.mk.injEq] at h2
    have h3 := run_make (P := Try.prog) X 24 9 i _ Try.underlying24 hs h2.1 .i64 .i64 n n (by omega) (Int.le_refl _) (by rw [h2.2.2]; omega) (by omega)
    rw [h2.2.1] at h3
    simp only [Int.toNat_natCast, Nat.mul_one] at h3
    exact h3
set_option maxHeartbeats 4000000 in
theorem limits_any (w : World) (code consts names places : Int) :
    Calls Try.prog 7 #[.int .i64 code, .int .i64 consts, .agg #[.int .i64 names, .int .i64 places]] w fun e w' => e = .returned (.bool true) ∧ Ext w w' := by
  have hbo := Blk.new w 56 #[.int .i64 names, .int .i64 places]
  have hE0 := ext_alloc w (.cells #[.int .i64 names, .int .i64 places] 56)
  go_enter Try.func7, Try.ntmps7
  go_upto_region 1 with fail
  generalize World.alloc _ _ = w0 at *
  generalize w.heap.size = bx at *
  go_wp2_with fail
  refine (loads_any w0).mono ?_
  rintro e w1 ⟨rfl, hE1⟩
  go_upto_region 3 with fail
  replace hbo : Blk _ _ _ _ := (hE1.block _ hbo.lt).trans hbo
  have y0 : ∀ z : ExtOf w1, z.val.cell? ⟨bx, 0, none⟩ = some (.int .i64 names) := fun z => (z.property.cell _ _ hbo.lt).trans (hbo.cell 0)
  have y1 : ∀ z : ExtOf w1, z.val.cell? ⟨bx, 1, none⟩ = some (.int .i64 places) := fun z => (z.property.cell _ _ hbo.lt).trans (hbo.cell 1)
  refine region_ext (by kernel_rfl) (by kernel_rfl) ?_
  repeat (go_big_quiet_step (fail))
  refine wpQuiet_nil ?_
  intro wq hq
  obtain ⟨xq, rfl⟩ := hq
  have hEq := xq.property
  generalize xq.val = wq at *
  clear xq
  clear y0 y1 hbo
  have hE3 := (hE0.trans hE1).trans hEq
  clear hE0 hE1 hEq
  by_cases hr : code < 0 ∨ 520 < code ∨ consts < 0 ∨ 70 < consts ∨ names < 0 ∨ 40 < names ∨ places < -5 ∨ 30 < places
  · go_upto_region 5 with fail
    all_goals first
      | (go_wp2_with fail
         go_returns
         exact ⟨rfl, hE3⟩)
      | (exfalso; omega)
  obtain ⟨c, rfl⟩ := Int.eq_ofNat_of_zero_le (show 0 ≤ code by omega)
  obtain ⟨k, rfl⟩ := Int.eq_ofNat_of_zero_le (show 0 ≤ consts by omega)
  obtain ⟨n, rfl⟩ := Int.eq_ofNat_of_zero_le (show 0 ≤ names by omega)
  have i1 : ¬ (520 : Int) < c := by omega
  have i2 : ¬ (70 : Int) < k := by omega
  have i3 : ¬ (40 : Int) < n := by omega
  have i4 : ¬ places < -5 := by omega
  have i5 : ¬ (30 : Int) < places := by omega
  go_upto_region 6 with fail
  have mk1 := fun X : World => make_instr X c (by omega)
  have mk3 := fun X : World => make_value X k (by omega)
  have mk5 := fun X : World => make_string X n (by omega)
  have hE4 : Ext w wq.drew := hE3.drew
  obtain ⟨w0, hw0⟩ : ∃ X, wq.drew = X := ⟨_, rfl⟩
  rw [hw0] at hE4
  have H0 : Has w w0 [] := Has.nil hE4
  clear hE3 hE4
  have hne_ : Nonempty (Of (fun _ : World => True)) := trueOf_ne (W := wq)
  apply share4 (fun b1 b3 b5 b8 X => Has w X [blkA b8 26 #[.slice none 0 0, .slice none 0 0, .slice none 0 0, .int .i64 0], blkA b1 52 (madeCells #[.int .i64 0, .int .i64 0] (c * 2)),
    blkA b3 62 (madeCells #[.int .i64 0, .int .i64 0, .string ⟨#[]⟩, .slice none 0 0] (k * 4)), blkA b5 9 (madeCells #[.string ⟨#[]⟩] n)])
  · intro HT
    -- {
    refine region_plan4 [0, 2, 4, 6] [true, true, true, true] 1 (.fork3 3 (.fork 5 (.seg [7, 8] [true, false] (.seg [9] [false] .done)) 8 (.seg [5, 7] [false, true] (.seg [9] [false] .done))) 5 (.fork 3 (.seg [7, 8] [true, false] (.seg [9] [false] .done)) 8 (.seg [3, 7] [false, true] (.seg [9] [false] .done))) 8 (.fork 3 (.seg [5, 7] [false, true] (.seg [9] [false] .done)) 5 (.seg [3, 7] [false, true] (.seg [9] [false] .done)))) 3 (.fork3 1 (.fork 5 (.seg [7, 8] [true, false] (.seg [9] [false] .done)) 8 (.seg [5, 7] [false, true] (.seg [9] [false] .done))) 5 (.fork 1 (.seg [7, 8] [true, false] (.seg [9] [false] .done)) 8 (.seg [1, 7] [false, true] (.seg [9] [false] .done))) 8 (.fork 1 (.seg [5, 7] [false, true] (.seg [9] [false] .done)) 5 (.seg [1, 7] [false, true] (.seg [9] [false] .done)))) 5 (.fork3 1 (.fork 3 (.seg [7, 8] [true, false] (.seg [9] [false] .done)) 8 (.seg [3, 7] [false, true] (.seg [9] [false] .done))) 3 (.fork 1 (.seg [7, 8] [true, false] (.seg [9] [false] .done)) 8 (.seg [1, 7] [false, true] (.seg [9] [false] .done))) 8 (.fork 1 (.seg [3, 7] [false, true] (.seg [9] [false] .done)) 3 (.seg [1, 7] [false, true] (.seg [9] [false] .done)))) 8 (.fork3 1 (.fork 3 (.seg [5, 7] [false, true] (.seg [9] [false] .done)) 5 (.seg [3, 7] [false, true] (.seg [9] [false] .done))) 3 (.fork 1 (.seg [5, 7] [false, true] (.seg [9] [false] .done)) 5 (.seg [1, 7] [false, true] (.seg [9] [false] .done))) 5 (.fork 1 (.seg [3, 7] [false, true] (.seg [9] [false] .done)) 3 (.seg [1, 7] [false, true] (.seg [9] [false] .done)))) (fun _ : World => True) (by kernel_rfl) (by kernel_rfl) trivial ?_
    simp only [List.filterMap_cons, List.filterMap_nil, List.getElem?_cons_zero, List.getElem?_cons_succ]
    rw [hw0]
    refine steps_quiet 4 (by kernel_rfl) ?_
    simp only [List.take_succ_cons, List.take_zero, List.drop_succ_cons, List.drop_zero]
    repeat (go_big_quiet_step (fail))
    refine wpQuiet_nil ?_
    refine steps_end ⟨?_, ?_, ?_, ?_⟩
    · refine steps_want rfl (fun K hK => ?_)
      go_simp
      have H1 := (H0).new (by repeat (first | exact .nil | refine .cons (blkA_loc _ _ _) ?_)) 52 (madeCells #[.int .i64 0, .int .i64 0] (c * 2))
      try simp only [imzV] at H1
      generalize World.alloc w0 _ = v1 at *
      generalize Array.size (World.heap w0) = b1 at *
      refine hK _ _ (fun _ => True) trivial (fun _ _ => trivial) ?_
      clear hK K
      try simp only [Act.put, List.setIfInBounds_toArray, List.set_cons_succ, List.set_cons_zero]
      refine steps_end ?_
      refine walkP_fork3 ?_ ?_ ?_
      all_goals simp only [List.filterMap_cons, List.filterMap_nil, List.getElem?_cons_zero, List.getElem?_cons_succ]
      · refine steps_want rfl (fun K hK => ?_)
        go_simp
        have H13 := (H1).new (by repeat (first | exact .nil | refine .cons (blkA_loc _ _ _) ?_)) 62 (madeCells #[.int .i64 0, .int .i64 0, .string ⟨#[]⟩, .slice none 0 0] (k * 4))
        try simp only [imzV] at H13
        generalize World.alloc v1 _ = v13 at *
        generalize Array.size (World.heap v1) = b3 at *
        refine hK _ _ (fun _ => True) trivial (fun _ _ => trivial) ?_
        clear hK K
        try simp only [Act.put, List.setIfInBounds_toArray, List.set_cons_succ, List.set_cons_zero]
        refine steps_end ?_
        refine walkP_fork ?_ ?_
        all_goals simp only [List.filterMap_cons, List.filterMap_nil, List.getElem?_cons_zero, List.getElem?_cons_succ]
        · refine steps_want rfl (fun K hK => ?_)
          go_simp
          have H135 := (H13).new (by repeat (first | exact .nil | refine .cons (blkA_loc _ _ _) ?_)) 9 (madeCells #[.string ⟨#[]⟩] n)
          try simp only [imzV] at H135
          generalize World.alloc v13 _ = v135 at *
          generalize Array.size (World.heap v13) = b5 at *
          refine hK _ _ (fun _ => True) trivial (fun _ _ => trivial) ?_
          clear hK K
          try simp only [Act.put, List.setIfInBounds_toArray, List.set_cons_succ, List.set_cons_zero]
          refine steps_end ?_
          refine walkP_seg ?_
          simp only [List.filterMap_cons, List.filterMap_nil, List.getElem?_cons_zero, List.getElem?_cons_succ]
          refine steps_quiet 1 (by kernel_rfl) ?_
          simp only [List.take_succ_cons, List.take_zero, List.drop_succ_cons, List.drop_zero]
          repeat (go_big_quiet_step (fail))
          refine wpQuiet_nil ?_
          refine steps_want rfl (fun K hK => ?_)
          go_simp
          have H1358 := (H135).new (by repeat (first | exact .nil | refine .cons (blkA_loc _ _ _) ?_)) 26 imzV.toArray
          try simp only [imzV] at H1358
          generalize World.alloc v135 _ = v1358 at *
          generalize Array.size (World.heap v135) = b8 at *
          refine hK _ _ (fun _ => True) trivial (fun _ _ => trivial) ?_
          clear hK K
          try simp only [Act.put, List.setIfInBounds_toArray, List.set_cons_succ, List.set_cons_zero]
          refine steps_end ?_
          exact HT b1 b3 b5 b8 v1358 (Has.pick (l := [_, _, _, _]) (ps := []) H1358 [0, 3, 2, 1] rfl)
        · refine steps_want rfl (fun K hK => ?_)
          go_simp
          have H138 := (H13).new (by repeat (first | exact .nil | refine .cons (blkA_loc _ _ _) ?_)) 26 imzV.toArray
          try simp only [imzV] at H138
          generalize World.alloc v13 _ = v138 at *
          generalize Array.size (World.heap v13) = b8 at *
          refine hK _ _ (fun _ => True) trivial (fun _ _ => trivial) ?_
          clear hK K
          try simp only [Act.put, List.setIfInBounds_toArray, List.set_cons_succ, List.set_cons_zero]
          refine steps_end ?_
          refine walkP_seg ?_
          simp only [List.filterMap_cons, List.filterMap_nil, List.getElem?_cons_zero, List.getElem?_cons_succ]
          refine steps_want rfl (fun K hK => ?_)
          go_simp
          have H1385 := (H138).new (by repeat (first | exact .nil | refine .cons (blkA_loc _ _ _) ?_)) 9 (madeCells #[.string ⟨#[]⟩] n)
          try simp only [imzV] at H1385
          generalize World.alloc v138 _ = v1385 at *
          generalize Array.size (World.heap v138) = b5 at *
          refine hK _ _ (fun _ => True) trivial (fun _ _ => trivial) ?_
          clear hK K
          try simp only [Act.put, List.setIfInBounds_toArray, List.set_cons_succ, List.set_cons_zero]
          refine steps_quiet 1 (by kernel_rfl) ?_
          simp only [List.take_succ_cons, List.take_zero, List.drop_succ_cons, List.drop_zero]
          repeat (go_big_quiet_step (fail))
          refine wpQuiet_nil ?_
          refine steps_end ?_
          exact HT b1 b3 b5 b8 v1385 (Has.pick (l := [_, _, _, _]) (ps := []) H1385 [1, 3, 2, 0] rfl)
      · refine steps_want rfl (fun K hK => ?_)
        go_simp
        have H15 := (H1).new (by repeat (first | exact .nil | refine .cons (blkA_loc _ _ _) ?_)) 9 (madeCells #[.string ⟨#[]⟩] n)
        try simp only [imzV] at H15
        generalize World.alloc v1 _ = v15 at *
        generalize Array.size (World.heap v1) = b5 at *
        refine hK _ _ (fun _ => True) trivial (fun _ _ => trivial) ?_
        clear hK K
        try simp only [Act.put, List.setIfInBounds_toArray, List.set_cons_succ, List.set_cons_zero]
        refine steps_end ?_
        refine walkP_fork ?_ ?_
        all_goals simp only [List.filterMap_cons, List.filterMap_nil, List.getElem?_cons_zero, List.getElem?_cons_succ]
        · refine steps_want rfl (fun K hK => ?_)
          go_simp
          have H153 := (H15).new (by repeat (first | exact .nil | refine .cons (blkA_loc _ _ _) ?_)) 62 (madeCells #[.int .i64 0, .int .i64 0, .string ⟨#[]⟩, .slice none 0 0] (k * 4))
          try simp only [imzV] at H153
          generalize World.alloc v15 _ = v153 at *
          generalize Array.size (World.heap v15) = b3 at *
          refine hK _ _ (fun _ => True) trivial (fun _ _ => trivial) ?_
          clear hK K
          try simp only [Act.put, List.setIfInBounds_toArray, List.set_cons_succ, List.set_cons_zero]
          refine steps_end ?_
          refine walkP_seg ?_
          simp only [List.filterMap_cons, List.filterMap_nil, List.getElem?_cons_zero, List.getElem?_cons_succ]
          refine steps_quiet 1 (by kernel_rfl) ?_
          simp only [List.take_succ_cons, List.take_zero, List.drop_succ_cons, List.drop_zero]
          repeat (go_big_quiet_step (fail))
          refine wpQuiet_nil ?_
          refine steps_want rfl (fun K hK => ?_)
          go_simp
          have H1538 := (H153).new (by repeat (first | exact .nil | refine .cons (blkA_loc _ _ _) ?_)) 26 imzV.toArray
          try simp only [imzV] at H1538
          generalize World.alloc v153 _ = v1538 at *
          generalize Array.size (World.heap v153) = b8 at *
          refine hK _ _ (fun _ => True) trivial (fun _ _ => trivial) ?_
          clear hK K
          try simp only [Act.put, List.setIfInBounds_toArray, List.set_cons_succ, List.set_cons_zero]
          refine steps_end ?_
          exact HT b1 b3 b5 b8 v1538 (Has.pick (l := [_, _, _, _]) (ps := []) H1538 [0, 3, 1, 2] rfl)
        · refine steps_want rfl (fun K hK => ?_)
          go_simp
          have H158 := (H15).new (by repeat (first | exact .nil | refine .cons (blkA_loc _ _ _) ?_)) 26 imzV.toArray
          try simp only [imzV] at H158
          generalize World.alloc v15 _ = v158 at *
          generalize Array.size (World.heap v15) = b8 at *
          refine hK _ _ (fun _ => True) trivial (fun _ _ => trivial) ?_
          clear hK K
          try simp only [Act.put, List.setIfInBounds_toArray, List.set_cons_succ, List.set_cons_zero]
          refine steps_end ?_
          refine walkP_seg ?_
          simp only [List.filterMap_cons, List.filterMap_nil, List.getElem?_cons_zero, List.getElem?_cons_succ]
          refine steps_want rfl (fun K hK => ?_)
          go_simp
          have H1583 := (H158).new (by repeat (first | exact .nil | refine .cons (blkA_loc _ _ _) ?_)) 62 (madeCells #[.int .i64 0, .int .i64 0, .string ⟨#[]⟩, .slice none 0 0] (k * 4))
          try simp only [imzV] at H1583
          generalize World.alloc v158 _ = v1583 at *
          generalize Array.size (World.heap v158) = b3 at *
          refine hK _ _ (fun _ => True) trivial (fun _ _ => trivial) ?_
          clear hK K
          try simp only [Act.put, List.setIfInBounds_toArray, List.set_cons_succ, List.set_cons_zero]
          refine steps_quiet 1 (by kernel_rfl) ?_
          simp only [List.take_succ_cons, List.take_zero, List.drop_succ_cons, List.drop_zero]
          repeat (go_big_quiet_step (fail))
          refine wpQuiet_nil ?_
          refine steps_end ?_
          exact HT b1 b3 b5 b8 v1583 (Has.pick (l := [_, _, _, _]) (ps := []) H1583 [1, 3, 0, 2] rfl)
      · refine steps_want rfl (fun K hK => ?_)
        go_simp
        have H18 := (H1).new (by repeat (first | exact .nil | refine .cons (blkA_loc _ _ _) ?_)) 26 imzV.toArray
        try simp only [imzV] at H18
        generalize World.alloc v1 _ = v18 at *
        generalize Array.size (World.heap v1) = b8 at *
        refine hK _ _ (fun _ => True) trivial (fun _ _ => trivial) ?_
        clear hK K
        try simp only [Act.put, List.setIfInBounds_toArray, List.set_cons_succ, List.set_cons_zero]
        refine steps_end ?_
        refine walkP_fork ?_ ?_
        all_goals simp only [List.filterMap_cons, List.filterMap_nil, List.getElem?_cons_zero, List.getElem?_cons_succ]
        · refine steps_want rfl (fun K hK => ?_)
          go_simp
          have H183 := (H18).new (by repeat (first | exact .nil | refine .cons (blkA_loc _ _ _) ?_)) 62 (madeCells #[.int .i64 0, .int .i64 0, .string ⟨#[]⟩, .slice none 0 0] (k * 4))
          try simp only [imzV] at H183
          generalize World.alloc v18 _ = v183 at *
          generalize Array.size (World.heap v18) = b3 at *
          refine hK _ _ (fun _ => True) trivial (fun _ _ => trivial) ?_
          clear hK K
          try simp only [Act.put, List.setIfInBounds_toArray, List.set_cons_succ, List.set_cons_zero]
          refine steps_end ?_
          refine walkP_seg ?_
          simp only [List.filterMap_cons, List.filterMap_nil, List.getElem?_cons_zero, List.getElem?_cons_succ]
          refine steps_want rfl (fun K hK => ?_)
          go_simp
          have H1835 := (H183).new (by repeat (first | exact .nil | refine .cons (blkA_loc _ _ _) ?_)) 9 (madeCells #[.string ⟨#[]⟩] n)
          try simp only [imzV] at H1835
          generalize World.alloc v183 _ = v1835 at *
          generalize Array.size (World.heap v183) = b5 at *
          refine hK _ _ (fun _ => True) trivial (fun _ _ => trivial) ?_
          clear hK K
          try simp only [Act.put, List.setIfInBounds_toArray, List.set_cons_succ, List.set_cons_zero]
          refine steps_quiet 1 (by kernel_rfl) ?_
          simp only [List.take_succ_cons, List.take_zero, List.drop_succ_cons, List.drop_zero]
          repeat (go_big_quiet_step (fail))
          refine wpQuiet_nil ?_
          refine steps_end ?_
          exact HT b1 b3 b5 b8 v1835 (Has.pick (l := [_, _, _, _]) (ps := []) H1835 [2, 3, 1, 0] rfl)
        · refine steps_want rfl (fun K hK => ?_)
          go_simp
          have H185 := (H18).new (by repeat (first | exact .nil | refine .cons (blkA_loc _ _ _) ?_)) 9 (madeCells #[.string ⟨#[]⟩] n)
          try simp only [imzV] at H185
          generalize World.alloc v18 _ = v185 at *
          generalize Array.size (World.heap v18) = b5 at *
          refine hK _ _ (fun _ => True) trivial (fun _ _ => trivial) ?_
          clear hK K
          try simp only [Act.put, List.setIfInBounds_toArray, List.set_cons_succ, List.set_cons_zero]
          refine steps_end ?_
          refine walkP_seg ?_
          simp only [List.filterMap_cons, List.filterMap_nil, List.getElem?_cons_zero, List.getElem?_cons_succ]
          refine steps_want rfl (fun K hK => ?_)
          go_simp
          have H1853 := (H185).new (by repeat (first | exact .nil | refine .cons (blkA_loc _ _ _) ?_)) 62 (madeCells #[.int .i64 0, .int .i64 0, .string ⟨#[]⟩, .slice none 0 0] (k * 4))
          try simp only [imzV] at H1853
          generalize World.alloc v185 _ = v1853 at *
          generalize Array.size (World.heap v185) = b3 at *
          refine hK _ _ (fun _ => True) trivial (fun _ _ => trivial) ?_
          clear hK K
          try simp only [Act.put, List.setIfInBounds_toArray, List.set_cons_succ, List.set_cons_zero]
          refine steps_quiet 1 (by kernel_rfl) ?_
          simp only [List.take_succ_cons, List.take_zero, List.drop_succ_cons, List.drop_zero]
          repeat (go_big_quiet_step (fail))
          refine wpQuiet_nil ?_
          refine steps_end ?_
          exact HT b1 b3 b5 b8 v1853 (Has.pick (l := [_, _, _, _]) (ps := []) H1853 [2, 3, 0, 1] rfl)
    · refine steps_want rfl (fun K hK => ?_)
      go_simp
      have H3 := (H0).new (by repeat (first | exact .nil | refine .cons (blkA_loc _ _ _) ?_)) 62 (madeCells #[.int .i64 0, .int .i64 0, .string ⟨#[]⟩, .slice none 0 0] (k * 4))
      try simp only [imzV] at H3
      generalize World.alloc w0 _ = v3 at *
      generalize Array.size (World.heap w0) = b3 at *
      refine hK _ _ (fun _ => True) trivial (fun _ _ => trivial) ?_
      clear hK K
      try simp only [Act.put, List.setIfInBounds_toArray, List.set_cons_succ, List.set_cons_zero]
      refine steps_end ?_
      refine walkP_fork3 ?_ ?_ ?_
      all_goals simp only [List.filterMap_cons, List.filterMap_nil, List.getElem?_cons_zero, List.getElem?_cons_succ]
      · refine steps_want rfl (fun K hK => ?_)
        go_simp
        have H31 := (H3).new (by repeat (first | exact .nil | refine .cons (blkA_loc _ _ _) ?_)) 52 (madeCells #[.int .i64 0, .int .i64 0] (c * 2))
        try simp only [imzV] at H31
        generalize World.alloc v3 _ = v31 at *
        generalize Array.size (World.heap v3) = b1 at *
        refine hK _ _ (fun _ => True) trivial (fun _ _ => trivial) ?_
        clear hK K
        try simp only [Act.put, List.setIfInBounds_toArray, List.set_cons_succ, List.set_cons_zero]
        refine steps_end ?_
        refine walkP_fork ?_ ?_
        all_goals simp only [List.filterMap_cons, List.filterMap_nil, List.getElem?_cons_zero, List.getElem?_cons_succ]
        · refine steps_want rfl (fun K hK => ?_)
          go_simp
          have H315 := (H31).new (by repeat (first | exact .nil | refine .cons (blkA_loc _ _ _) ?_)) 9 (madeCells #[.string ⟨#[]⟩] n)
          try simp only [imzV] at H315
          generalize World.alloc v31 _ = v315 at *
          generalize Array.size (World.heap v31) = b5 at *
          refine hK _ _ (fun _ => True) trivial (fun _ _ => trivial) ?_
          clear hK K
          try simp only [Act.put, List.setIfInBounds_toArray, List.set_cons_succ, List.set_cons_zero]
          refine steps_end ?_
          refine walkP_seg ?_
          simp only [List.filterMap_cons, List.filterMap_nil, List.getElem?_cons_zero, List.getElem?_cons_succ]
          refine steps_quiet 1 (by kernel_rfl) ?_
          simp only [List.take_succ_cons, List.take_zero, List.drop_succ_cons, List.drop_zero]
          repeat (go_big_quiet_step (fail))
          refine wpQuiet_nil ?_
          refine steps_want rfl (fun K hK => ?_)
          go_simp
          have H3158 := (H315).new (by repeat (first | exact .nil | refine .cons (blkA_loc _ _ _) ?_)) 26 imzV.toArray
          try simp only [imzV] at H3158
          generalize World.alloc v315 _ = v3158 at *
          generalize Array.size (World.heap v315) = b8 at *
          refine hK _ _ (fun _ => True) trivial (fun _ _ => trivial) ?_
          clear hK K
          try simp only [Act.put, List.setIfInBounds_toArray, List.set_cons_succ, List.set_cons_zero]
          refine steps_end ?_
          exact HT b1 b3 b5 b8 v3158 (Has.pick (l := [_, _, _, _]) (ps := []) H3158 [0, 2, 3, 1] rfl)
        · refine steps_want rfl (fun K hK => ?_)
          go_simp
          have H318 := (H31).new (by repeat (first | exact .nil | refine .cons (blkA_loc _ _ _) ?_)) 26 imzV.toArray
          try simp only [imzV] at H318
          generalize World.alloc v31 _ = v318 at *
          generalize Array.size (World.heap v31) = b8 at *
          refine hK _ _ (fun _ => True) trivial (fun _ _ => trivial) ?_
          clear hK K
          try simp only [Act.put, List.setIfInBounds_toArray, List.set_cons_succ, List.set_cons_zero]
          refine steps_end ?_
          refine walkP_seg ?_
          simp only [List.filterMap_cons, List.filterMap_nil, List.getElem?_cons_zero, List.getElem?_cons_succ]
          refine steps_want rfl (fun K hK => ?_)
          go_simp
          have H3185 := (H318).new (by repeat (first | exact .nil | refine .cons (blkA_loc _ _ _) ?_)) 9 (madeCells #[.string ⟨#[]⟩] n)
          try simp only [imzV] at H3185
          generalize World.alloc v318 _ = v3185 at *
          generalize Array.size (World.heap v318) = b5 at *
          refine hK _ _ (fun _ => True) trivial (fun _ _ => trivial) ?_
          clear hK K
          try simp only [Act.put, List.setIfInBounds_toArray, List.set_cons_succ, List.set_cons_zero]
          refine steps_quiet 1 (by kernel_rfl) ?_
          simp only [List.take_succ_cons, List.take_zero, List.drop_succ_cons, List.drop_zero]
          repeat (go_big_quiet_step (fail))
          refine wpQuiet_nil ?_
          refine steps_end ?_
          exact HT b1 b3 b5 b8 v3185 (Has.pick (l := [_, _, _, _]) (ps := []) H3185 [1, 2, 3, 0] rfl)
      · refine steps_want rfl (fun K hK => ?_)
        go_simp
        have H35 := (H3).new (by repeat (first | exact .nil | refine .cons (blkA_loc _ _ _) ?_)) 9 (madeCells #[.string ⟨#[]⟩] n)
        try simp only [imzV] at H35
        generalize World.alloc v3 _ = v35 at *
        generalize Array.size (World.heap v3) = b5 at *
        refine hK _ _ (fun _ => True) trivial (fun _ _ => trivial) ?_
        clear hK K
        try simp only [Act.put, List.setIfInBounds_toArray, List.set_cons_succ, List.set_cons_zero]
        refine steps_end ?_
        refine walkP_fork ?_ ?_
        all_goals simp only [List.filterMap_cons, List.filterMap_nil, List.getElem?_cons_zero, List.getElem?_cons_succ]
        · refine steps_want rfl (fun K hK => ?_)
          go_simp
          have H351 := (H35).new (by repeat (first | exact .nil | refine .cons (blkA_loc _ _ _) ?_)) 52 (madeCells #[.int .i64 0, .int .i64 0] (c * 2))
          try simp only [imzV] at H351
          generalize World.alloc v35 _ = v351 at *
          generalize Array.size (World.heap v35) = b1 at *
          refine hK _ _ (fun _ => True) trivial (fun _ _ => trivial) ?_
          clear hK K
          try simp only [Act.put, List.setIfInBounds_toArray, List.set_cons_succ, List.set_cons_zero]
          refine steps_end ?_
          refine walkP_seg ?_
          simp only [List.filterMap_cons, List.filterMap_nil, List.getElem?_cons_zero, List.getElem?_cons_succ]
          refine steps_quiet 1 (by kernel_rfl) ?_
          simp only [List.take_succ_cons, List.take_zero, List.drop_succ_cons, List.drop_zero]
          repeat (go_big_quiet_step (fail))
          refine wpQuiet_nil ?_
          refine steps_want rfl (fun K hK => ?_)
          go_simp
          have H3518 := (H351).new (by repeat (first | exact .nil | refine .cons (blkA_loc _ _ _) ?_)) 26 imzV.toArray
          try simp only [imzV] at H3518
          generalize World.alloc v351 _ = v3518 at *
          generalize Array.size (World.heap v351) = b8 at *
          refine hK _ _ (fun _ => True) trivial (fun _ _ => trivial) ?_
          clear hK K
          try simp only [Act.put, List.setIfInBounds_toArray, List.set_cons_succ, List.set_cons_zero]
          refine steps_end ?_
          exact HT b1 b3 b5 b8 v3518 (Has.pick (l := [_, _, _, _]) (ps := []) H3518 [0, 1, 3, 2] rfl)
        · refine steps_want rfl (fun K hK => ?_)
          go_simp
          have H358 := (H35).new (by repeat (first | exact .nil | refine .cons (blkA_loc _ _ _) ?_)) 26 imzV.toArray
          try simp only [imzV] at H358
          generalize World.alloc v35 _ = v358 at *
          generalize Array.size (World.heap v35) = b8 at *
          refine hK _ _ (fun _ => True) trivial (fun _ _ => trivial) ?_
          clear hK K
          try simp only [Act.put, List.setIfInBounds_toArray, List.set_cons_succ, List.set_cons_zero]
          refine steps_end ?_
          refine walkP_seg ?_
          simp only [List.filterMap_cons, List.filterMap_nil, List.getElem?_cons_zero, List.getElem?_cons_succ]
          refine steps_want rfl (fun K hK => ?_)
          go_simp
          have H3581 := (H358).new (by repeat (first | exact .nil | refine .cons (blkA_loc _ _ _) ?_)) 52 (madeCells #[.int .i64 0, .int .i64 0] (c * 2))
          try simp only [imzV] at H3581
          generalize World.alloc v358 _ = v3581 at *
          generalize Array.size (World.heap v358) = b1 at *
          refine hK _ _ (fun _ => True) trivial (fun _ _ => trivial) ?_
          clear hK K
          try simp only [Act.put, List.setIfInBounds_toArray, List.set_cons_succ, List.set_cons_zero]
          refine steps_quiet 1 (by kernel_rfl) ?_
          simp only [List.take_succ_cons, List.take_zero, List.drop_succ_cons, List.drop_zero]
          repeat (go_big_quiet_step (fail))
          refine wpQuiet_nil ?_
          refine steps_end ?_
          exact HT b1 b3 b5 b8 v3581 (Has.pick (l := [_, _, _, _]) (ps := []) H3581 [1, 0, 3, 2] rfl)
      · refine steps_want rfl (fun K hK => ?_)
        go_simp
        have H38 := (H3).new (by repeat (first | exact .nil | refine .cons (blkA_loc _ _ _) ?_)) 26 imzV.toArray
        try simp only [imzV] at H38
        generalize World.alloc v3 _ = v38 at *
        generalize Array.size (World.heap v3) = b8 at *
        refine hK _ _ (fun _ => True) trivial (fun _ _ => trivial) ?_
        clear hK K
        try simp only [Act.put, List.setIfInBounds_toArray, List.set_cons_succ, List.set_cons_zero]
        refine steps_end ?_
        refine walkP_fork ?_ ?_
        all_goals simp only [List.filterMap_cons, List.filterMap_nil, List.getElem?_cons_zero, List.getElem?_cons_succ]
        · refine steps_want rfl (fun K hK => ?_)
          go_simp
          have H381 := (H38).new (by repeat (first | exact .nil | refine .cons (blkA_loc _ _ _) ?_)) 52 (madeCells #[.int .i64 0, .int .i64 0] (c * 2))
          try simp only [imzV] at H381
          generalize World.alloc v38 _ = v381 at *
          generalize Array.size (World.heap v38) = b1 at *
          refine hK _ _ (fun _ => True) trivial (fun _ _ => trivial) ?_
          clear hK K
          try simp only [Act.put, List.setIfInBounds_toArray, List.set_cons_succ, List.set_cons_zero]
          refine steps_end ?_
          refine walkP_seg ?_
          simp only [List.filterMap_cons, List.filterMap_nil, List.getElem?_cons_zero, List.getElem?_cons_succ]
          refine steps_want rfl (fun K hK => ?_)
          go_simp
          have H3815 := (H381).new (by repeat (first | exact .nil | refine .cons (blkA_loc _ _ _) ?_)) 9 (madeCells #[.string ⟨#[]⟩] n)
          try simp only [imzV] at H3815
          generalize World.alloc v381 _ = v3815 at *
          generalize Array.size (World.heap v381) = b5 at *
          refine hK _ _ (fun _ => True) trivial (fun _ _ => trivial) ?_
          clear hK K
          try simp only [Act.put, List.setIfInBounds_toArray, List.set_cons_succ, List.set_cons_zero]
          refine steps_quiet 1 (by kernel_rfl) ?_
          simp only [List.take_succ_cons, List.take_zero, List.drop_succ_cons, List.drop_zero]
          repeat (go_big_quiet_step (fail))
          refine wpQuiet_nil ?_
          refine steps_end ?_
          exact HT b1 b3 b5 b8 v3815 (Has.pick (l := [_, _, _, _]) (ps := []) H3815 [2, 1, 3, 0] rfl)
        · refine steps_want rfl (fun K hK => ?_)
          go_simp
          have H385 := (H38).new (by repeat (first | exact .nil | refine .cons (blkA_loc _ _ _) ?_)) 9 (madeCells #[.string ⟨#[]⟩] n)
          try simp only [imzV] at H385
          generalize World.alloc v38 _ = v385 at *
          generalize Array.size (World.heap v38) = b5 at *
          refine hK _ _ (fun _ => True) trivial (fun _ _ => trivial) ?_
          clear hK K
          try simp only [Act.put, List.setIfInBounds_toArray, List.set_cons_succ, List.set_cons_zero]
          refine steps_end ?_
          refine walkP_seg ?_
          simp only [List.filterMap_cons, List.filterMap_nil, List.getElem?_cons_zero, List.getElem?_cons_succ]
          refine steps_want rfl (fun K hK => ?_)
          go_simp
          have H3851 := (H385).new (by repeat (first | exact .nil | refine .cons (blkA_loc _ _ _) ?_)) 52 (madeCells #[.int .i64 0, .int .i64 0] (c * 2))
          try simp only [imzV] at H3851
          generalize World.alloc v385 _ = v3851 at *
          generalize Array.size (World.heap v385) = b1 at *
          refine hK _ _ (fun _ => True) trivial (fun _ _ => trivial) ?_
          clear hK K
          try simp only [Act.put, List.setIfInBounds_toArray, List.set_cons_succ, List.set_cons_zero]
          refine steps_quiet 1 (by kernel_rfl) ?_
          simp only [List.take_succ_cons, List.take_zero, List.drop_succ_cons, List.drop_zero]
          repeat (go_big_quiet_step (fail))
          refine wpQuiet_nil ?_
          refine steps_end ?_
          exact HT b1 b3 b5 b8 v3851 (Has.pick (l := [_, _, _, _]) (ps := []) H3851 [2, 0, 3, 1] rfl)
    · refine steps_want rfl (fun K hK => ?_)
      go_simp
      have H5 := (H0).new (by repeat (first | exact .nil | refine .cons (blkA_loc _ _ _) ?_)) 9 (madeCells #[.string ⟨#[]⟩] n)
      try simp only [imzV] at H5
      generalize World.alloc w0 _ = v5 at *
      generalize Array.size (World.heap w0) = b5 at *
      refine hK _ _ (fun _ => True) trivial (fun _ _ => trivial) ?_
      clear hK K
      try simp only [Act.put, List.setIfInBounds_toArray, List.set_cons_succ, List.set_cons_zero]
      refine steps_end ?_
      refine walkP_fork3 ?_ ?_ ?_
      all_goals simp only [List.filterMap_cons, List.filterMap_nil, List.getElem?_cons_zero, List.getElem?_cons_succ]
      · refine steps_want rfl (fun K hK => ?_)
        go_simp
        have H51 := (H5).new (by repeat (first | exact .nil | refine .cons (blkA_loc _ _ _) ?_)) 52 (madeCells #[.int .i64 0, .int .i64 0] (c * 2))
        try simp only [imzV] at H51
        generalize World.alloc v5 _ = v51 at *
        generalize Array.size (World.heap v5) = b1 at *
        refine hK _ _ (fun _ => True) trivial (fun _ _ => trivial) ?_
        clear hK K
        try simp only [Act.put, List.setIfInBounds_toArray, List.set_cons_succ, List.set_cons_zero]
        refine steps_end ?_
        refine walkP_fork ?_ ?_
        all_goals simp only [List.filterMap_cons, List.filterMap_nil, List.getElem?_cons_zero, List.getElem?_cons_succ]
        · refine steps_want rfl (fun K hK => ?_)
          go_simp
          have H513 := (H51).new (by repeat (first | exact .nil | refine .cons (blkA_loc _ _ _) ?_)) 62 (madeCells #[.int .i64 0, .int .i64 0, .string ⟨#[]⟩, .slice none 0 0] (k * 4))
          try simp only [imzV] at H513
          generalize World.alloc v51 _ = v513 at *
          generalize Array.size (World.heap v51) = b3 at *
          refine hK _ _ (fun _ => True) trivial (fun _ _ => trivial) ?_
          clear hK K
          try simp only [Act.put, List.setIfInBounds_toArray, List.set_cons_succ, List.set_cons_zero]
          refine steps_end ?_
          refine walkP_seg ?_
          simp only [List.filterMap_cons, List.filterMap_nil, List.getElem?_cons_zero, List.getElem?_cons_succ]
          refine steps_quiet 1 (by kernel_rfl) ?_
          simp only [List.take_succ_cons, List.take_zero, List.drop_succ_cons, List.drop_zero]
          repeat (go_big_quiet_step (fail))
          refine wpQuiet_nil ?_
          refine steps_want rfl (fun K hK => ?_)
          go_simp
          have H5138 := (H513).new (by repeat (first | exact .nil | refine .cons (blkA_loc _ _ _) ?_)) 26 imzV.toArray
          try simp only [imzV] at H5138
          generalize World.alloc v513 _ = v5138 at *
          generalize Array.size (World.heap v513) = b8 at *
          refine hK _ _ (fun _ => True) trivial (fun _ _ => trivial) ?_
          clear hK K
          try simp only [Act.put, List.setIfInBounds_toArray, List.set_cons_succ, List.set_cons_zero]
          refine steps_end ?_
          exact HT b1 b3 b5 b8 v5138 (Has.pick (l := [_, _, _, _]) (ps := []) H5138 [0, 2, 1, 3] rfl)
        · refine steps_want rfl (fun K hK => ?_)
          go_simp
          have H518 := (H51).new (by repeat (first | exact .nil | refine .cons (blkA_loc _ _ _) ?_)) 26 imzV.toArray
          try simp only [imzV] at H518
          generalize World.alloc v51 _ = v518 at *
          generalize Array.size (World.heap v51) = b8 at *
          refine hK _ _ (fun _ => True) trivial (fun _ _ => trivial) ?_
          clear hK K
          try simp only [Act.put, List.setIfInBounds_toArray, List.set_cons_succ, List.set_cons_zero]
          refine steps_end ?_
          refine walkP_seg ?_
          simp only [List.filterMap_cons, List.filterMap_nil, List.getElem?_cons_zero, List.getElem?_cons_succ]
          refine steps_want rfl (fun K hK => ?_)
          go_simp
          have H5183 := (H518).new (by repeat (first | exact .nil | refine .cons (blkA_loc _ _ _) ?_)) 62 (madeCells #[.int .i64 0, .int .i64 0, .string ⟨#[]⟩, .slice none 0 0] (k * 4))
          try simp only [imzV] at H5183
          generalize World.alloc v518 _ = v5183 at *
          generalize Array.size (World.heap v518) = b3 at *
          refine hK _ _ (fun _ => True) trivial (fun _ _ => trivial) ?_
          clear hK K
          try simp only [Act.put, List.setIfInBounds_toArray, List.set_cons_succ, List.set_cons_zero]
          refine steps_quiet 1 (by kernel_rfl) ?_
          simp only [List.take_succ_cons, List.take_zero, List.drop_succ_cons, List.drop_zero]
          repeat (go_big_quiet_step (fail))
          refine wpQuiet_nil ?_
          refine steps_end ?_
          exact HT b1 b3 b5 b8 v5183 (Has.pick (l := [_, _, _, _]) (ps := []) H5183 [1, 2, 0, 3] rfl)
      · refine steps_want rfl (fun K hK => ?_)
        go_simp
        have H53 := (H5).new (by repeat (first | exact .nil | refine .cons (blkA_loc _ _ _) ?_)) 62 (madeCells #[.int .i64 0, .int .i64 0, .string ⟨#[]⟩, .slice none 0 0] (k * 4))
        try simp only [imzV] at H53
        generalize World.alloc v5 _ = v53 at *
        generalize Array.size (World.heap v5) = b3 at *
        refine hK _ _ (fun _ => True) trivial (fun _ _ => trivial) ?_
        clear hK K
        try simp only [Act.put, List.setIfInBounds_toArray, List.set_cons_succ, List.set_cons_zero]
        refine steps_end ?_
        refine walkP_fork ?_ ?_
        all_goals simp only [List.filterMap_cons, List.filterMap_nil, List.getElem?_cons_zero, List.getElem?_cons_succ]
        · refine steps_want rfl (fun K hK => ?_)
          go_simp
          have H531 := (H53).new (by repeat (first | exact .nil | refine .cons (blkA_loc _ _ _) ?_)) 52 (madeCells #[.int .i64 0, .int .i64 0] (c * 2))
          try simp only [imzV] at H531
          generalize World.alloc v53 _ = v531 at *
          generalize Array.size (World.heap v53) = b1 at *
          refine hK _ _ (fun _ => True) trivial (fun _ _ => trivial) ?_
          clear hK K
          try simp only [Act.put, List.setIfInBounds_toArray, List.set_cons_succ, List.set_cons_zero]
          refine steps_end ?_
          refine walkP_seg ?_
          simp only [List.filterMap_cons, List.filterMap_nil, List.getElem?_cons_zero, List.getElem?_cons_succ]
          refine steps_quiet 1 (by kernel_rfl) ?_
          simp only [List.take_succ_cons, List.take_zero, List.drop_succ_cons, List.drop_zero]
          repeat (go_big_quiet_step (fail))
          refine wpQuiet_nil ?_
          refine steps_want rfl (fun K hK => ?_)
          go_simp
          have H5318 := (H531).new (by repeat (first | exact .nil | refine .cons (blkA_loc _ _ _) ?_)) 26 imzV.toArray
          try simp only [imzV] at H5318
          generalize World.alloc v531 _ = v5318 at *
          generalize Array.size (World.heap v531) = b8 at *
          refine hK _ _ (fun _ => True) trivial (fun _ _ => trivial) ?_
          clear hK K
          try simp only [Act.put, List.setIfInBounds_toArray, List.set_cons_succ, List.set_cons_zero]
          refine steps_end ?_
          exact HT b1 b3 b5 b8 v5318 (Has.pick (l := [_, _, _, _]) (ps := []) H5318 [0, 1, 2, 3] rfl)
        · refine steps_want rfl (fun K hK => ?_)
          go_simp
          have H538 := (H53).new (by repeat (first | exact .nil | refine .cons (blkA_loc _ _ _) ?_)) 26 imzV.toArray
          try simp only [imzV] at H538
          generalize World.alloc v53 _ = v538 at *
          generalize Array.size (World.heap v53) = b8 at *
          refine hK _ _ (fun _ => True) trivial (fun _ _ => trivial) ?_
          clear hK K
          try simp only [Act.put, List.setIfInBounds_toArray, List.set_cons_succ, List.set_cons_zero]
          refine steps_end ?_
          refine walkP_seg ?_
          simp only [List.filterMap_cons, List.filterMap_nil, List.getElem?_cons_zero, List.getElem?_cons_succ]
          refine steps_want rfl (fun K hK => ?_)
          go_simp
          have H5381 := (H538).new (by repeat (first | exact .nil | refine .cons (blkA_loc _ _ _) ?_)) 52 (madeCells #[.int .i64 0, .int .i64 0] (c * 2))
          try simp only [imzV] at H5381
          generalize World.alloc v538 _ = v5381 at *
          generalize Array.size (World.heap v538) = b1 at *
          refine hK _ _ (fun _ => True) trivial (fun _ _ => trivial) ?_
          clear hK K
          try simp only [Act.put, List.setIfInBounds_toArray, List.set_cons_succ, List.set_cons_zero]
          refine steps_quiet 1 (by kernel_rfl) ?_
          simp only [List.take_succ_cons, List.take_zero, List.drop_succ_cons, List.drop_zero]
          repeat (go_big_quiet_step (fail))
          refine wpQuiet_nil ?_
          refine steps_end ?_
          exact HT b1 b3 b5 b8 v5381 (Has.pick (l := [_, _, _, _]) (ps := []) H5381 [1, 0, 2, 3] rfl)
      · refine steps_want rfl (fun K hK => ?_)
        go_simp
        have H58 := (H5).new (by repeat (first | exact .nil | refine .cons (blkA_loc _ _ _) ?_)) 26 imzV.toArray
        try simp only [imzV] at H58
        generalize World.alloc v5 _ = v58 at *
        generalize Array.size (World.heap v5) = b8 at *
        refine hK _ _ (fun _ => True) trivial (fun _ _ => trivial) ?_
        clear hK K
        try simp only [Act.put, List.setIfInBounds_toArray, List.set_cons_succ, List.set_cons_zero]
        refine steps_end ?_
        refine walkP_fork ?_ ?_
        all_goals simp only [List.filterMap_cons, List.filterMap_nil, List.getElem?_cons_zero, List.getElem?_cons_succ]
        · refine steps_want rfl (fun K hK => ?_)
          go_simp
          have H581 := (H58).new (by repeat (first | exact .nil | refine .cons (blkA_loc _ _ _) ?_)) 52 (madeCells #[.int .i64 0, .int .i64 0] (c * 2))
          try simp only [imzV] at H581
          generalize World.alloc v58 _ = v581 at *
          generalize Array.size (World.heap v58) = b1 at *
          refine hK _ _ (fun _ => True) trivial (fun _ _ => trivial) ?_
          clear hK K
          try simp only [Act.put, List.setIfInBounds_toArray, List.set_cons_succ, List.set_cons_zero]
          refine steps_end ?_
          refine walkP_seg ?_
          simp only [List.filterMap_cons, List.filterMap_nil, List.getElem?_cons_zero, List.getElem?_cons_succ]
          refine steps_want rfl (fun K hK => ?_)
          go_simp
          have H5813 := (H581).new (by repeat (first | exact .nil | refine .cons (blkA_loc _ _ _) ?_)) 62 (madeCells #[.int .i64 0, .int .i64 0, .string ⟨#[]⟩, .slice none 0 0] (k * 4))
          try simp only [imzV] at H5813
          generalize World.alloc v581 _ = v5813 at *
          generalize Array.size (World.heap v581) = b3 at *
          refine hK _ _ (fun _ => True) trivial (fun _ _ => trivial) ?_
          clear hK K
          try simp only [Act.put, List.setIfInBounds_toArray, List.set_cons_succ, List.set_cons_zero]
          refine steps_quiet 1 (by kernel_rfl) ?_
          simp only [List.take_succ_cons, List.take_zero, List.drop_succ_cons, List.drop_zero]
          repeat (go_big_quiet_step (fail))
          refine wpQuiet_nil ?_
          refine steps_end ?_
          exact HT b1 b3 b5 b8 v5813 (Has.pick (l := [_, _, _, _]) (ps := []) H5813 [2, 1, 0, 3] rfl)
        · refine steps_want rfl (fun K hK => ?_)
          go_simp
          have H583 := (H58).new (by repeat (first | exact .nil | refine .cons (blkA_loc _ _ _) ?_)) 62 (madeCells #[.int .i64 0, .int .i64 0, .string ⟨#[]⟩, .slice none 0 0] (k * 4))
          try simp only [imzV] at H583
          generalize World.alloc v58 _ = v583 at *
          generalize Array.size (World.heap v58) = b3 at *
          refine hK _ _ (fun _ => True) trivial (fun _ _ => trivial) ?_
          clear hK K
          try simp only [Act.put, List.setIfInBounds_toArray, List.set_cons_succ, List.set_cons_zero]
          refine steps_end ?_
          refine walkP_seg ?_
          simp only [List.filterMap_cons, List.filterMap_nil, List.getElem?_cons_zero, List.getElem?_cons_succ]
          refine steps_want rfl (fun K hK => ?_)
          go_simp
          have H5831 := (H583).new (by repeat (first | exact .nil | refine .cons (blkA_loc _ _ _) ?_)) 52 (madeCells #[.int .i64 0, .int .i64 0] (c * 2))
          try simp only [imzV] at H5831
          generalize World.alloc v583 _ = v5831 at *
          generalize Array.size (World.heap v583) = b1 at *
          refine hK _ _ (fun _ => True) trivial (fun _ _ => trivial) ?_
          clear hK K
          try simp only [Act.put, List.setIfInBounds_toArray, List.set_cons_succ, List.set_cons_zero]
          refine steps_quiet 1 (by kernel_rfl) ?_
          simp only [List.take_succ_cons, List.take_zero, List.drop_succ_cons, List.drop_zero]
          repeat (go_big_quiet_step (fail))
          refine wpQuiet_nil ?_
          refine steps_end ?_
          exact HT b1 b3 b5 b8 v5831 (Has.pick (l := [_, _, _, _]) (ps := []) H5831 [2, 0, 1, 3] rfl)
    · refine steps_want rfl (fun K hK => ?_)
      go_simp
      have H8 := (H0).new (by repeat (first | exact .nil | refine .cons (blkA_loc _ _ _) ?_)) 26 imzV.toArray
      try simp only [imzV] at H8
      generalize World.alloc w0 _ = v8 at *
      generalize Array.size (World.heap w0) = b8 at *
      refine hK _ _ (fun _ => True) trivial (fun _ _ => trivial) ?_
      clear hK K
      try simp only [Act.put, List.setIfInBounds_toArray, List.set_cons_succ, List.set_cons_zero]
      refine steps_end ?_
      refine walkP_fork3 ?_ ?_ ?_
      all_goals simp only [List.filterMap_cons, List.filterMap_nil, List.getElem?_cons_zero, List.getElem?_cons_succ]
      · refine steps_want rfl (fun K hK => ?_)
        go_simp
        have H81 := (H8).new (by repeat (first | exact .nil | refine .cons (blkA_loc _ _ _) ?_)) 52 (madeCells #[.int .i64 0, .int .i64 0] (c * 2))
        try simp only [imzV] at H81
        generalize World.alloc v8 _ = v81 at *
        generalize Array.size (World.heap v8) = b1 at *
        refine hK _ _ (fun _ => True) trivial (fun _ _ => trivial) ?_
        clear hK K
        try simp only [Act.put, List.setIfInBounds_toArray, List.set_cons_succ, List.set_cons_zero]
        refine steps_end ?_
        refine walkP_fork ?_ ?_
        all_goals simp only [List.filterMap_cons, List.filterMap_nil, List.getElem?_cons_zero, List.getElem?_cons_succ]
        · refine steps_want rfl (fun K hK => ?_)
          go_simp
          have H813 := (H81).new (by repeat (first | exact .nil | refine .cons (blkA_loc _ _ _) ?_)) 62 (madeCells #[.int .i64 0, .int .i64 0, .string ⟨#[]⟩, .slice none 0 0] (k * 4))
          try simp only [imzV] at H813
          generalize World.alloc v81 _ = v813 at *
          generalize Array.size (World.heap v81) = b3 at *
          refine hK _ _ (fun _ => True) trivial (fun _ _ => trivial) ?_
          clear hK K
          try simp only [Act.put, List.setIfInBounds_toArray, List.set_cons_succ, List.set_cons_zero]
          refine steps_end ?_
          refine walkP_seg ?_
          simp only [List.filterMap_cons, List.filterMap_nil, List.getElem?_cons_zero, List.getElem?_cons_succ]
          refine steps_want rfl (fun K hK => ?_)
          go_simp
          have H8135 := (H813).new (by repeat (first | exact .nil | refine .cons (blkA_loc _ _ _) ?_)) 9 (madeCells #[.string ⟨#[]⟩] n)
          try simp only [imzV] at H8135
          generalize World.alloc v813 _ = v8135 at *
          generalize Array.size (World.heap v813) = b5 at *
          refine hK _ _ (fun _ => True) trivial (fun _ _ => trivial) ?_
          clear hK K
          try simp only [Act.put, List.setIfInBounds_toArray, List.set_cons_succ, List.set_cons_zero]
          refine steps_quiet 1 (by kernel_rfl) ?_
          simp only [List.take_succ_cons, List.take_zero, List.drop_succ_cons, List.drop_zero]
          repeat (go_big_quiet_step (fail))
          refine wpQuiet_nil ?_
          refine steps_end ?_
          exact HT b1 b3 b5 b8 v8135 (Has.pick (l := [_, _, _, _]) (ps := []) H8135 [3, 2, 1, 0] rfl)
        · refine steps_want rfl (fun K hK => ?_)
          go_simp
          have H815 := (H81).new (by repeat (first | exact .nil | refine .cons (blkA_loc _ _ _) ?_)) 9 (madeCells #[.string ⟨#[]⟩] n)
          try simp only [imzV] at H815
          generalize World.alloc v81 _ = v815 at *
          generalize Array.size (World.heap v81) = b5 at *
          refine hK _ _ (fun _ => True) trivial (fun _ _ => trivial) ?_
          clear hK K
          try simp only [Act.put, List.setIfInBounds_toArray, List.set_cons_succ, List.set_cons_zero]
          refine steps_end ?_
          refine walkP_seg ?_
          simp only [List.filterMap_cons, List.filterMap_nil, List.getElem?_cons_zero, List.getElem?_cons_succ]
          refine steps_want rfl (fun K hK => ?_)
          go_simp
          have H8153 := (H815).new (by repeat (first | exact .nil | refine .cons (blkA_loc _ _ _) ?_)) 62 (madeCells #[.int .i64 0, .int .i64 0, .string ⟨#[]⟩, .slice none 0 0] (k * 4))
          try simp only [imzV] at H8153
          generalize World.alloc v815 _ = v8153 at *
          generalize Array.size (World.heap v815) = b3 at *
          refine hK _ _ (fun _ => True) trivial (fun _ _ => trivial) ?_
          clear hK K
          try simp only [Act.put, List.setIfInBounds_toArray, List.set_cons_succ, List.set_cons_zero]
          refine steps_quiet 1 (by kernel_rfl) ?_
          simp only [List.take_succ_cons, List.take_zero, List.drop_succ_cons, List.drop_zero]
          repeat (go_big_quiet_step (fail))
          refine wpQuiet_nil ?_
          refine steps_end ?_
          exact HT b1 b3 b5 b8 v8153 (Has.pick (l := [_, _, _, _]) (ps := []) H8153 [3, 2, 0, 1] rfl)
      · refine steps_want rfl (fun K hK => ?_)
        go_simp
        have H83 := (H8).new (by repeat (first | exact .nil | refine .cons (blkA_loc _ _ _) ?_)) 62 (madeCells #[.int .i64 0, .int .i64 0, .string ⟨#[]⟩, .slice none 0 0] (k * 4))
        try simp only [imzV] at H83
        generalize World.alloc v8 _ = v83 at *
        generalize Array.size (World.heap v8) = b3 at *
        refine hK _ _ (fun _ => True) trivial (fun _ _ => trivial) ?_
        clear hK K
        try simp only [Act.put, List.setIfInBounds_toArray, List.set_cons_succ, List.set_cons_zero]
        refine steps_end ?_
        refine walkP_fork ?_ ?_
        all_goals simp only [List.filterMap_cons, List.filterMap_nil, List.getElem?_cons_zero, List.getElem?_cons_succ]
        · refine steps_want rfl (fun K hK => ?_)
          go_simp
          have H831 := (H83).new (by repeat (first | exact .nil | refine .cons (blkA_loc _ _ _) ?_)) 52 (madeCells #[.int .i64 0, .int .i64 0] (c * 2))
          try simp only [imzV] at H831
          generalize World.alloc v83 _ = v831 at *
          generalize Array.size (World.heap v83) = b1 at *
          refine hK _ _ (fun _ => True) trivial (fun _ _ => trivial) ?_
          clear hK K
          try simp only [Act.put, List.setIfInBounds_toArray, List.set_cons_succ, List.set_cons_zero]
          refine steps_end ?_
          refine walkP_seg ?_
          simp only [List.filterMap_cons, List.filterMap_nil, List.getElem?_cons_zero, List.getElem?_cons_succ]
          refine steps_want rfl (fun K hK => ?_)
          go_simp
          have H8315 := (H831).new (by repeat (first | exact .nil | refine .cons (blkA_loc _ _ _) ?_)) 9 (madeCells #[.string ⟨#[]⟩] n)
          try simp only [imzV] at H8315
          generalize World.alloc v831 _ = v8315 at *
          generalize Array.size (World.heap v831) = b5 at *
          refine hK _ _ (fun _ => True) trivial (fun _ _ => trivial) ?_
          clear hK K
          try simp only [Act.put, List.setIfInBounds_toArray, List.set_cons_succ, List.set_cons_zero]
          refine steps_quiet 1 (by kernel_rfl) ?_
          simp only [List.take_succ_cons, List.take_zero, List.drop_succ_cons, List.drop_zero]
          repeat (go_big_quiet_step (fail))
          refine wpQuiet_nil ?_
          refine steps_end ?_
          exact HT b1 b3 b5 b8 v8315 (Has.pick (l := [_, _, _, _]) (ps := []) H8315 [3, 1, 2, 0] rfl)
        · refine steps_want rfl (fun K hK => ?_)
          go_simp
          have H835 := (H83).new (by repeat (first | exact .nil | refine .cons (blkA_loc _ _ _) ?_)) 9 (madeCells #[.string ⟨#[]⟩] n)
          try simp only [imzV] at H835
          generalize World.alloc v83 _ = v835 at *
          generalize Array.size (World.heap v83) = b5 at *
          refine hK _ _ (fun _ => True) trivial (fun _ _ => trivial) ?_
          clear hK K
          try simp only [Act.put, List.setIfInBounds_toArray, List.set_cons_succ, List.set_cons_zero]
          refine steps_end ?_
          refine walkP_seg ?_
          simp only [List.filterMap_cons, List.filterMap_nil, List.getElem?_cons_zero, List.getElem?_cons_succ]
          refine steps_want rfl (fun K hK => ?_)
          go_simp
          have H8351 := (H835).new (by repeat (first | exact .nil | refine .cons (blkA_loc _ _ _) ?_)) 52 (madeCells #[.int .i64 0, .int .i64 0] (c * 2))
          try simp only [imzV] at H8351
          generalize World.alloc v835 _ = v8351 at *
          generalize Array.size (World.heap v835) = b1 at *
          refine hK _ _ (fun _ => True) trivial (fun _ _ => trivial) ?_
          clear hK K
          try simp only [Act.put, List.setIfInBounds_toArray, List.set_cons_succ, List.set_cons_zero]
          refine steps_quiet 1 (by kernel_rfl) ?_
          simp only [List.take_succ_cons, List.take_zero, List.drop_succ_cons, List.drop_zero]
          repeat (go_big_quiet_step (fail))
          refine wpQuiet_nil ?_
          refine steps_end ?_
          exact HT b1 b3 b5 b8 v8351 (Has.pick (l := [_, _, _, _]) (ps := []) H8351 [3, 0, 2, 1] rfl)
      · refine steps_want rfl (fun K hK => ?_)
        go_simp
        have H85 := (H8).new (by repeat (first | exact .nil | refine .cons (blkA_loc _ _ _) ?_)) 9 (madeCells #[.string ⟨#[]⟩] n)
        try simp only [imzV] at H85
        generalize World.alloc v8 _ = v85 at *
        generalize Array.size (World.heap v8) = b5 at *
        refine hK _ _ (fun _ => True) trivial (fun _ _ => trivial) ?_
        clear hK K
        try simp only [Act.put, List.setIfInBounds_toArray, List.set_cons_succ, List.set_cons_zero]
        refine steps_end ?_
        refine walkP_fork ?_ ?_
        all_goals simp only [List.filterMap_cons, List.filterMap_nil, List.getElem?_cons_zero, List.getElem?_cons_succ]
        · refine steps_want rfl (fun K hK => ?_)
          go_simp
          have H851 := (H85).new (by repeat (first | exact .nil | refine .cons (blkA_loc _ _ _) ?_)) 52 (madeCells #[.int .i64 0, .int .i64 0] (c * 2))
          try simp only [imzV] at H851
          generalize World.alloc v85 _ = v851 at *
          generalize Array.size (World.heap v85) = b1 at *
          refine hK _ _ (fun _ => True) trivial (fun _ _ => trivial) ?_
          clear hK K
          try simp only [Act.put, List.setIfInBounds_toArray, List.set_cons_succ, List.set_cons_zero]
          refine steps_end ?_
          refine walkP_seg ?_
          simp only [List.filterMap_cons, List.filterMap_nil, List.getElem?_cons_zero, List.getElem?_cons_succ]
          refine steps_want rfl (fun K hK => ?_)
          go_simp
          have H8513 := (H851).new (by repeat (first | exact .nil | refine .cons (blkA_loc _ _ _) ?_)) 62 (madeCells #[.int .i64 0, .int .i64 0, .string ⟨#[]⟩, .slice none 0 0] (k * 4))
          try simp only [imzV] at H8513
          generalize World.alloc v851 _ = v8513 at *
          generalize Array.size (World.heap v851) = b3 at *
          refine hK _ _ (fun _ => True) trivial (fun _ _ => trivial) ?_
          clear hK K
          try simp only [Act.put, List.setIfInBounds_toArray, List.set_cons_succ, List.set_cons_zero]
          refine steps_quiet 1 (by kernel_rfl) ?_
          simp only [List.take_succ_cons, List.take_zero, List.drop_succ_cons, List.drop_zero]
          repeat (go_big_quiet_step (fail))
          refine wpQuiet_nil ?_
          refine steps_end ?_
          exact HT b1 b3 b5 b8 v8513 (Has.pick (l := [_, _, _, _]) (ps := []) H8513 [3, 1, 0, 2] rfl)
        · refine steps_want rfl (fun K hK => ?_)
          go_simp
          have H853 := (H85).new (by repeat (first | exact .nil | refine .cons (blkA_loc _ _ _) ?_)) 62 (madeCells #[.int .i64 0, .int .i64 0, .string ⟨#[]⟩, .slice none 0 0] (k * 4))
          try simp only [imzV] at H853
          generalize World.alloc v85 _ = v853 at *
          generalize Array.size (World.heap v85) = b3 at *
          refine hK _ _ (fun _ => True) trivial (fun _ _ => trivial) ?_
          clear hK K
          try simp only [Act.put, List.setIfInBounds_toArray, List.set_cons_succ, List.set_cons_zero]
          refine steps_end ?_
          refine walkP_seg ?_
          simp only [List.filterMap_cons, List.filterMap_nil, List.getElem?_cons_zero, List.getElem?_cons_succ]
          refine steps_want rfl (fun K hK => ?_)
          go_simp
          have H8531 := (H853).new (by repeat (first | exact .nil | refine .cons (blkA_loc _ _ _) ?_)) 52 (madeCells #[.int .i64 0, .int .i64 0] (c * 2))
          try simp only [imzV] at H8531
          generalize World.alloc v853 _ = v8531 at *
          generalize Array.size (World.heap v853) = b1 at *
          refine hK _ _ (fun _ => True) trivial (fun _ _ => trivial) ?_
          clear hK K
          try simp only [Act.put, List.setIfInBounds_toArray, List.set_cons_succ, List.set_cons_zero]
          refine steps_quiet 1 (by kernel_rfl) ?_
          simp only [List.take_succ_cons, List.take_zero, List.drop_succ_cons, List.drop_zero]
          repeat (go_big_quiet_step (fail))
          refine wpQuiet_nil ?_
          refine steps_end ?_
          exact HT b1 b3 b5 b8 v8531 (Has.pick (l := [_, _, _, _]) (ps := []) H8531 [3, 0, 1, 2] rfl)
    -- }
  intro b1 b3 b5 b8 X HX
  have LH : Locs [blkA b1 52 (madeCells #[.int .i64 0, .int .i64 0] (c * 2)), blkA b3 62 (madeCells #[.int .i64 0, .int .i64 0, .string ⟨#[]⟩, .slice none 0 0] (k * 4)), blkA b5 9 (madeCells #[.string ⟨#[]⟩] n)] := .cons (blkA_loc _ _ _) (.cons (blkA_loc _ _ _) (.cons (blkA_loc _ _ _) .nil))
  have hbr := HX.blk0
  have r0 := hbr.cell 0
  have r1 := hbr.cell 1
  have r2 := hbr.cell 2
  have r3 := hbr.cell 3
  have f0 := hbr.frozen 0
  have f1 := hbr.frozen 1
  have f2 := hbr.frozen 2
  have f3 := hbr.frozen 3
  simp only [List.getElem?_toArray, List.getElem?_cons_zero, List.getElem?_cons_succ] at r0 r1 r2 r3
  have HZ := (((HX.setB LH 0 (.slice (some ⟨b1, 0, none⟩) c c)).setB LH 1 (.slice (some ⟨b3, 0, none⟩) k k)).setB LH 2 (.slice (some ⟨b5, 0, none⟩) n n)).setB LH 3 (.int .i64 places)
  simp only [List.setIfInBounds_toArray, List.set_cons_succ, List.set_cons_zero] at HZ
  refine walkP_seg ?_
  simp only [List.filterMap_cons, List.filterMap_nil, List.getElem?_cons_zero, List.getElem?_cons_succ]
  refine steps_want rfl (fun K hK => ?_)
  go_simp
  generalize World.setCell _ _ _ = Y at *
  refine hK _ _ (fun _ => True) trivial (fun _ _ => trivial) ?_
  clear hK K
  try simp only [Act.put, List.setIfInBounds_toArray, List.set_cons_succ, List.set_cons_zero]
  refine steps_end ?_
  refine walkP_done ?_
  clear r0 r1 r2 r3 f0 f1 f2 f3 hbr HX
  have hbr := HZ.blk0
  have r0 := hbr.cell 0
  have r1 := hbr.cell 1
  have r2 := hbr.cell 2
  have r3 := hbr.cell 3
  simp only [List.getElem?_toArray, List.getElem?_cons_zero, List.getElem?_cons_succ] at r0 r1 r2 r3
  have hI := lm_at Y b1 b3 b5 _ _ _ c k n places (by omega) (by omega) (by omega) HZ.swap.blk0 HZ.third.blk0 HZ.drop.third.blk0
  have hck := imcheck_any _ _ Y hI (lm_ok c k n places ⟨by omega, by omega⟩) (lm_small c k n places)
  have l1 : (lmIm c k n places).code.length = c := by simp [lmIm]
  have l2 : (lmIm c k n places).consts.len = k := by show (Fo.of _).len = k; rw [Fo.of_len, List.length_replicate]
  have l3 : (lmIm c k n places).names.length = n := by simp [lmIm]
  have l4 : (lmIm c k n places).places = places := rfl
  rw [lm_check] at hck
  simp only [Im.cells, l1, l2, l3, l4] at hck
  have hEz := HZ.base
  clear hI l1 l2 l3 l4 mk1 mk3 mk5 hbr HZ LH H0 hw0
  unfold lmWant at hck
  have HCK := Lib.hid hck
  clear hck
  by_cases c0 : c = 0
  · have hc := HCK.out
    rw [if_pos c0] at hc
    have HC := Lib.hid hc
    clear hc HCK
    subst c0
    have z0 : ((0 : Nat) : Int) = 0 := rfl
    simp only [z0] at *
    go_wp2_with fail
    refine HC.out.mono ?_
    rintro e w9 ⟨rfl, hE9⟩
    go_wp2_with fail
    go_returns
    exact ⟨rfl, hEz.trans hE9⟩
  have hc := HCK.out
  rw [if_neg c0] at hc
  have HC := Lib.hid hc
  clear hc HCK
  have c0' : ¬ ((c : Int) = 0) := by omega
  by_cases cl : 512 < c ∨ 64 < k ∨ 32 < n
  · have hc := HC.out
    rw [if_pos cl] at hc
    have HC2 := Lib.hid hc
    clear hc HC
    by_cases x1 : (512 : Int) < c
    · clear cl
      go_wp2_with fail
      refine HC2.out.mono ?_
      rintro e w9 ⟨rfl, hE9⟩
      go_wp2_with fail
      go_returns
      exact ⟨rfl, hEz.trans hE9⟩
    by_cases x2 : (64 : Int) < k
    · clear cl
      go_wp2_with fail
      refine HC2.out.mono ?_
      rintro e w9 ⟨rfl, hE9⟩
      go_wp2_with fail
      go_returns
      exact ⟨rfl, hEz.trans hE9⟩
    have x3 : (32 : Int) < n := by omega
    clear cl
    go_wp2_with fail
    refine HC2.out.mono ?_
    rintro e w9 ⟨rfl, hE9⟩
    go_wp2_with fail
    go_returns
    exact ⟨rfl, hEz.trans hE9⟩
  have hc := HC.out
  rw [if_neg cl] at hc
  have HC2 := Lib.hid hc
  clear hc HC
  have x1 : ¬ (512 : Int) < c := by omega
  have x2 : ¬ (64 : Int) < k := by omega
  have x3 : ¬ (32 : Int) < n := by omega
  clear cl
  by_cases cp : places < 0 ∨ 16 < places
  · have hc := HC2.out
    rw [if_pos cp] at hc
    have HC3 := Lib.hid hc
    clear hc HC2
    by_cases x4 : places < 0
    · clear cp
      go_wp2_with fail
      refine HC3.out.mono ?_
      rintro e w9 ⟨rfl, hE9⟩
      go_wp2_with fail
      go_returns
      exact ⟨rfl, hEz.trans hE9⟩
    have x5 : 16 < places := by omega
    clear cp
    go_wp2_with fail
    refine HC3.out.mono ?_
    rintro e w9 ⟨rfl, hE9⟩
    go_wp2_with fail
    go_returns
    exact ⟨rfl, hEz.trans hE9⟩
  have hc := HC2.out
  rw [if_neg cp] at hc
  have HC3 := Lib.hid hc
  clear hc HC2
  have x4 : ¬ places < 0 := by omega
  have x5 : ¬ 16 < places := by omega
  clear cp
  go_wp2_with fail
  refine HC3.out.mono ?_
  rintro e w9 ⟨rfl, hE9⟩
  go_wp2_with fail
  go_returns
  exact ⟨rfl, hEz.trans hE9⟩
end Go.Proofs.Ytkkhcpknldlpoaa

namespace Go.Proofs.Ytkkhcpknldlpoaa.imageLimits
open Go.Proofs.Ytkkhcpknldlpoaa
open Go.ChangeShapes Go.WideShapes Go.ChangeAt Go.RowKit Go.Joins Go.Deep
open Go.ChangeMaps (open_string shut_string)
set_option maxRecDepth 4000
set_option linter.unusedVariables false
set_option linter.unusedSimpArgs false

theorem own : ownKnob Try.prog.godebug = none := by kernel_rfl
theorem laidOut : laidOutB Try.prog = true := by kernel_rfl
theorem arr2 : Go.WideMaps.ArrKey Try.prog 56 3 2 := ⟨Try.underlying56, by kernel_rfl, by kernel_rfl, by kernel_rfl⟩
set_option maxRecDepth 100000 in
theorem lifted (os : Os) (started : os.Started) (H : Type) (enc : TypeId × Value → H) :
    ReturnsInHanded {} Try.checked os 7 .any (Rows.imageLimitsSpec.pre6 enc Try.prog Try.f7 Rows.imageLimitsRow.domain false) (Rows.imageLimitsSpec.post enc Try.prog Try.f7 false true false false) := by
  refine returnsInHanded_of_change (C := Try.checked) own started (by kernel_rfl) Try.func7
    (ChangeSpec.witness6 (enc := enc) (C := Try.checked) false ⟨#[], #[.int .i64 0, .int .i64 0, .agg #[.int .i64 0, .int .i64 0]], []⟩ 8 (by kernel_rfl) (by kernel_rfl) (by kernel_rfl) (by kernel_rfl)) ?_
  intro W base args ds gs before hval0 hW hcnd _
  have hval : ∀ (j : Nat) t v, Try.f7.params[j]? = some t → args[j]? = some v → Value.okWide Try.prog W .any base t v := hval0
  have hW' := hW
  obtain ⟨p, q, hA0, hV, rfl, hfz, hnd⟩ := hW
  have hA : DataW.TrodAll enc Try.prog W 0 (fun _ => true) true Try.f7.params.toList args.toList ds p := hA0
  rw [Try.params7] at hA hval
  obtain ⟨v0, vs0, d0, ds0, p0, q0, hargs, rfl, rfl, h0, r0⟩ := trodAll_cons hA
  obtain ⟨v1, vs1, d1, ds1, p1, q1, rfl, rfl, rfl, h1, r1⟩ := trodAll_cons r0
  obtain ⟨v2, vs2, d2, ds2, p2, q2, rfl, rfl, rfl, h2, r2⟩ := trodAll_cons r1
  obtain ⟨rfl, rfl, rfl⟩ := trodAll_nil r2
  obtain rfl : args = #[v0, v1, v2] := by cases args; simp_all
  obtain ⟨rfl, rfl⟩ := trodVars_none hV
  have k0 := h0
  have lt0 : ∀ x ∈ p0, x.block < W.heap.size := by obtain ⟨m, hm⟩ := k0; exact DataW.trod_lt m _ _ _ hm
  have k1 := h1
  have lt1 : ∀ x ∈ p1, x.block < W.heap.size := by obtain ⟨m, hm⟩ := k1; exact DataW.trod_lt m _ _ _ hm
  have k2 := h2
  have lt2 : ∀ x ∈ p2, x.block < W.heap.size := by obtain ⟨m, hm⟩ := k2; exact DataW.trod_lt m _ _ _ hm
  obtain ⟨a, rfl, rfl, rfl, w0⟩ := open_int Try.underlying3 (hval 0 3 v0 rfl rfl) h0
  obtain ⟨b, rfl, rfl, rfl, w1⟩ := open_int Try.underlying3 (hval 1 3 v1 rfl rfl) h1
  obtain ⟨c, e, rfl, rfl, rfl, w2, w3⟩ := Go.WideMaps.open_pair arr2 Try.underlying3 (hval 2 56 v2 rfl rfl) h2
  refine (limits_any W a b c e).mono fun e W' ⟨he, bel⟩ => ?_
  subst he
  exact ⟨_, rfl, _, _, _, [], _, [], hW', trodAll_mk1 (shut_bool Try.underlying4 _), (trodAll_cons_mk (Below.trod laidOut (by kernel_rfl) (of_decide_eq_true (by kernel_rfl)) k0 bel lt0) (trodAll_cons_mk (Below.trod laidOut (by kernel_rfl) (of_decide_eq_true (by kernel_rfl)) k1 bel lt1) (trodAll_cons_mk (Below.trod laidOut (by kernel_rfl) (of_decide_eq_true (by kernel_rfl)) k2 bel lt2) trodAll_mk0))), rfl, bel.frame _, fun h => by cases h⟩

theorem over : Rows.imageLimitsRow.holds Try.pinned (OpenSpec.ofChange Rows.imageLimitsSpec) :=
  OpenClaim.holds_of_wide 7 Try.f7 rfl rfl rfl rfl rfl rfl rfl ⟨rfl, rfl, rfl, rfl, rfl⟩ rfl rfl rfl rfl rfl (by kernel_rfl) Try.func7 (by kernel_rfl)
    (of_decide_eq_true (by kernel_rfl)) (by unfold Func.isWrapper; first | (rw [if_pos (by decide +kernel)]; kernel_rfl) | (rw [if_neg (by decide +kernel)]; exact ⟨rfl, rfl⟩))
    (fun os started H enc _ => lifted os started H enc)

theorem proved : Rows.ImageLimitsSaid := over
#print axioms proved
end Go.Proofs.Ytkkhcpknldlpoaa.imageLimits
