/- The walks of what only looks at a match. -/
import Derived.Test.YtadmfoglajhdcaaMRep
import Derived.Test.YtadmfoglajhdcaaSteps
import Derived.Outline
namespace Go.Proofs.Ytadmfoglajhdcaa
set_option maxRecDepth 4000
set_option linter.unusedVariables false
set_option linter.unusedSimpArgs false
open Go Go.RowKit Go.Maps Go.ChangeMaps Go.MapKept
/-- a worker's own queue -/
theorem own_any (W : World) (m : Nat) (z : Int) (h1 : 1 ≤ z) (h2 : z ≤ 64) :
    Calls Try.prog 19 #[.pointer (some ⟨m, 0, none⟩), .int .i64 z] W fun e W' => e = .returned (.pointer (some ⟨m, 1 + z.toNat * 3, none⟩)) ∧ W = W' := by
  go_enter Try.func19, Try.ntmps19
  go_wp2
  go_ret
  refine ⟨?_, rfl⟩
  show Ending.returned (.pointer (some ⟨m, 4 + (z.toNat - 1) * 3, none⟩)) = _
  rw [show 4 + (z.toNat - 1) * 3 = 1 + z.toNat * 3 by omega]
theorem own_no (W : World) (m : Nat) (z : Int) (h : z < 1 ∨ 64 < z) :
    Calls Try.prog 19 #[.pointer (some ⟨m, 0, none⟩), .int .i64 z] W fun e W' => e = .returned (.pointer none) ∧ W = W' := by
  rcases h with h | h
  · go_enter Try.func19, Try.ntmps19
    go_wp2
    go_ret
    exact ⟨rfl, rfl⟩
  · go_enter Try.func19, Try.ntmps19
    go_wp2
    go_ret
    exact ⟨rfl, rfl⟩
/-- a task in a block of its own -/
structure BoxT (W : World) (b : Nat) (r k i : Int) : Prop where
  c0 : W.cell? ⟨b, 0, none⟩ = some (.int .i64 r)
  c1 : W.cell? ⟨b, 1, none⟩ = some (.int .i64 k)
  c2 : W.cell? ⟨b, 2, none⟩ = some (.int .i64 i)
  lt : b < W.heap.size
theorem BoxT.ext {W w : World} {b : Nat} {r k i : Int} (h : BoxT W b r k i) (hE : Ext W w) : BoxT w b r k i :=
  ⟨(hE.cell _ _ h.lt).trans h.c0, (hE.cell _ _ h.lt).trans h.c1, (hE.cell _ _ h.lt).trans h.c2, Nat.lt_of_lt_of_le h.lt hE.le⟩
theorem BoxT.new (w : World) (r k i : Int) (T : TypeId) : BoxT (w.alloc (.cells #[.int .i64 r, .int .i64 k, .int .i64 i] T)) w.heap.size r k i :=
  ⟨cell_box _ _ _, cell_box _ _ _, cell_box _ _ _, by simp⟩
theorem BoxT.at_ {W : World} {b : Nat} {r k i : Int} (h : BoxT W b r k i) : (∀ x : ExtOf W, x.val.cell? ⟨b, 0, none⟩ = some (.int .i64 r)) ∧ (∀ x : ExtOf W, x.val.cell? ⟨b, 1, none⟩ = some (.int .i64 k)) ∧ (∀ x : ExtOf W, x.val.cell? ⟨b, 2, none⟩ = some (.int .i64 i)) :=
  ⟨fun x => (h.ext x.property).c0, fun x => (h.ext x.property).c1, fun x => (h.ext x.property).c2⟩
/-- who a task waits for -/
def MS.where_ (s : MS) (r k i : Int) : Option Nat := (List.range 65).find? fun j => (s.q j).any (isK · r k i)
def whereV (o : Option Nat) : Value := .tuple #[.int .i64 (o.getD 0), .bool o.isSome]
theorem range_find {p : Nat → Bool} {n j : Nat} (hj : j < n) (h : p j = true) (hl : ∀ i, i < j → p i = false) : (List.range n).find? p = some j := by
  rw [List.find?_range_eq_some]
  exact ⟨h, List.mem_range.2 hj, fun i hi => by simp [hl i hi]⟩
theorem range_find_none {p : Nat → Bool} {n : Nat} (hl : ∀ i, i < n → p i = false) : (List.range n).find? p = none := by
  rw [List.find?_range_eq_none]
  exact fun i hi => by simp [hl i hi]
def WhRel (w : World) (s : MS) (r k i : Int) (v : Value) (wr : World) : Prop := ∃ j : Nat, j ≤ 64 ∧ v = .int .i64 j ∧ (∀ x, x < j + 1 → (s.q x).any (isK · r k i) = false) ∧ Ext w wr
set_option maxRecDepth 100000 in
theorem where_any (W : World) (m : Nat) (s : MS) (F : Nat → Prop) (r k i : Int) (h : mP m s W F) (hok : TaskOk r k i) :
    Calls Try.prog 17 #[.pointer (some ⟨m, 0, none⟩), taskV r k i] W fun e W' => e = .returned (whereV (s.where_ r k i)) ∧ Ext W W' := by
  have hm := mP_m h
  have hE := ext_alloc W (.cells #[.int .i64 r, .int .i64 k, .int .i64 i] 43)
  have hbx := BoxT.new W r k i 43
  have h1 := (mP_loc m s).ext h hE
  have hqs := fun k (hk : k < 65) => mP_q h1 hk rfl
  go_enter Try.func17, Try.ntmps17
  go_wp2_with fail
  generalize hw0 : W.alloc _ = w at *
  generalize W.heap.size = bx at *
  clear hw0 h h1
  obtain ⟨d0, d1, d2⟩ := hbx.at_
  obtain ⟨G0, hq0⟩ := hqs 0 (by omega)
  obtain ⟨b0, hb0⟩ : ∃ b, b = (s.q 0).any (isK · r k i) := ⟨_, rfl⟩
  have HC : ∀ x : ExtOf w, Calls Try.prog 14 #[.pointer (some ⟨m, 1, none⟩), taskV r k i] x.val fun e W' => e = .returned (.bool b0) ∧ ∃ y : ExtOf w, W' = y.val := fun x => by rw [hb0]; exact quiet_ext (qp_has (hq0.ext x.property) r k i hok)
  refine region_ext (by kernel_rfl) (by kernel_rfl) ?_
  repeat (go_big_quiet_step (exact HC _))
  refine wpQuiet_nil ?_
  intro wq hq
  obtain ⟨xq, rfl⟩ := hq
  have hEq := xq.property
  generalize xq.val = wq at *
  clear xq
  clear d0 d1 d2 HC
  have HB0 := Lib.hid hb0
  clear hb0
  cases b0 with
  | true =>
    have hwh : s.where_ r k i = some 0 := range_find (by omega) HB0.out.symm (fun i hi => by omega)
    go_wp2_with fail
    go_ret2
    rw [hwh]
    exact ⟨rfl, hE.trans hEq⟩
  | false =>
    go_wp2_with fail
    have hE0 : Ext w wq := hEq
    clear hEq
    go_loopw [12] (fun v wr => WhRel w s r k i v wr) (fun v _ => (65 - intOf v).toNat)
    case atStart => exact ⟨0, by omega, rfl, (fun x hx => by have : x = 0 := by omega
                                                             subst this; exact HB0.out.symm), hE0⟩
    case round =>
      clear hE0
      obtain ⟨j, hj, rfl, hno, hEr⟩ := hrel
      by_cases gj : (j : Int) < 64
      · have HNO := Lib.hid hno
        clear hno
        go_upto_region 6 with fail
        obtain ⟨G1, hq1⟩ := hqs (j + 1) (by omega)
        have ho : 1 + (j + 1) * 3 = 4 + j * 3 := by omega
        rw [ho] at hq1
        have hbr := hbx.ext hEr
        obtain ⟨d0, d1, d2⟩ := hbr.at_
        obtain ⟨b1, hb1⟩ : ∃ b, b = (s.q (j + 1)).any (isK · r k i) := ⟨_, rfl⟩
        have HC : ∀ x : ExtOf wr, Calls Try.prog 14 #[.pointer (some ⟨m, 4 + j * 3, none⟩), taskV r k i] x.val fun e W' => e = .returned (.bool b1) ∧ ∃ y : ExtOf wr, W' = y.val := fun x => by rw [hb1]; exact quiet_ext (qp_has (hq1.ext (hEr.trans x.property)) r k i hok)
        have HB := Lib.hid hb1
        clear hb1 ho
        refine region_ext (by kernel_rfl) (by kernel_rfl) ?_
        repeat (go_big_quiet_step (exact HC _))
        refine wpQuiet_nil ?_
        intro wq hq
        obtain ⟨xq, rfl⟩ := hq
        have hEq := xq.property
        generalize xq.val = wq at *
        clear xq
        clear d0 d1 d2 HC
        cases b1 with
        | true =>
          have hwh : s.where_ r k i = some (j + 1) := range_find (by omega) HB.out.symm (fun i hi => HNO.out i hi)
          go_wp2_with fail
          go_ret2
          rw [hwh]
          exact ⟨rfl, (hE.trans hEr).trans hEq⟩
        | false =>
          go_wp2_with fail
          refine ⟨⟨j + 1, by omega, by go_num, fun x hx => ?_, hEr.trans hEq⟩, by simp [intOf]; omega⟩
          rcases Nat.lt_or_ge x (j + 1) with h | h
          · exact HNO.out x h
          · have : x = j + 1 := by omega
            subst this; exact HB.out.symm
      · have HW := Lib.hid (show s.where_ r k i = none from range_find_none (fun i hi => hno i (by omega)))
        clear hno
        go_wp2_with fail
        go_ret2
        rw [HW.out]
        exact ⟨rfl, hE.trans hEr⟩


def isL (l : Ls) (r k i : Int) : Bool := l.run == r && l.kind == k && l.id == i
theorem isL_iff {l : Ls} {r k i : Int} : isL l r k i = true ↔ l.run = r ∧ l.kind = k ∧ l.id = i := by simp [isL, and_assoc]
/-- a lease's value -/
def lsV (l : Ls) : Value := .agg #[.int .u64 l.tok, .int .i64 l.run, .int .i64 l.kind, .int .i64 l.id, .int .i64 l.worker, .int .i64 l.until_]
theorem leaseF_any (W : World) (b : Nat) (r k i : Int) (l : Ls) (h : BoxT W b r k i) :
    Calls Try.prog 32 #[lsV l, .pointer (some ⟨b, 0, none⟩)] W fun e W' => e = .returned (.bool (isL l r k i)) ∧ Ext W W' := by
  obtain ⟨c0, c1, c2, hlt⟩ := h
  unfold lsV isL
  go_enter Try.func32, Try.ntmps32
  go_wp2
  all_goals
    go_ret
    refine ⟨?_, ext_alloc _ _⟩
    simp_all
/-- where the first of them is; -1: nowhere -/
def firstAt (p : Ls → Bool) (ls : List Ls) : Int := match ls.findIdx? p with
  | some i => i
  | none => -1
theorem firstAt_none {p : Ls → Bool} {ls : List Ls} (h : ∀ l ∈ ls, p l = false) : firstAt p ls = -1 := by
  have : ls.findIdx? p = none := List.findIdx?_eq_none_iff.2 h
  simp [firstAt, this]
theorem firstAt_some {p : Ls → Bool} {pre post : List Ls} {l : Ls} (h : ∀ l ∈ pre, p l = false) (hl : p l = true) : firstAt p (pre ++ l :: post) = pre.length := by
  have : (pre ++ l :: post).findIdx? p = some pre.length := by
    rw [List.findIdx?_append, List.findIdx?_eq_none_iff.2 h]
    simp [List.findIdx?_cons, hl]
  simp [firstAt, this]
def IxRel (w : World) (L : Nat) (sv : Value) (ls : List Ls) (p : Ls → Bool) (v : Value) (wr : World) : Prop :=
  ∃ pre post, ls = pre ++ post ∧ v = .int .i64 pre.length ∧ (∀ l ∈ pre, p l = false) ∧ Ext w wr
set_option maxRecDepth 100000 in
theorem idxLease_any (W : World) (pv : Option Addr) (L cv b : Nat) (ls : List Ls) (r k i : Int) (hL : Hid (L = ls.length)) (hb : (L : Int) ≤ 1000) (hown : W.ownsRow 0 56 6 (.slice pv L cv) L (flatL ls)) (h : BoxT W b r k i) :
    Calls Try.prog 31 #[.slice pv L cv, .func (.func 32) #[] #[.pointer (some ⟨b, 0, none⟩)]] W fun e W' => e = .returned (.int .i64 (firstAt (isL · r k i) ls)) ∧ Ext W W' := by
    go_enter Try.func31, Try.ntmps31
    go_wp2_with fail
    go_loopw [8] (fun v wr => IxRel W L (.slice pv L cv) ls ((isL · r k i)) v wr) (fun v _ => ((L : Int) + 1 - intOf v).toNat)
    case atStart => exact ⟨[], ls, rfl, rfl, by simp, Ext.refl _⟩
    case round =>
      obtain ⟨pre, post, hx, rfl, hno, hE⟩ := hrel
      have hlen := hL.out
      cases post with
      | nil =>
        have hx' : ls = pre := by simpa using hx
        subst hx'
        have HN := Lib.hid hno
        have hl2 : ¬ ((ls.length : Int) < L) := by omega
        clear hno hx hlen
        go_wp2_with fail
        go_ret
        exact ⟨by rw [firstAt_none HN.out]; rfl, hE⟩
      | cons l post =>
        subst hx
        have hl : (pre.length : Int) < L := by rw [hlen]; simp; omega
        have hown' := ownsRow_ext hown hE
        obtain ⟨g, rfl, -, hg, x0, x1, x2, x3, x4, x5⟩ := lease_at hlen hown'
        have HN := Lib.hid hno
        have HL := Lib.hid hlen
        clear hno hlen hown'
        obtain ⟨pl, hpl⟩ : ∃ b, (isL l r k i) = b := ⟨_, rfl⟩
        have HB := Lib.hid hpl
        have hcl := leaseF_any wr b r k i l (h.ext hE)
        rw [hpl] at hcl
        unfold lsV at hcl
        clear hpl
        go_wp2_with fail
        refine hcl.mono ?_
        rintro e w1 ⟨rfl, hE1⟩
        clear x0 x1 x2 x3 x4 x5 hcl
        cases pl with
        | true =>
          go_wp2_with fail
          go_ret
          exact ⟨by rw [firstAt_some HN.out HB.out]; rfl, hE.trans hE1⟩
        | false =>
          go_wp2_with fail
          refine ⟨⟨pre ++ [l], post, by simp, by simp, ?_, hE.trans hE1⟩, by have := HL.out; simp [intOf] at *; omega⟩
          intro x hx
          rcases List.mem_append.1 hx with h | h
          · exact HN.out x h
          · simp at h; subst h; exact HB.out

/-- the place of a task that somebody has -/
theorem lease_any (W : World) (m : Nat) (s : MS) (F : Nat → Prop) (r k i : Int) (h : mP m s W F) :
    Calls Try.prog 18 #[.pointer (some ⟨m, 0, none⟩), taskV r k i] W fun e W' => e = .returned (.int .i64 (firstAt (isL · r k i) s.ls)) ∧ Ext W W' := by
  have hln := mP_ln h
  have hm := mP_m h
  obtain ⟨Fq, lv, hR, rfl⟩ := h
  have hc := hR.lcell
  have hown := hR.own
  obtain ⟨pv, cv, rfl⟩ := ownsRow_slice hown
  obtain ⟨L, hL⟩ : ∃ L, Hid (L = s.ls.length) := ⟨_, Lib.hid rfl⟩
  rw [← hL.out] at hown hc
  have hE := ext_alloc W (.cells #[.int .i64 r, .int .i64 k, .int .i64 i] 43)
  have hbx := BoxT.new W r k i 43
  have hb : (L : Int) ≤ 1000 := by have := hL.out; omega
  go_enter Try.func18, Try.ntmps18
  go_wp2_with fail
  refine (idxLease_any _ pv L cv _ s.ls r k i hL hb (ownsRow_ext hown hE) hbx).mono ?_
  rintro e w1 ⟨rfl, hE1⟩
  go_wp2_with fail
  go_ret
  exact ⟨rfl, hE.trans hE1⟩
end Go.Proofs.Ytadmfoglajhdcaa
