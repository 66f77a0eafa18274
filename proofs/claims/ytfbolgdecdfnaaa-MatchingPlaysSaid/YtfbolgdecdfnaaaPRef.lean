/- The document's matches: rows of tasks that wait, and of leases; known and count. -/
import Derived.Test.YtfbolgdecdfnaaaMOne
import Derived.Deep.LoopGhost
namespace Go.Proofs.Ytfbolgdecdfnaaa
set_option maxRecDepth 4000
set_option linter.unusedVariables false
set_option linter.unusedSimpArgs false
open Go Go.RowKit Go.Maps Go.ChangeMaps Go.MapKept
/-- a task that waits, for whom and since when -/
structure Hd where
  run : Int
  kind : Int
  id : Int
  worker : Int
  since : Int
def hdC (h : Hd) : List Value := [.int .i64 h.run, .int .i64 h.kind, .int .i64 h.id, .int .i64 h.worker, .int .i64 h.since]
def flatH (hs : List Hd) : List Value := hs.flatMap hdC
theorem flatH_nil : flatH [] = [] := rfl
theorem flatH_append (a b : List Hd) : flatH (a ++ b) = flatH a ++ flatH b := by simp [flatH]
theorem flatH_cons (l : Hd) (r : List Hd) : flatH (l :: r) = hdC l ++ flatH r := rfl
theorem flatH_length (hs : List Hd) : (flatH hs).length = hs.length * 5 := by
  induction hs with
  | nil => rfl
  | cons l ls ih => rw [flatH_cons, List.length_append, ih]; simp [hdC]; omega
theorem flatH_one {hs : List Hd} : ∀ u ∈ flatH hs, u.oneCell' = true := by
  intro u hu
  simp only [flatH, List.mem_flatMap] at hu
  obtain ⟨l, _, hu⟩ := hu
  simp [hdC] at hu
  rcases hu with rfl | rfl | rfl | rfl | rfl <;> rfl
theorem hdC_one (h : Hd) : ∀ u ∈ hdC h, u.oneCell' = true := by
  intro u hu
  simp [hdC] at hu
  rcases hu with rfl | rfl | rfl | rfl | rfl <;> rfl
def zeroH : Hd := ⟨0, 0, 0, 0, 0⟩
def hdA (h : Hd) : Array Value := #[.int .i64 h.run, .int .i64 h.kind, .int .i64 h.id, .int .i64 h.worker, .int .i64 h.since]
theorem hdInfo5 : (Try.prog.info? 95).map (fun i => (i.zero, i.size, i.bytes)) = some (some (.agg (hdA zeroH)), 5, 40) := by kernel_rfl
structure HCells (w : World) (g o : Nat) (l : Hd) : Prop where
  c0 : w.cell? ⟨g, o, none⟩ = some (.int .i64 l.run)
  c1 : w.cell? ⟨g, o + 1, none⟩ = some (.int .i64 l.kind)
  c2 : w.cell? ⟨g, o + 2, none⟩ = some (.int .i64 l.id)
  c3 : w.cell? ⟨g, o + 3, none⟩ = some (.int .i64 l.worker)
  c4 : w.cell? ⟨g, o + 4, none⟩ = some (.int .i64 l.since)
theorem held_at {w : World} {base L : Nat} {p : Option Addr} {c : Nat} {pre post : List Hd} {l : Hd} (hL : L = (pre ++ l :: post).length) (h : w.ownsRow base 95 5 (.slice p L c) L (flatH (pre ++ l :: post))) :
    ∃ g, p = some ⟨g, 0, none⟩ ∧ base ≤ g ∧ g < w.heap.size ∧ HCells w g (pre.length * 5) l := by
  rcases h.2 with ⟨_, h0⟩ | ⟨g, cap, cur, hv, _⟩
  · simp at hL; omega
  · have hlt := h.lt g (by rw [hv]; rfl)
    have hc := h.cells (g := g) (by rw [hv]; rfl)
    injection hv with h1 h2 h3
    have key : ∀ j u, (hdC l)[j]? = some u → w.cell? ⟨g, pre.length * 5 + j, none⟩ = some u := fun j u hj => by
      have fl := flatH_length pre
      rw [flatH_append, flatH_cons] at hc
      have := hc (pre.length * 5 + j) u (by
        rw [List.getElem?_append_right (by omega), fl, show pre.length * 5 + j - pre.length * 5 = j by omega, List.getElem?_append_left (by have := (List.getElem?_eq_some_iff.1 hj).1; exact this)]
        exact hj)
      rw [Go.WideShapes.add_plain] at this
      simpa using this
    exact ⟨g, h1, hlt.1, hlt.2, key 0 _ rfl, key 1 _ rfl, key 2 _ rfl, key 3 _ rfl, key 4 _ rfl⟩
/-- the document's rows -/
structure RRows (W : World) (vw : Value) (ws : List Hd) (vl : Value) (ls : List Ls) : Prop where
  w : W.ownsRow 0 95 5 vw ws.length (flatH ws)
  l : W.ownsRow 0 46 6 vl ls.length (flatL ls)
theorem RRows.ext {W W' : World} {vw vl : Value} {ws : List Hd} {ls : List Ls} (h : RRows W vw ws vl ls) (hE : Ext W W') : RRows W' vw ws vl ls := ⟨ownsRow_ext h.w hE, ownsRow_ext h.l hE⟩
abbrev rwV (vw vl : Value) (t : Int) : Value := .agg #[vw, vl, .int .u64 t]
def isH (h : Hd) (r k i : Int) : Bool := h.run == r && h.kind == k && h.id == i
theorem isH_iff {h : Hd} {r k i : Int} : isH h r k i = true ↔ h.run = r ∧ h.kind = k ∧ h.id = i := by simp [isH, and_assoc]
def rknown (ws : List Hd) (ls : List Ls) (r k i : Int) : Bool := ws.any (isH · r k i) || ls.any (isL · r k i)
def rcount (ws : List Hd) (z : Int) : Nat := ws.countP (fun h => h.worker == z)
def RkRel (w : World) (ws : List Hd) (r k i : Int) (v : Value) (wr : World) : Prop :=
  ∃ pre post, ws = pre ++ post ∧ v = .int .i64 pre.length ∧ (∀ h ∈ pre, isH h r k i = false) ∧ Ext w wr
def RkRel2 (w : World) (ls : List Ls) (r k i : Int) (v : Value) (wr : World) : Prop :=
  ∃ pre post, ls = pre ++ post ∧ v = .int .i64 pre.length ∧ (∀ h ∈ pre, isL h r k i = false) ∧ Ext w wr
set_option maxRecDepth 100000 in
set_option maxHeartbeats 4000000 in
theorem rknown_any (W : World) (vw vl : Value) (t : Int) (ws : List Hd) (ls : List Ls) (r k i : Int) (h : RRows W vw ws vl ls) (hw : ws.length ≤ 1000) (hl : ls.length ≤ 1000) :
    Calls Try.prog 26 #[rwV vw vl t, taskV r k i] W fun e W' => e = .returned (.bool (rknown ws ls r k i)) ∧ Ext W W' := by
  obtain ⟨kn, hkn⟩ : ∃ b, rknown ws ls r k i = b := ⟨_, rfl⟩
  rw [hkn]
  have HKN := Lib.hid hkn
  clear hkn
  have hX := hm_blk (hm_blk (Has.nil (Ext.refl W)) .nil 65 #[vw, vl, .int .u64 t]) (by repeat first | exact Locs.nil | refine Locs.cons (mP_loc _ _) ?_ | refine Locs.cons (blkA_loc _ _ _) ?_ | refine Locs.cons (rowA_loc _ _ _ _ _) ?_) 42 #[.int .i64 r, .int .i64 k, .int .i64 i]
  rw [show (W.alloc (.cells #[vw, vl, .int .u64 t] 65)).heap.size = W.heap.size + 1 by simp] at hX
  obtain ⟨pw, cw, rfl⟩ := ownsRow_slice h.w
  obtain ⟨pl, cl, rfl⟩ := ownsRow_slice h.l
  obtain ⟨L, hL⟩ : ∃ n, ws.length = n := ⟨_, rfl⟩
  obtain ⟨M, hM⟩ : ∃ n, ls.length = n := ⟨_, rfl⟩
  obtain ⟨hrw, hrl⟩ := h
  rw [hL] at hX hrw hw ⊢
  rw [hM] at hX hrl hl ⊢
  have HL := Lib.hid hL
  have HM := Lib.hid hM
  clear hL hM
  go_enter Try.func26, Try.ntmps26
  go_upto_region 1 with fail
  generalize hw0 : World.alloc (World.alloc W _) _ = w1 at *
  generalize W.heap.size = bx at *
  clear hw0
  have hbw := hX.blk (g := bx) (T := 65) (cs := #[.slice pw L cw, .slice pl M cl, .int .u64 t]) (by simp)
  have hbt := hX.blk (g := bx + 1) (T := 42) (cs := #[.int .i64 r, .int .i64 k, .int .i64 i]) (by simp)
  have a0 : w1.cell? ⟨bx, 0, none⟩ = some (.slice pw L cw) := hbw.cell 0
  have HXB := Lib.hid hX.base
  go_wp2_with fail
  clear a0
  go_loopw [12] (fun v wr => RkRel w1 ws r k i v wr) (fun v _ => ((L : Int) + 1 - intOf v).toNat)
  case atStart => exact ⟨[], ws, rfl, rfl, by simp, Ext.refl _⟩
  case round =>
    obtain ⟨pre, post, hx, rfl, hno, hE⟩ := hrel
    cases post with
    | nil =>
      obtain rfl : ws = pre := by simpa using hx
      have hl2 : ¬ ((ws.length : Int) < L) := by rw [← HL.out]; omega
      have HNO := Lib.hid hno
      clear hx hno
      have a1 : wr.cell? ⟨bx, 1, none⟩ = some (.slice pl M cl) := (hE.cell _ _ hbw.lt).trans (hbw.cell 1)
      have hb1 : bx < wr.heap.size := Nat.lt_of_lt_of_le hbw.lt hE.le
      obtain ⟨wo, hwo⟩ : ∃ wo : World, wo = wr := ⟨_, rfl⟩
      rw [← hwo] at hE a1 hb1 ⊢
      clear hwo
      go_wp2_with fail
      clear a1
      go_loopw [24] (fun v wr => RkRel2 w1 ls r k i v wr) (fun v _ => ((M : Int) + 1 - intOf v).toNat)
      case atStart => exact ⟨[], ls, rfl, rfl, by simp, hE⟩
      case round =>
        clear hE hb1
        obtain ⟨pre, post, hx, rfl, hno, hE⟩ := hrel
        cases post with
        | nil =>
          obtain rfl : ls = pre := by simpa using hx
          have hl3 : ¬ ((ls.length : Int) < M) := by rw [← HM.out]; omega
          have HNO2 := Lib.hid hno
          clear hx hno
          go_wp2_with fail
          go_ret
          refine ⟨?_, hX.base.trans hE⟩
          have : kn = false := by
            rw [← HKN.out, rknown, List.any_eq_false.2 (fun x hx => by rw [HNO.out x hx]; decide), List.any_eq_false.2 (fun x hx => by rw [HNO2.out x hx]; decide)]; rfl
          rw [this]; rfl
        | cons x post =>
          have hl3 : (pre.length : Int) < M := by rw [← HM.out, hx]; simp; omega
          have hrl' := ownsRow_ext (ownsRow_ext hrl hX.base) hE
          rw [hx] at hrl'
          obtain ⟨g, rfl, -, hg, x0, x1, x2, x3, x4, x5⟩ := lease_at (by rw [← HM.out, hx]) hrl'
          have HX := Lib.hid hx
          have HNO2 := Lib.hid hno
          clear hx hno hrl'
          obtain ⟨xt, xr, xk, xi, xw, xu⟩ := x
          have c0 : wr.cell? ⟨bx + 1, 0, none⟩ = some (.int .i64 r) := (hE.cell _ _ hbt.lt).trans (hbt.cell 0)
          have c1 : wr.cell? ⟨bx + 1, 1, none⟩ = some (.int .i64 k) := (hE.cell _ _ hbt.lt).trans (hbt.cell 1)
          have c2 : wr.cell? ⟨bx + 1, 2, none⟩ = some (.int .i64 i) := (hE.cell _ _ hbt.lt).trans (hbt.cell 2)
          have hb2 : bx + 1 < wr.heap.size := Nat.lt_of_lt_of_le hbt.lt hE.le
          clear hX hbt hbw
          go_wp2_with fail
          · go_ret
            refine ⟨?_, Ext.trans HXB.out (hE.trans (ext_alloc _ _))⟩
            have : kn = true := by
              rw [← HKN.out, rknown, HX.out, List.any_append, List.any_cons, isL_iff.2 ⟨by assumption, by assumption, by assumption⟩]; simp
            rw [this]; rfl
          all_goals
            refine ⟨⟨pre ++ [⟨xt, xr, xk, xi, xw, xu⟩], post, by rw [HX.out]; simp, by simp, ?_, hE.trans (ext_alloc _ _)⟩, by simp [intOf]; omega⟩
            intro h hh
            rcases List.mem_append.1 hh with h1 | h1
            · exact HNO2.out h h1
            · simp at h1; subst h1; simp_all [isL]
    | cons x post =>
      have hl2 : (pre.length : Int) < L := by rw [← HL.out, hx]; simp; omega
      have hrw' := ownsRow_ext (ownsRow_ext hrw hX.base) hE
      rw [hx] at hrw'
      obtain ⟨g, rfl, -, hg, x0, x1, x2, x3, x4⟩ := held_at (by rw [← HL.out, hx]) hrw'
      have HX := Lib.hid hx
      have HNO := Lib.hid hno
      clear hx hno hrw'
      obtain ⟨xr, xk, xi, xw, xs⟩ := x
      have c0 : wr.cell? ⟨bx + 1, 0, none⟩ = some (.int .i64 r) := (hE.cell _ _ hbt.lt).trans (hbt.cell 0)
      have c1 : wr.cell? ⟨bx + 1, 1, none⟩ = some (.int .i64 k) := (hE.cell _ _ hbt.lt).trans (hbt.cell 1)
      have c2 : wr.cell? ⟨bx + 1, 2, none⟩ = some (.int .i64 i) := (hE.cell _ _ hbt.lt).trans (hbt.cell 2)
      have hb2 : bx + 1 < wr.heap.size := Nat.lt_of_lt_of_le hbt.lt hE.le
      clear hX hbt hbw
      go_wp2_with fail
      · go_ret
        refine ⟨?_, Ext.trans HXB.out (hE.trans (ext_alloc _ _))⟩
        have : kn = true := by
          rw [← HKN.out, rknown, HX.out, List.any_append, List.any_cons, isH_iff.2 ⟨by assumption, by assumption, by assumption⟩]; simp
        rw [this]; rfl
      all_goals
        refine ⟨⟨pre ++ [⟨xr, xk, xi, xw, xs⟩], post, by rw [HX.out]; simp, by simp, ?_, hE.trans (ext_alloc _ _)⟩, by simp [intOf]; omega⟩
        intro h hh
        rcases List.mem_append.1 hh with h1 | h1
        · exact HNO.out h h1
        · simp at h1; subst h1; simp_all [isH]
def RcRel (w : World) (ws : List Hd) (z : Int) (v5 v : Value) (wr : World) : Prop :=
  ∃ pre post, ws = pre ++ post ∧ v = .int .i64 pre.length ∧ v5 = .int .i64 (rcount pre z) ∧ Ext w wr
set_option maxRecDepth 100000 in
set_option maxHeartbeats 4000000 in
theorem rcount_any (W : World) (vw vl : Value) (t : Int) (ws : List Hd) (ls : List Ls) (z : Int) (h : RRows W vw ws vl ls) (hw : ws.length ≤ 1000) :
    Calls Try.prog 40 #[rwV vw vl t, .int .i64 z] W fun e W' => e = .returned (.int .i64 (rcount ws z)) ∧ Ext W W' := by
  have hX := hm_blk (Has.nil (Ext.refl W)) .nil 65 #[vw, vl, .int .u64 t]
  obtain ⟨pw, cw, rfl⟩ := ownsRow_slice h.w
  obtain ⟨L, hL⟩ : ∃ n, ws.length = n := ⟨_, rfl⟩
  have hrw := h.w
  rw [hL] at hX hrw hw ⊢
  have HL := Lib.hid hL
  clear hL h
  go_enter Try.func40, Try.ntmps40
  go_upto_region 1 with fail
  generalize hw0 : World.alloc W _ = w1 at *
  generalize W.heap.size = bx at *
  clear hw0
  have hbw := hX.blk (g := bx) (T := 65) (cs := #[.slice pw L cw, vl, .int .u64 t]) (by simp)
  have a0 : w1.cell? ⟨bx, 0, none⟩ = some (.slice pw L cw) := hbw.cell 0
  go_wp2_with fail
  clear a0 hbw
  go_loopw [5, 11] (fun v5 v wr => RcRel w1 ws z v5 v wr) (fun _ v _ => ((L : Int) + 1 - intOf v).toNat)
  case atStart => exact ⟨[], ws, rfl, rfl, rfl, Ext.refl _⟩
  case round =>
    obtain ⟨pre, post, hx, rfl, rfl, hE⟩ := hrel
    cases post with
    | nil =>
      obtain rfl : ws = pre := by simpa using hx
      have hl2 : ¬ ((ws.length : Int) < L) := by rw [← HL.out]; omega
      clear hx
      go_wp2_with fail
      go_ret
      exact ⟨rfl, hX.base.trans hE⟩
    | cons x post =>
      have hl2 : (pre.length : Int) < L := by rw [← HL.out, hx]; simp; omega
      have hrw' := ownsRow_ext (ownsRow_ext hrw hX.base) hE
      rw [hx] at hrw'
      obtain ⟨g, rfl, -, hg, x0, x1, x2, x3, x4⟩ := held_at (by rw [← HL.out, hx]) hrw'
      have HX := Lib.hid hx
      have hcn : rcount pre z ≤ pre.length := List.countP_le_length
      have hs1 : ∀ x, rcount (pre ++ [x]) z = rcount pre z + (if x.worker = z then 1 else 0) := fun x => by
        unfold rcount
        rw [List.countP_append, List.countP_singleton]; simp
      have HS := Lib.hid hs1
      clear hx hrw' hs1
      obtain ⟨xr, xk, xi, xw, xs⟩ := x
      generalize rcount pre z = n at *
      by_cases hz : xw = z
      · have hzb : (xw == z) = true := by simpa using hz
        have HZ := Lib.hid hz
        clear hz hX
        go_wp2_with fail
        refine ⟨⟨pre ++ [⟨xr, xk, xi, xw, xs⟩], post, by rw [HX.out]; simp, by simp, ?_, hE.trans (ext_alloc _ _)⟩, by simp [intOf]; omega⟩
        rw [HS.out, if_pos HZ.out]; simp
      · have hzb : (xw == z) = false := by simpa using hz
        have HZ := Lib.hid hz
        clear hz hX
        go_wp2_with fail
        refine ⟨⟨pre ++ [⟨xr, xk, xi, xw, xs⟩], post, by rw [HX.out]; simp, by simp, ?_, hE.trans (ext_alloc _ _)⟩, by simp [intOf]; omega⟩
        rw [HS.out, if_neg HZ.out]; simp
end Go.Proofs.Ytfbolgdecdfnaaa
