/- A disk: what it is, and how it lies in memory among things of a law's own. -/
import Derived.Test.YthghflfgldcmbaaRows
import Derived.Test.YthghflfgldcmbaaDKit
namespace Go.Proofs.Ythghflfgldcmbaa
set_option maxRecDepth 4000
set_option linter.unusedVariables false
set_option linter.unusedSimpArgs false
open Go Go.RowKit Go.MapKept Go.ChangeMaps
/-- a disk: how many sectors; which bytes are sure; which are pending; is the power gone; the fuse -/
structure DS where
  n : Nat
  sure : Nat → List UInt8
  pend : Nat → Option (List UInt8)
  down : Bool
  fuse : Int
structure DS.Ok (s : DS) : Prop where
  n : s.n ≤ 4096
  f1 : -1 ≤ s.fuse
  f2 : s.fuse ≤ 9223372036854775807
/-- a sector's bytes in a row of their own -/
def secA (x : Value × List UInt8) : Asr := rowA 5 1 x.1 128 (u8s x.2)
theorem secA_loc (x : Value × List UInt8) : Loc (secA x) := rowA_loc _ _ _ _ _
/-- how a disk lies -/
structure DR where
  wr : Int
  fl : Int
  sv : Value
  mb : Nat
  X : List (Value × List UInt8)
  P : List Pe
  clock : Nat
def DR.cells (r : DR) (dn : Bool) (fu : Int) : Array Value := #[.int .i64 r.wr, .int .i64 r.fl, r.sv, .map (some r.mb), .bool dn, .int .i64 fu]
def DR.head (d : Nat) (r : DR) (s : DS) : Asr := blkA d 55 (r.cells s.down s.fuse)
def DR.rowS (r : DR) (n : Nat) : Asr := rowA 36 1 r.sv n (r.X.map (·.1))
def DR.mapS (r : DR) : Asr := objA r.mb (.map (ents r.P) r.clock)
def secsA (P : List Pe) : List Asr := P.map fun p => secA (p.v, p.l)
def DR.rest (r : DR) (n : Nat) : List Asr := r.rowS n :: r.mapS :: (r.X.map secA ++ secsA r.P)
def DR.things (d : Nat) (r : DR) (s : DS) : List Asr := r.head d s :: r.rest s.n
structure DR.Fits (r : DR) (s : DS) : Prop where
  n : r.X.length = s.n
  sure : ∀ i, i < s.n → r.X[i]?.map (·.2) = some (s.sure i)
  ok : PeOk r.P r.clock
  key : ∀ p ∈ r.P, 0 ≤ p.k ∧ p.k < s.n
  pend : ∀ i : Nat, s.pend i = (lookP r.P (i : Int)).map (·.l)
theorem secs_locs (X : List (Value × List UInt8)) (P : List Pe) : Locs (X.map secA ++ secsA P) := (Locs.map _ secA_loc X).append (Locs.map (fun p : Pe => secA (p.v, p.l)) (fun p => secA_loc (p.v, p.l)) P)
theorem DR.rest_locs (r : DR) (n : Nat) : Locs (r.rest n) := .cons (rowA_loc _ _ _ _ _) (.cons (objA_loc _ _) (secs_locs _ _))
theorem DR.things_locs (d : Nat) (r : DR) (s : DS) : Locs (r.things d s) := .cons (blkA_loc _ _ _) (r.rest_locs _)
/-- a disk of the law's own beside other things -/
def dkH (w W : World) (d : Nat) (s : DS) (ps : List Asr) : Prop := s.Ok ∧ ∃ r : DR, r.Fits s ∧ Has w W (r.things d s ++ ps)
section
variable {w W W' : World} {d : Nat} {s : DS} {ps qs : List Asr}
theorem dkH.base (h : dkH w W d s ps) : Ext w W := by obtain ⟨_, r, _, h⟩ := h; exact h.base
theorem dkH.ext (h : dkH w W d s ps) (hl : Locs ps) (hE : Ext W W') : dkH w W' d s ps := by
  obtain ⟨h0, r, h1, h2⟩ := h
  exact ⟨h0, r, h1, h2.ext ((r.things_locs d s).append hl) hE⟩
theorem dkH.rest (h : dkH w W d s ps) : Has w W ps := by obtain ⟨_, r, _, h⟩ := h; exact h.dropA
theorem dkH.perm (h : dkH w W d s ps) (hp : ps.Perm qs) : dkH w W d s qs := by
  obtain ⟨h0, r, h1, h2⟩ := h
  exact ⟨h0, r, h1, h2.perm (List.Perm.append_left _ hp)⟩
theorem dkH.drop {p : Asr} (h : dkH w W d s (p :: ps)) : dkH w W d s ps := by
  obtain ⟨h0, r, h1, h2⟩ := h
  exact ⟨h0, r, h1, h2.front.drop⟩
/-- a new thing beside the disk -/
theorem dkH.with_ {p : Asr} (h : dkH w W d s ps) (hf : ∀ {qs : List Asr}, Locs qs → Has w W qs → Has w W' (p :: qs)) (hl : Locs ps) : dkH w W' d s (p :: ps) := by
  obtain ⟨h0, r, h1, h2⟩ := h
  exact ⟨h0, r, h1, (hf ((r.things_locs d s).append hl) h2).back⟩
theorem dkH.new (h : dkH w W d s ps) (hl : Locs ps) (T : TypeId) (cs : Array Value) : dkH w (W.alloc (.cells cs T)) d s (blkA W.heap.size T cs :: ps) :=
  h.with_ (fun hl h => h.new hl T cs) hl
theorem dkH.fresh {e : TypeId} {sz n : Nat} {v : Value} {xs : List Value} (h : dkH w W d s ps) (hl : Locs ps) (hE : Ext W W') (hown : W'.ownsRow W.heap.size e sz v n xs) : dkH w W' d s (rowA e sz v n xs :: ps) :=
  h.with_ (fun hl h => h.fresh hl hE hown) hl
/-- the first thing beside the disk turns -/
theorem dkH.turn {p q : Asr} (h : dkH w W d s (p :: ps)) (hf : ∀ {qs : List Asr}, Locs qs → Has w W (p :: qs) → Has w W' (q :: qs)) (hl : Locs ps) : dkH w W' d s (q :: ps) := by
  obtain ⟨h0, r, h1, h2⟩ := h
  exact ⟨h0, r, h1, (hf ((r.things_locs d s).append hl) h2.front).back⟩
theorem dkH.blkD (h : dkH w W d s ps) : ∃ wr fl sv mb, Blk W d 55 #[.int .i64 wr, .int .i64 fl, sv, .map (some mb), .bool s.down, .int .i64 s.fuse] := by
  obtain ⟨_, r, _, h2⟩ := h
  exact ⟨r.wr, r.fl, r.sv, r.mb, h2.blk0⟩
end
/-! ### the small ones -/
def DS.setF (s : DS) (dn : Bool) (fu : Int) : DS := { s with down := dn, fuse := fu }
/-- the head alone turns -/
theorem dkH.head_ {w W' : World} {d : Nat} {s : DS} {ps : List Asr} {r : DR} (wr fl : Int) (dn : Bool) (fu : Int) (ho : (s.setF dn fu).Ok) (h1 : r.Fits s) (h : Has w W' (blkA d 55 ({ r with wr := wr, fl := fl : DR }.cells dn fu) :: (r.rest s.n ++ ps))) : dkH w W' d (s.setF dn fu) ps :=
  ⟨ho, { r with wr := wr, fl := fl }, ⟨h1.n, h1.sure, h1.ok, h1.key, h1.pend⟩, h⟩
theorem DS.setF_same (s : DS) : s.setF s.down s.fuse = s := rfl
theorem sectors_any {w W : World} {d : Nat} {s : DS} {ps : List Asr} (h : dkH w W d s ps) : Calls Try.prog 24 #[.pointer (some ⟨d, 0, none⟩)] W fun e W' => e = .returned (.int .i64 s.n) ∧ W = W' := by
  obtain ⟨h0, r, h1, h2⟩ := h
  have hb := h2.blk0
  have c0 := Blk.cell hb 0
  have c1 := Blk.cell hb 1
  have c2 := Blk.cell hb 2
  have c3 := Blk.cell hb 3
  have c4 := Blk.cell hb 4
  have c5 := Blk.cell hb 5
  have f0 := Blk.frozen hb 0
  have f1 := Blk.frozen hb 1
  have f4 := Blk.frozen hb 4
  have f5 := Blk.frozen hb 5
  have hdl := Blk.lt hb
  simp only [DR.cells, List.getElem?_toArray, List.getElem?_cons_zero, List.getElem?_cons_succ] at c0 c1 c2 c3 c4 c5
  have hr := (h2.owned (e := 36) (size := 1) (v := r.sv) (n := s.n) (xs := r.X.map (·.1)) (by simp [DR.things, DR.rest, DR.rowS])).1
  obtain ⟨p, c, hsv⟩ := ownsRow_slice hr
  rw [hsv] at c2
  go_enter Try.func24, Try.ntmps24
  go_wp2
  go_ret
  exact ⟨rfl, rfl⟩
theorem fuse_any {w W : World} {d : Nat} {s : DS} {ps : List Asr} (h : dkH w W d s ps) (hl : Locs ps) (n : Int) (hn1 : -9223372036854775808 ≤ n) (hn2 : n ≤ 9223372036854775807) : Calls Try.prog 8 #[.pointer (some ⟨d, 0, none⟩), .int .i64 n] W fun e W' => e = .returned (.tuple #[]) ∧ dkH w W' d (s.setF s.down (max n (-1))) ps := by
  obtain ⟨h0, r, h1, h2⟩ := h
  have hb := h2.blk0
  have c0 := Blk.cell hb 0
  have c1 := Blk.cell hb 1
  have c2 := Blk.cell hb 2
  have c3 := Blk.cell hb 3
  have c4 := Blk.cell hb 4
  have c5 := Blk.cell hb 5
  have f0 := Blk.frozen hb 0
  have f1 := Blk.frozen hb 1
  have f4 := Blk.frozen hb 4
  have f5 := Blk.frozen hb 5
  have hdl := Blk.lt hb
  simp only [DR.cells, List.getElem?_toArray, List.getElem?_cons_zero, List.getElem?_cons_succ] at c0 c1 c2 c3 c4 c5
  go_enter Try.func8, Try.ntmps8
  go_wp2
  all_goals
    go_end0
    refine ⟨rfl, ?_⟩
    have h3 := h2.set ((r.rest_locs _).append hl) 5 (.int .i64 (max n (-1)))
    have h4 := dkH.head_ r.wr r.fl s.down (max n (-1)) ⟨h0.n, by show _ ≤ max n (-1); omega, by show max n (-1) ≤ _; omega⟩ h1 h3
  · rw [show max n (-1) = -1 by omega] at h4 ⊢
    exact h4
  · rw [show max n (-1) = n by omega] at h4 ⊢
    exact h4
/-- may something more be done? -/
def DS.burnt (s : DS) : DS := if s.fuse < 0 then s else if s.fuse = 0 then s.setF true (-1) else s.setF s.down (s.fuse - 1)
def DS.burns (s : DS) : Bool := decide (s.fuse ≠ 0)
theorem DS.Ok.setF {s : DS} (h : s.Ok) (dn : Bool) {fu : Int} (h1 : -1 ≤ fu) (h2 : fu ≤ 9223372036854775807) : (s.setF dn fu).Ok := ⟨h.n, h1, h2⟩
theorem burn_any {w W : World} {d : Nat} {s : DS} {ps : List Asr} (h : dkH w W d s ps) (hl : Locs ps) : Calls Try.prog 47 #[.pointer (some ⟨d, 0, none⟩)] W fun e W' => e = .returned (.bool s.burns) ∧ dkH w W' d s.burnt ps := by
  have hh := h
  obtain ⟨h0, r, h1, h2⟩ := h
  have hb := h2.blk0
  have c0 := Blk.cell hb 0
  have c1 := Blk.cell hb 1
  have c2 := Blk.cell hb 2
  have c3 := Blk.cell hb 3
  have c4 := Blk.cell hb 4
  have c5 := Blk.cell hb 5
  have f0 := Blk.frozen hb 0
  have f1 := Blk.frozen hb 1
  have f4 := Blk.frozen hb 4
  have f5 := Blk.frozen hb 5
  have hdl := Blk.lt hb
  simp only [DR.cells, List.getElem?_toArray, List.getElem?_cons_zero, List.getElem?_cons_succ] at c0 c1 c2 c3 c4 c5
  have b1 := h0.f1
  have b2 := h0.f2
  unfold DS.burnt DS.burns
  rcases (show s.fuse < 0 ∨ s.fuse = 0 ∨ 0 < s.fuse by omega) with hf | hf | hf
  · rw [if_pos hf, show decide (s.fuse ≠ 0) = true from decide_eq_true (by omega)]
    go_enter Try.func47, Try.ntmps47
    go_wp2
    go_ret
    exact ⟨rfl, hh⟩
  · rw [if_neg (by omega), if_pos hf, show decide (s.fuse ≠ 0) = false from decide_eq_false (by omega)]
    rw [hf] at c5
    clear hh
    go_enter Try.func47, Try.ntmps47
    go_wp2
    go_ret
    exact ⟨rfl, dkH.head_ r.wr r.fl true (-1) (h0.setF _ (by omega) (by omega)) h1 ((h2.set ((r.rest_locs _).append hl) 4 (.bool true)).set ((r.rest_locs _).append hl) 5 (.int .i64 (-1)))⟩
  · rw [if_neg (by omega), if_neg (by omega), show decide (s.fuse ≠ 0) = true from decide_eq_true (by omega)]
    have g1 : (s.fuse == 0) = false := by simpa using show s.fuse ≠ 0 by omega
    clear hh
    go_enter Try.func47, Try.ntmps47
    go_wp2
    go_ret
    exact ⟨rfl, dkH.head_ r.wr r.fl s.down (s.fuse - 1) (h0.setF _ (by omega) (by omega)) h1 (h2.set ((r.rest_locs _).append hl) 5 (.int .i64 (s.fuse - 1)))⟩
end Go.Proofs.Ythghflfgldcmbaa
