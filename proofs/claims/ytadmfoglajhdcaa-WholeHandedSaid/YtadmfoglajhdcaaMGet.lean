/- The walk of a match's Get. -/
import Derived.Test.YtadmfoglajhdcaaMPoll
namespace Go.Proofs.Ytadmfoglajhdcaa
set_option linter.unusedVariables false
set_option linter.unusedSimpArgs false
open Go Go.RowKit Go.Maps Go.ChangeMaps Go.MapKept
def MS.get (s : MS) (tok now : Int) : Option Ls := s.ls.find? fun l => l.tok == tok && decide (now < l.until_)
def getL (s : MS) (tok now : Int) : Ls := (s.get tok now).getD zeroL
def getE (s : MS) (tok now : Int) : Int := if (s.get tok now).isSome = true then 0 else 210
def GRel (w : World) (ls : List Ls) (tok now : Int) (v : Value) (wr : World) : Prop :=
  ∃ pre post, ls = pre ++ post ∧ v = .int .i64 pre.length ∧ (∀ l ∈ pre, (l.tok == tok && decide (now < l.until_)) = false) ∧ Ext w wr
set_option maxRecDepth 100000 in
set_option maxHeartbeats 4000000 in
theorem get_any (W : World) (m : Nat) (s : MS) (F : Nat → Prop) (tok now : Int) (h : mP m s W F) :
    Calls Try.prog 27 #[.pointer (some ⟨m, 0, none⟩), .int .u64 tok, .int .i64 now] W fun e W' => e = .returned (.tuple #[lsV (getL s tok now), .int .i64 (getE s tok now)]) ∧ Ext W W' := by
  have hm := mP_m h
  have hln := mP_ln h
  obtain ⟨Fq, lv, hR, rfl⟩ := h
  have hc := hR.lcell
  have hown := hR.own
  obtain ⟨pv, cv, rfl⟩ := ownsRow_slice hown
  obtain ⟨L, hL⟩ : ∃ L, Hid (L = s.ls.length) := ⟨_, Lib.hid rfl⟩
  rw [← hL.out] at hown hc
  have hLb : (L : Int) ≤ 256 := by have := hL.out; omega
  have hE0 := ext_alloc W (.cells (lsA zeroL) 56)
  have hbr := Blk.new W 56 (lsA zeroL)
  go_enter Try.func27, Try.ntmps27
  go_upto_region 1 with fail
  refine gen_world' (fun X => Ext W X ∧ Blk X W.heap.size 56 (lsA zeroL)) ⟨hE0, hbr⟩ ?_
  clear hE0 hbr
  rintro w ⟨hE0, hbr⟩
  obtain ⟨br, hbrn⟩ : ∃ b, b = W.heap.size := ⟨_, rfl⟩
  rw [← hbrn] at hbr ⊢
  have HBR := Lib.hid hbrn
  have hc1 := (hE0.cell m 196 hm).trans hc
  have hown1 := ownsRow_ext hown hE0
  clear hbrn hc hown hR
  go_wp2_with fail
  clear hc1
  go_loopw [15] (fun v wr => GRel w s.ls tok now v wr) (fun v _ => ((L : Int) + 1 - intOf v).toNat)
  case atStart => exact ⟨[], s.ls, rfl, rfl, by simp, Ext.refl _⟩
  case round =>
    obtain ⟨pre, post, hx, rfl, hno, hE2⟩ := hrel
    have hlen := hL.out
    cases post with
    | nil =>
      have hx' : s.ls = pre := by simpa using hx
      have hl2 : ¬ ((pre.length : Int) < L) := by rw [hlen, hx']; omega
      have HF : Hid (s.get tok now = none) := Lib.hid (by unfold MS.get; rw [hx', List.find?_eq_none]; intro x hxm; simp only [hno x hxm]; simp)
      have hbr2 := hbr.of_eq (hE2.block br hbr.lt)
      clear hno hx hlen hx'
      go_wp2_with (refine wpList_store_row rfl _ _ _ rfl br (lsA zeroL) rfl rfl _ _ hbr2 (leaseInfo' zeroL) rfl (lsA_all _) ?_)
      have hbr' := setRow_blk (cs := lsA zeroL) hbr2
      refine bodyPost_ret (v := .tuple #[lsV zeroL, .int .i64 210]) (results_cell2 Try.results27 _ _ br 56 (lsA zeroL) _ _ rfl hbr' Try.underlying56 rfl (leaseInfo' _)) rfl ⟨by rw [getL, getE, HF.out]; rfl, setRow_ext' (hE0.trans hE2) (Nat.le_of_eq HBR.out.symm)⟩
    | cons l post =>
      have hl : (pre.length : Int) < L := by rw [hlen, hx]; simp; omega
      have hown' := ownsRow_ext hown1 hE2
      rw [hx] at hown' hlen
      obtain ⟨g, rfl, -, hg, x0, x1, x2, x3, x4, x5⟩ := lease_at hlen hown'
      have HN := Lib.hid hno
      have HL := Lib.hid hlen
      have HX := Lib.hid hx
      clear hno hlen hown' hx
      have hbt0 := Blk.new wr 56 (lsA zeroL)
      obtain ⟨lt, lr, lk, li, lw, lu⟩ := l
      go_upto_region 4 with (refine wpList_store_row rfl _ _ _ rfl wr.heap.size (lsA ⟨lt, lr, lk, li, lw, lu⟩) rfl rfl _ _ hbt0 (leaseInfo' _) rfl (lsA_all _) ?_)
      refine gen_world' (fun X => Ext wr X ∧ Blk X wr.heap.size 56 (lsA ⟨lt, lr, lk, li, lw, lu⟩)) ⟨setRow_ext' (ext_alloc wr _) (Nat.le_refl _), setRow_blk hbt0⟩ ?_
      clear hbt0 x0 x1 x2 x3 x4 x5
      rintro w2 ⟨hE3, hbt⟩
      obtain ⟨bt, hbtn⟩ : ∃ b, b = wr.heap.size := ⟨_, rfl⟩
      rw [← hbtn] at hbt ⊢
      clear hbtn
      have c0 : w2.cell? ⟨bt, 0, none⟩ = some (.int .u64 lt) := hbt.cell 0
      have c5 : w2.cell? ⟨bt, 5, none⟩ = some (.int .i64 lu) := hbt.cell 5
      try simp only [Act.put]
      obtain ⟨bk, hbk⟩ : ∃ b, (lt == tok) = b := ⟨_, rfl⟩
      obtain ⟨bn, hbn⟩ : ∃ b, decide (now < lu) = b := ⟨_, rfl⟩
      cases bk with
      | false =>
        have HBK : Hid ((lt == tok && decide (now < lu)) = false) := Lib.hid (by rw [hbk]; rfl)
        clear hbn
        go_wp2_with fail
        refine ⟨⟨pre ++ [⟨lt, lr, lk, li, lw, lu⟩], post, by rw [HX.out]; simp, by simp, ?_, hE2.trans hE3⟩, by have := HL.out; simp [intOf] at *; omega⟩
        intro y hy
        rcases List.mem_append.1 hy with h | h
        · exact HN.out y h
        · simp at h; subst h; exact HBK.out
      | true =>
        cases bn with
        | false =>
          have HBK : Hid ((lt == tok && decide (now < lu)) = false) := Lib.hid (by rw [hbn]; simp)
          go_wp2_with fail
          refine ⟨⟨pre ++ [⟨lt, lr, lk, li, lw, lu⟩], post, by rw [HX.out]; simp, by simp, ?_, hE2.trans hE3⟩, by have := HL.out; simp [intOf] at *; omega⟩
          intro y hy
          rcases List.mem_append.1 hy with h | h
          · exact HN.out y h
          · simp at h; subst h; exact HBK.out
        | true =>
          have HF : Hid (s.get tok now = some ⟨lt, lr, lk, li, lw, lu⟩) := Lib.hid (by
            unfold MS.get
            rw [HX.out, List.find?_append, List.find?_eq_none.2 (fun y hy => by simp only [HN.out y hy]; simp)]
            simp [hbk, hbn])
          have hbr2 := hbr.of_eq ((hE2.trans hE3).block br hbr.lt)
          go_wp2_with (first | (refine wpList_load_row rfl _ _ rfl bt rfl _ _ _ _ hbt Try.underlying56 rfl (leaseInfo' _) ?_) | (refine wpList_store_row rfl _ _ _ rfl br (lsA ⟨lt, lr, lk, li, lw, lu⟩) rfl rfl _ _ hbr2 (leaseInfo' _) rfl (lsA_all _) ?_))
          have hbr' := setRow_blk (cs := lsA ⟨lt, lr, lk, li, lw, lu⟩) hbr2
          refine bodyPost_ret (v := .tuple #[lsV ⟨lt, lr, lk, li, lw, lu⟩, .int .i64 0]) (results_cell2 Try.results27 _ _ br 56 (lsA ⟨lt, lr, lk, li, lw, lu⟩) _ _ rfl hbr' Try.underlying56 rfl (leaseInfo' _)) rfl ⟨by rw [getL, getE, HF.out]; rfl, setRow_ext' ((hE0.trans hE2).trans hE3) (Nat.le_of_eq HBR.out.symm)⟩
end Go.Proofs.Ytadmfoglajhdcaa
