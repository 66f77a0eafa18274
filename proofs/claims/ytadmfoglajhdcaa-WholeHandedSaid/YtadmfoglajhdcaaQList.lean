/- The walk of a queue's List: all that wait, in order. -/
import Derived.Test.YtadmfoglajhdcaaQOps
import Derived.LoopTactic
import Derived.OwnWalk
namespace Go.Proofs.Ytadmfoglajhdcaa
set_option maxRecDepth 4000
set_option linter.unusedVariables false
set_option linter.unusedSimpArgs false
open Go Go.RowKit Go.Maps Go.ChangeMaps Go.MapKept
def flat (xs : List Ent) : List Value := xs.flatMap fun e => [.int .i64 e.run, .int .i64 e.kind, .int .i64 e.id]
theorem flat_snoc (xs : List Ent) (e : Ent) : flat (xs ++ [e]) = flat xs ++ [.int .i64 e.run, .int .i64 e.kind, .int .i64 e.id] := by simp [flat]
theorem flat_length (xs : List Ent) : (flat xs).length = xs.length * 3 := by
  induction xs with
  | nil => rfl
  | cons e xs ih => simp only [flat, List.flatMap_cons, List.length_append, List.length_cons, List.length_nil] at *; omega
theorem cell_three_new (w : World) (a b c : Value) (t : TypeId) : ∀ j u, [a, b, c][j]? = some u → (w.alloc (.cells #[a, b, c] t)).cell? ((⟨w.heap.size, 0, none⟩ : Addr).add j) = some u := by
  intro j u hj
  match j, hj with
  | 0, hj => simp at hj; subst hj; simp [Addr.add]
  | 1, hj => simp at hj; subst hj; simp [Addr.add]
  | 2, hj => simp at hj; subst hj; simp [Addr.add]
theorem taskInfo : (Try.prog.info? 43).map (fun i => (i.zero, i.size, i.bytes)) = some (some (.agg #[.int .i64 0, .int .i64 0, .int .i64 0]), 3, 24) := by kernel_rfl
def ListRel (w : World) (xs : List Ent) (v p : Value) (wr : World) : Prop :=
  ∃ pre post, xs = pre ++ post ∧ p = ptr (hd post none) ∧ wr.ownsRow w.heap.size 43 3 v pre.length (flat pre) ∧ Ext w wr
def postLen (xs : List Ent) (p : Value) : Nat := match p with
  | .pointer (some a) => (xs.dropWhile fun e => e.blk != a.block).length
  | _ => 0
theorem postLen_at {pre post : List Ent} {e : Ent} (h : (blks (pre ++ e :: post)).Nodup) : postLen (pre ++ e :: post) (ptr (some e.blk)) = (e :: post).length := by
  unfold postLen ptr
  simp only [Option.map_some]
  induction pre with
  | nil => simp
  | cons x pre ih =>
    simp only [blks, List.cons_append, List.map_cons, List.nodup_cons] at h
    have hne : x.blk ≠ e.blk := fun e1 => h.1 (by simp [e1])
    simp only [List.cons_append, List.dropWhile_cons]
    rw [if_pos (by simpa using hne)]
    exact ih h.2
theorem postLen_nil (xs : List Ent) : postLen xs (ptr none) = 0 := rfl
def Listed (w : World) (xs : List Ent) (e : Ending) (w' : World) : Prop := ∃ v, e = .returned v ∧ w'.ownsRow w.heap.size 43 3 v xs.length (flat xs) ∧ Ext w w'
theorem list_any (w : World) (q o : Nat) (bm : Option Nat) (xs : List Ent) (hq : QRep w q o bm xs) (hlen : xs.length < 1000) :
    Calls Try.prog 20 #[.pointer (some ⟨q, o, none⟩)] w fun e w' => Listed w xs e w' := by
  have c0 := hq.c0
  have hql := hq.foot_lt (Or.inl rfl)
  obtain ⟨i0, hi, hz0, hz1, hz2⟩ := info_parts taskInfo
  obtain ⟨p0, hp0⟩ : ∃ p0, p0 = ptr (hd xs none) := ⟨_, rfl⟩
  rw [← hp0] at c0
  have HP := Lib.hid hp0
  clear hp0
  go_enter Try.func20, Try.ntmps20
  go_wp2
  go_loopw [3, 4] (fun v p wr => ListRel w xs v p wr) (fun _ p _ => postLen xs p)
  case atStart => exact ⟨[], xs, rfl, HP.out, ⟨rfl, Or.inl ⟨rfl, rfl⟩⟩, Ext.refl _⟩
  case round =>
    clear c0
    obtain ⟨pre, post, hx, rfl, hown, hE⟩ := hrel
    cases post with
    | nil =>
      simp only [hd, ptr, Option.map_none]
      have hx' : xs = pre := by simpa using hx
      go_wp2
      go_ret
      subst hx'
      exact ⟨_, rfl, hown, hE⟩
    | cons e post =>
      have hqr := hq.ext hE
      have hsg := hqr.seg
      rw [hx] at hsg
      have hn := (seg_append.1 hsg).2.1
      have hel : e.blk < w.heap.size := hq.foot_lt (Or.inr (Or.inr (by rw [hx]; simp [blks])))
      have n0 := hn.cell 0
      have n1 := hn.cell 1
      have n2 := hn.cell 2
      have n5 := hn.cell 5
      simp only [nodeV, List.getElem?_toArray, List.getElem?_cons_zero, List.getElem?_cons_succ] at n0 n1 n2 n5
      clear hn hsg hqr
      obtain ⟨nx, hnx⟩ : ∃ nx, nx = hd post none := ⟨_, rfl⟩
      rw [← hnx] at n5
      have HX := Lib.hid hnx
      have HX2 := Lib.hid hx
      clear hnx hx
      have hpl : Hid (pre.length + 1 ≤ xs.length) := by unfold Hid; have := congrArg List.length HX2.out; simp at this; omega
      simp only [hd, ptr, Option.map_some]
      go_wp2_with (at_builtin; refine wpList_append_own _ rfl _ _ 47 rfl w.heap.size 43 i0 (.agg #[.int .i64 0, .int .i64 0, .int .i64 0]) 3 24 Try.underlying47 hi hz0 hz1 hz2 rfl (by decide) _ _ _ rfl (hown.alloc _) ⟨wr.heap.size, 0, none⟩ 1 1 [.int .i64 e.run, .int .i64 e.kind, .int .i64 e.id] rfl rfl ?c1 ?c2 ?c3 ?c4 ?c5 ?_)
      case c1 => exact cell_three_new _ _ _ _ _
      case c2 => intro u hu; simp at hu; rcases hu with rfl | rfl | rfl <;> rfl
      case c3 => have := hpl.out; unfold maxLen; omega
      case c4 => have := hpl.out; omega
      case c5 => have := hE.le; simp; omega
      intro v' w1 hown' hgrow _
      have hE1 : Ext w w1 := ((hE.alloc _).below).grown hgrow (Nat.le_trans hE.le (by simp)) (fun k hk => by
        rcases hown.2 with ⟨h, _⟩ | ⟨g, cap, cur, h, hg, _⟩
        · rw [h] at hk; cases hk
        · rw [h] at hk; injection hk with hk; subst hk; exact hg)
      have n5' := (hE1.cell e.blk 5 hel).trans ((hE.cell e.blk 5 hel).symm.trans n5)
      have hel1 := Nat.lt_of_lt_of_le hel hE1.le
      clear n0 n1 n2 n5 hgrow hown hE
      go_wp2
      refine ⟨⟨pre ++ [e], post, by rw [HX2.out]; simp, by rw [HX.out], by rw [flat_snoc]; simpa using hown', hE1⟩, ?_⟩
      rw [HX.out]
      have hnd := hq.nodup
      rw [HX2.out] at hnd ⊢
      have h1 := postLen_at hnd
      show _ < postLen (pre ++ e :: post) (ptr (some e.blk))
      rw [h1]
      cases post with
      | nil => simp [hd, postLen_nil]
      | cons c r =>
        have e2 : pre ++ e :: c :: r = (pre ++ [e]) ++ c :: r := by simp
        rw [e2] at hnd ⊢
        show postLen _ (ptr (some c.blk)) < _
        rw [postLen_at hnd]; simp
end Go.Proofs.Ytadmfoglajhdcaa
