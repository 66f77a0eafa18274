/- Link: the sum of a sum and bytes behind it. -/
import Derived.Test.YtcnbnhncncgkaaaSOf
namespace Go.Proofs.Ytcnbnhncncgkaaa
set_option linter.unusedVariables false
set_option linter.unusedSimpArgs false
open Go Go.RowKit
set_option maxRecDepth 100000 in
set_option maxHeartbeats 4000000 in
theorem link_any (w : World) (prev b : List UInt8) (hp : prev.length = 32) (q : Option Addr) (c : Nat) (hN : NumsAt .u8 w q (byI b)) (hn : q = none → b.length = 0 ∧ c = 0) (hc1 : b.length ≤ c) (hc2 : c ≤ maxLen) (hsm : b.length ≤ 70368744177664) :
    Calls Try.prog 11 #[smV prev, .slice q b.length c] w fun e w' => e = .returned (smV (sha (prev ++ b))) ∧ Ext w w' := by
  have hof := fun (X : World) (p : Option Addr) (hP : PartsAt (fun _ => False) X p [prev, b]) => of_any X p 2 [prev, b] hP (by show 2 ≤ maxLen; unfold maxLen; omega) (by intro x hx; simp at hx; rcases hx with rfl | rfl; omega; exact hsm)
  have hlen := sha_len (prev ++ b)
  have hfl : [prev, b].flatten = prev ++ b := by simp
  simp only [hfl] at hof
  generalize sha (prev ++ b) = bt at hof hlen
  clear hfl
  go_enter Try.func11, Try.ntmps11
  go_wp2_with fail
  have hH : Has w (((w.alloc (.cells (u8s prev).toArray 29)).alloc (.cells (u8s (zb 32)).toArray 29)).alloc (.cells #[.slice (some ⟨w.heap.size, 0, none⟩) 32 32, .slice q b.length c] 27)) [blkA (w.heap.size + 1 + 1) 27 #[.slice (some ⟨w.heap.size, 0, none⟩) 32 32, .slice q b.length c], SmA (w.heap.size + 1) (zb 32), SmA w.heap.size prev] := by
    have h1 := (Has.nil (Ext.refl w)).add .nil (ext_alloc w (.cells (u8s prev).toArray 29)) (p := SmA w.heap.size prev) (F := fun k => k = w.heap.size) ⟨Blk.new _ _ _, rfl⟩ (fun k hk => by omega)
    have h2 := h1.add (.cons (SmA_loc _ _) .nil) (ext_alloc _ (.cells (u8s (zb 32)).toArray 29)) (p := SmA (w.heap.size + 1) (zb 32)) (F := fun k => k = w.heap.size + 1) ⟨by have := Blk.new (w.alloc (.cells (u8s prev).toArray 29)) 29 (u8s (zb 32)).toArray; simpa using this, rfl⟩ (fun k hk => by simp; omega)
    have h3 := h2.add (.cons (SmA_loc _ _) (.cons (SmA_loc _ _) .nil)) (ext_alloc _ (.cells #[.slice (some ⟨w.heap.size, 0, none⟩) 32 32, .slice q b.length c] 27)) (p := blkA (w.heap.size + 1 + 1) 27 #[.slice (some ⟨w.heap.size, 0, none⟩) 32 32, .slice q b.length c]) (F := fun k => k = w.heap.size + 1 + 1) ⟨by have := Blk.new ((w.alloc (.cells (u8s prev).toArray 29)).alloc (.cells (u8s (zb 32)).toArray 29)) 27 #[.slice (some ⟨w.heap.size, 0, none⟩) 32 32, .slice q b.length c]; simpa using this, rfl⟩ (fun k hk => by simp; omega)
    exact h3
  refine gen_calls (fun X => Has w X [blkA (w.heap.size + 1 + 1) 27 #[.slice (some ⟨w.heap.size, 0, none⟩) 32 32, .slice q b.length c], SmA (w.heap.size + 1) (zb 32), SmA w.heap.size prev]) hH ?_
  clear hH
  intro X hH
  have hNX := hN.ext hH.base
  generalize w.heap.size + 1 + 1 = g at *
  generalize w.heap.size + 1 = r at *
  generalize w.heap.size = bx at *
  have hP : PartsAt (fun _ => False) X (some ⟨g, 0, none⟩) [prev, b] := by
    obtain ⟨Fg, hFg⟩ := hH.head
    have hg := hFg.1
    intro i hi
    have hi2 : i < 2 := by simpa using hi
    refine ⟨g, 0, rfl, hg.lt, id, ?_⟩
    match i, hi2 with
    | 0, _ =>
      refine ⟨some ⟨bx, 0, none⟩, 32, by rw [hg.cell]; simp [hp], ?_, fun _ _ _ => id, (fun h => by cases h), by simp [hp], by unfold maxLen; omega⟩
      intro j hj
      have hj' : j < prev.length := by rw [byI_length] at hj; exact hj
      have hb := hH.third
      obtain ⟨c1, -⟩ := BdA_cell hb j hj'
      have hlt : bx < X.heap.size := World.block_lt_of_cell? X ⟨bx, j, none⟩ c1
      refine ⟨_, rfl, hlt, ?_⟩
      show X.cell? _ = some (.int .u8 ((byI prev).getD j 0))
      rw [Go.WideShapes.add_plain, Nat.zero_add, c1, byI, List.getD_eq_getElem?_getD, List.getD_eq_getElem?_getD, List.getElem?_map, List.getElem?_eq_getElem hj']
      rfl
    | 1, _ => exact ⟨q, c, by rw [hg.cell]; simp, hNX, fun _ _ _ => id, hn, hc1, hc2⟩
  refine (hof X _ hP).mono ?_
  rintro e w2 ⟨rfl, hE2⟩
  have hH2 := (hH.ext (.cons (blkA_loc _ _ _) (.cons (SmA_loc _ _) (.cons (SmA_loc _ _) .nil))) hE2).swap
  obtain ⟨Fr, hFr⟩ := hH2.head
  have hA' := hFr.1
  have hH5 := BdA_row (l' := bt) hH2 (.cons (blkA_loc _ _ _) (.cons (SmA_loc _ _) .nil))
  go_wp2_with (refine wpList_store_row rfl _ _ _ rfl r (u8s bt).toArray rfl rfl _ _ hA' (smSize hlen) (by simp [zb, u8s, hlen]) (u8s_oneAll _) ?_)
  obtain ⟨F3, hF3⟩ := hH5.head
  exact bodyPost_ret (v := smV bt) (results_cell_row Try.results11 _ _ _ _ _ _ _ rfl hF3.1 Try.underlying29 rfl (smSize hlen)) rfl ⟨rfl, hH5.base⟩
end Go.Proofs.Ytcnbnhncncgkaaa
