/- The walk of brings. -/
import Derived.Test.YtfbolgdecdfnaaaMHas
namespace Go.Proofs.Ytfbolgdecdfnaaa
set_option maxRecDepth 4000
set_option linter.unusedVariables false
set_option linter.unusedSimpArgs false
open Go Go.RowKit Go.Maps Go.ChangeMaps Go.MapKept
theorem ok_small {r k i s : Int} (h1 : 0 ≤ r) (h2 : r ≤ 1000) (h3 : 0 ≤ k) (h4 : k ≤ 1000) (h5 : 0 ≤ i) (h6 : i ≤ 1000) (h7 : 0 ≤ s) (h8 : s ≤ 1000) : It.Ok ⟨r, k, i, s⟩ :=
  ⟨⟨show _ ≤ r by omega, show r ≤ _ by omega, show _ ≤ k by omega, show k ≤ _ by omega, show _ ≤ i by omega, show i ≤ _ by omega⟩, show _ ≤ s by omega, show s ≤ _ by omega⟩
def bS1 : MS := madd zeroMS 1 1 0 2 10
def bS2 : MS := pollS bS1 2 1 12
theorem bA1 : maddE zeroMS 1 1 0 2 = 0 := by decide +kernel
theorem bA2 : maddE bS1 1 1 0 0 = 5 := by decide +kernel
theorem bA2' : madd bS1 1 1 0 0 10 = bS1 := by rw [madd, if_pos (show bS1.known 1 1 0 = true by decide +kernel)]
theorem bP1 : pollE bS1 1 1 = 4 := by decide +kernel
theorem bP1' : pollS bS1 1 1 11 = bS1 := by
  have : bS1.pick 1 1 = none := by kernel_rfl
  rw [pollS, if_neg (by decide), if_neg (by decide +kernel), this]
theorem bP1l : pollL bS1 1 1 11 = zeroL := by
  have : bS1.pick 1 1 = none := by kernel_rfl
  rw [pollL, if_neg (by decide), if_neg (by decide +kernel), this]
theorem bP2 : pollE bS1 2 1 = 0 := by decide +kernel
theorem bP2l : pollL bS1 2 1 12 = ⟨1, 1, 1, 0, 2, 32⟩ := by decide +kernel
theorem bT1 : bS1.tok = 0 := by decide +kernel
theorem bT2 : bS2.tok = 1 := by decide +kernel
theorem bG1 : getE bS2 1 31 = 0 := by decide +kernel
theorem bG1l : getL bS2 1 31 = ⟨1, 1, 1, 0, 2, 32⟩ := by decide +kernel
theorem bG2 : getE bS2 1 32 = 210 := by decide +kernel
theorem bG2l : getL bS2 1 32 = zeroL := by decide +kernel
theorem bK : bS2.known 1 1 0 = true := by decide +kernel
theorem bW : (waitQ bS2 64).length = 0 := by decide +kernel
theorem bL : bS2.ls.length = 1 := by decide +kernel
set_option maxRecDepth 100000 in
set_option maxHeartbeats 4000000 in
theorem brings_any (W : World) : Calls Try.prog 7 #[] W fun e W' => e = .returned (.bool true) ∧ Ext W W' := by
  have hz := mcells_zero
  have hH := hm_new (Has.nil (Ext.refl W)) .nil
  go_enter Try.func7, Try.ntmps7
  go_upto_region 2 with fail
  generalize hw : W.alloc _ = w1 at *
  generalize W.heap.size = mb at *
  clear hw hz
  have L0 : ∀ s, Locs [mP mb s] := fun s => .cons (mP_loc _ _) .nil
  have hH := hm_blk hH (L0 _) 42 #[.int .i64 1, .int .i64 1, .int .i64 0]
  go_upto_region 3 with fail
  generalize hw : w1.alloc _ = w2 at *
  generalize w1.heap.size = tb at *
  clear hw
  have L1 : Locs [blkA tb 42 #[.int .i64 1, .int .i64 1, .int .i64 0]] := .cons (blkA_loc _ _ _) .nil
  have L2 : ∀ s, Locs [mP mb s, blkA tb 42 #[.int .i64 1, .int .i64 1, .int .i64 0]] := fun s => .cons (mP_loc _ _) L1
  replace hH := hH.swap
  have hb := hH.blk (g := tb) (T := 42) (cs := #[.int .i64 1, .int .i64 1, .int .i64 0]) (by simp)
  have c0 : w2.cell? ⟨tb, 0, none⟩ = some (.int .i64 1) := hb.cell 0
  have c1 : w2.cell? ⟨tb, 1, none⟩ = some (.int .i64 1) := hb.cell 1
  have c2 : w2.cell? ⟨tb, 2, none⟩ = some (.int .i64 0) := hb.cell 2
  go_wp2_with fail
  refine (hm_add hH L1 1 1 0 2 10 (ok_small (by decide) (by decide) (by decide) (by decide) (by decide) (by decide) (by decide) (by decide))).mono ?_
  clear hH hb c0 c1 c2
  rintro e w3 ⟨rfl, hH⟩
  rw [bA1, show madd zeroMS 1 1 0 2 10 = bS1 from rfl] at *
  have hb := hH.blk (g := tb) (T := 42) (cs := #[.int .i64 1, .int .i64 1, .int .i64 0]) (by simp)
  have c0 : w3.cell? ⟨tb, 0, none⟩ = some (.int .i64 1) := hb.cell 0
  have c1 : w3.cell? ⟨tb, 1, none⟩ = some (.int .i64 1) := hb.cell 1
  have c2 : w3.cell? ⟨tb, 2, none⟩ = some (.int .i64 0) := hb.cell 2
  go_wp2_with fail
  refine (hm_add hH L1 1 1 0 0 10 (ok_small (by decide) (by decide) (by decide) (by decide) (by decide) (by decide) (by decide) (by decide))).mono ?_
  clear hH hb c0 c1 c2
  rintro e w4 ⟨rfl, hH⟩
  rw [bA2, bA2'] at *
  go_wp2_with fail
  refine (hm_poll hH L1 1 1 11 (by rw [bT1]; decide) (by rw [bT1]; decide) (by decide) (by decide)).mono ?_
  clear hH
  rintro e w5 ⟨rfl, hH⟩
  rw [bP1, bP1', bP1l] at *
  unfold lsV zeroL
  go_upto_region 6 with fail
  generalize hw : w5.alloc _ = w6 at *
  have hE6 : Ext w5 w6 := by rw [← hw]; exact ext_alloc _ _
  generalize w5.heap.size = b3 at *
  clear hw
  replace hH := hH.ext (L2 _) hE6
  clear hE6
  go_wp2_with fail
  refine (hm_poll hH L1 2 1 12 (by rw [bT1]; decide) (by rw [bT1]; decide) (by decide) (by decide)).mono ?_
  clear hH
  rintro e w7 ⟨rfl, hH⟩
  rw [bP2, show pollS bS1 2 1 12 = bS2 from rfl, bP2l] at *
  unfold lsV
  replace hH := hm_blk hH (L2 _) 46 #[.int .u64 1, .int .i64 1, .int .i64 1, .int .i64 0, .int .i64 2, .int .i64 32]
  go_upto_region 9 with fail
  generalize hw : w7.alloc _ = w8 at *
  generalize w7.heap.size = lb at *
  clear hw
  have L3 : ∀ s, Locs [mP mb s, blkA lb 46 #[.int .u64 1, .int .i64 1, .int .i64 1, .int .i64 0, .int .i64 2, .int .i64 32], blkA tb 42 #[.int .i64 1, .int .i64 1, .int .i64 0]] := fun s => .cons (mP_loc _ _) (.cons (blkA_loc _ _ _) L1)
  replace hH := hH.swap
  have hl := hH.blk (g := lb) (T := 46) (cs := #[.int .u64 1, .int .i64 1, .int .i64 1, .int .i64 0, .int .i64 2, .int .i64 32]) (by simp)
  have x0 : World.cell? w8 ⟨lb, 0, none⟩ = some (.int .u64 1) := hl.cell 0
  have x1 : World.cell? w8 ⟨lb, 1, none⟩ = some (.int .i64 1) := hl.cell 1
  have x2 : World.cell? w8 ⟨lb, 2, none⟩ = some (.int .i64 1) := hl.cell 2
  have x3 : World.cell? w8 ⟨lb, 3, none⟩ = some (.int .i64 0) := hl.cell 3
  have x4 : World.cell? w8 ⟨lb, 4, none⟩ = some (.int .i64 2) := hl.cell 4
  have x5 : World.cell? w8 ⟨lb, 5, none⟩ = some (.int .i64 32) := hl.cell 5
  go_wp2_with fail
  refine (hm_get hH (L3 _) 1 31).mono ?_
  clear hH hl x0 x1 x2 x3 x4 x5
  rintro e w9 ⟨rfl, hH, -⟩
  rw [bG1, bG1l]
  unfold lsV
  replace hH := hm_blk hH (L3 _) 46 #[.int .u64 1, .int .i64 1, .int .i64 1, .int .i64 0, .int .i64 2, .int .i64 32]
  go_upto_region 10 with fail
  generalize hw : w9.alloc _ = w10 at *
  generalize w9.heap.size = gb at *
  clear hw
  have L4 : ∀ s, Locs [mP mb s, blkA gb 46 #[.int .u64 1, .int .i64 1, .int .i64 1, .int .i64 0, .int .i64 2, .int .i64 32], blkA lb 46 #[.int .u64 1, .int .i64 1, .int .i64 1, .int .i64 0, .int .i64 2, .int .i64 32], blkA tb 42 #[.int .i64 1, .int .i64 1, .int .i64 0]] := fun s => .cons (mP_loc _ _) (.cons (blkA_loc _ _ _) (.cons (blkA_loc _ _ _) L1))
  replace hH := hH.swap
  have hl := hH.blk (g := lb) (T := 46) (cs := #[.int .u64 1, .int .i64 1, .int .i64 1, .int .i64 0, .int .i64 2, .int .i64 32]) (by simp)
  have x0 : World.cell? w10 ⟨lb, 0, none⟩ = some (.int .u64 1) := hl.cell 0
  have x1 : World.cell? w10 ⟨lb, 1, none⟩ = some (.int .i64 1) := hl.cell 1
  have x2 : World.cell? w10 ⟨lb, 2, none⟩ = some (.int .i64 1) := hl.cell 2
  have x3 : World.cell? w10 ⟨lb, 3, none⟩ = some (.int .i64 0) := hl.cell 3
  have x4 : World.cell? w10 ⟨lb, 4, none⟩ = some (.int .i64 2) := hl.cell 4
  have x5 : World.cell? w10 ⟨lb, 5, none⟩ = some (.int .i64 32) := hl.cell 5
  go_wp2_with fail
  refine (hm_get hH (L4 _) 1 32).mono ?_
  clear hH hl x0 x1 x2 x3 x4 x5
  rintro e w11 ⟨rfl, hH, -⟩
  rw [bG2, bG2l]
  unfold lsV zeroL
  go_upto_region 11 with fail
  generalize hw : w11.alloc _ = w12 at *
  have hE6 : Ext w11 w12 := by rw [← hw]; exact ext_alloc _ _
  generalize w11.heap.size = b9 at *
  clear hw
  replace hH := hH.ext (L4 _) hE6
  clear hE6
  have hb := hH.blk (g := tb) (T := 42) (cs := #[.int .i64 1, .int .i64 1, .int .i64 0]) (by simp)
  have c0 : World.cell? w12 ⟨tb, 0, none⟩ = some (.int .i64 1) := hb.cell 0
  have c1 : World.cell? w12 ⟨tb, 1, none⟩ = some (.int .i64 1) := hb.cell 1
  have c2 : World.cell? w12 ⟨tb, 2, none⟩ = some (.int .i64 0) := hb.cell 2
  have hl := hH.blk (g := lb) (T := 46) (cs := #[.int .u64 1, .int .i64 1, .int .i64 1, .int .i64 0, .int .i64 2, .int .i64 32]) (by simp)
  have x0 : World.cell? w12 ⟨lb, 0, none⟩ = some (.int .u64 1) := hl.cell 0
  have x1 : World.cell? w12 ⟨lb, 1, none⟩ = some (.int .i64 1) := hl.cell 1
  have x2 : World.cell? w12 ⟨lb, 2, none⟩ = some (.int .i64 1) := hl.cell 2
  have x3 : World.cell? w12 ⟨lb, 3, none⟩ = some (.int .i64 0) := hl.cell 3
  have x4 : World.cell? w12 ⟨lb, 4, none⟩ = some (.int .i64 2) := hl.cell 4
  have x5 : World.cell? w12 ⟨lb, 5, none⟩ = some (.int .i64 32) := hl.cell 5
  have hg := hH.blk (g := gb) (T := 46) (cs := #[.int .u64 1, .int .i64 1, .int .i64 1, .int .i64 0, .int .i64 2, .int .i64 32]) (by simp)
  have y0 : World.cell? w12 ⟨gb, 0, none⟩ = some (.int .u64 1) := hg.cell 0
  have y1 : World.cell? w12 ⟨gb, 1, none⟩ = some (.int .i64 1) := hg.cell 1
  have y2 : World.cell? w12 ⟨gb, 2, none⟩ = some (.int .i64 1) := hg.cell 2
  have y3 : World.cell? w12 ⟨gb, 3, none⟩ = some (.int .i64 0) := hg.cell 3
  have y4 : World.cell? w12 ⟨gb, 4, none⟩ = some (.int .i64 2) := hg.cell 4
  have y5 : World.cell? w12 ⟨gb, 5, none⟩ = some (.int .i64 32) := hg.cell 5
  go_wp2_with fail
  refine (hm_known hH (L4 _) 1 1 0 ⟨by decide, by decide, by decide, by decide, by decide, by decide⟩).mono ?_
  clear hH hl x0 x1 x2 x3 x4 x5 hg y0 y1 y2 y3 y4 y5 hb c0 c1 c2
  rintro e w13 ⟨rfl, hH, -⟩
  rw [bK]
  go_wp2_with fail
  refine (hm_waiting hH (L4 _)).mono ?_
  clear hH
  rintro e w14 ⟨v, rfl, hH⟩
  obtain ⟨F, hF⟩ := hH.head
  obtain ⟨p1, q1, rfl⟩ := ownsRow_slice hF.1
  replace hH := hH.drop
  clear hF
  rw [bW]
  go_wp2_with fail
  refine (hm_leases hH (L4 _)).mono ?_
  clear hH
  rintro e w15 ⟨v, rfl, hH⟩
  obtain ⟨F, hF⟩ := hH.head
  obtain ⟨p2, q2, rfl⟩ := ownsRow_slice hF.1
  replace hH := hH.drop
  clear hF
  rw [bL]
  go_wp2_with fail
  refine (hm_given hH).mono ?_
  rintro e w16 ⟨rfl, rfl⟩
  rw [bT2]
  go_wp2_with fail
  go_ret
  exact ⟨rfl, hH.base⟩
end Go.Proofs.Ytfbolgdecdfnaaa
