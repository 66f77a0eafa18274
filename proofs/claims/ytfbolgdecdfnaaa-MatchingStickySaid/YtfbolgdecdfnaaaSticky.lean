/- The walk of MatchingSticky. -/
import Derived.Test.YtfbolgdecdfnaaaBrings
namespace Go.Proofs.Ytfbolgdecdfnaaa
set_option maxRecDepth 4000
set_option linter.unusedVariables false
set_option linter.unusedSimpArgs false
open Go Go.RowKit Go.Maps Go.ChangeMaps Go.MapKept
/-! ### the plain law -/
/-- one task waits at k since now -/
def one (k : Nat) (now : Int) : MS := ⟨0, fun j => if j = k then [⟨3, 1, 0, now⟩] else [], []⟩
theorem where_zero (r k i : Int) : zeroMS.where_ r k i = none := range_find_none fun j hj => rfl
theorem known_zero (r k i : Int) : zeroMS.known r k i = false := by
  unfold MS.known MS.had
  rw [where_zero]; rfl
theorem madd_zero {z : Int} (h1 : 1 ≤ z) (h2 : z ≤ 64) : madd zeroMS 3 1 0 z 0 = one z.toNat 0 := by
  rw [madd, if_neg (by rw [known_zero]; decide), if_neg (by omega)]
  rfl
theorem expS_one {k : Nat} (hk : k ≠ 0) (now : Int) : ∀ j, expS (one k 0) now j = if k ≤ j ∧ 5 ≤ now then one 0 now else one k 0
  | 0 => by rw [if_neg (by omega)]; rfl
  | j + 1 => by
    rw [expS, expS_one hk now j]
    by_cases h : k ≤ j ∧ 5 ≤ now
    · rw [if_pos h, if_pos ⟨by omega, h.2⟩]
      have hq : (one 0 now).q (j + 1) = [] := by simp [one]
      rw [hq, stI_start]
    · rw [if_neg h]
      by_cases hj : j + 1 = k
      · subst hj
        have hq : (one (j + 1) 0).q (j + 1) = [⟨3, 1, 0, 0⟩] := by simp [one]
        by_cases hn : 5 ≤ now
        · rw [if_pos ⟨Nat.le_refl _, hn⟩, hq, stI]
          have hx : expQ [⟨3, 1, 0, 0⟩] now ((one (j + 1) 0).q 0, [⟨3, 1, 0, 0⟩]) = ([⟨3, 1, 0, now⟩], []) := by
            have h0 : (one (j + 1) 0).q 0 = [] := by simp [one]
            rw [h0]
            simp [expQ, expOne, qadd, qaddE, others, isK, hn]
          rw [hq, hx]
          simp only [one, MS.setq, MS.mk.injEq, true_and, and_true]
          funext i
          by_cases h0 : i = 0
          · simp [h0]
          · by_cases h1 : i = j + 1 <;> simp [h0, h1]
        · rw [if_neg (by omega), hq, stI]
          have hx : expQ [⟨3, 1, 0, 0⟩] now ((one (j + 1) 0).q 0, [⟨3, 1, 0, 0⟩]) = ((one (j + 1) 0).q 0, [⟨3, 1, 0, 0⟩]) := by
            simp [expQ, expOne, hn]
          rw [hq, hx]
          simp only [one, MS.setq, MS.mk.injEq, true_and, and_true]
          funext i
          by_cases h0 : i = 0
          · simp [h0]
          · by_cases h1 : i = j + 1 <;> simp [h0, h1]
      · have hq : (one k 0).q (j + 1) = [] := by simp [one, hj]
        rw [hq, stI_start]
        have : (k ≤ j + 1 ∧ 5 ≤ now) ↔ (k ≤ j ∧ 5 ≤ now) := by omega
        rw [if_neg (by rw [this]; exact h)]
theorem expire_one {k : Nat} (hk : k ≠ 0) (hk2 : k ≤ 64) (now : Int) : (one k 0).expire now = if 5 ≤ now then one 0 now else one k 0 := by
  unfold MS.expire
  rw [expS_one hk]
  by_cases h : 5 ≤ now
  · rw [if_pos ⟨hk2, h⟩, if_pos h]; rfl
  · rw [if_neg (by omega), if_neg h]; rfl
theorem lose_one {z : Int} (h1 : 1 ≤ z) (h2 : z ≤ 64) : (one z.toNat 0).lose z 0 = one 0 0 := by
  rw [MS.lose, if_neg (by omega)]
  have hz : z.toNat ≠ 0 := by omega
  generalize z.toNat = k at *
  have hq : (one k 0).q k = [⟨3, 1, 0, 0⟩] := by simp [one]
  have h0 : (one k 0).q 0 = [] := by simp [one, Ne.symm hz]
  rw [loseQ, hq, h0]
  simp only [one, MS.setq, MS.mk.injEq, true_and, moved, List.foldl_cons, List.foldl_nil, qadd, keepL, List.filter_nil, and_true]
  funext i
  by_cases hi0 : i = 0
  · simp [hi0]
  · by_cases hi1 : i = k <;> simp [hi0, hi1]
/-- what is polled for, where one task waits -/
theorem pick_at {k : Nat} {z now : Int} (h : k = 0 ∨ k = z.toNat) (h1 : 1 ≤ z) : (one k now).pick z 1 = some (k, ⟨3, 1, 0, now⟩) := by
  unfold MS.pick
  by_cases hk : k = z.toNat
  · subst hk; simp [one]
  · have h0 : k = 0 := by omega
    subst h0
    have : z.toNat ≠ 0 := by omega
    simp [one, this]
theorem pick_no {k : Nat} {z now : Int} (h : k ≠ 0) (h1 : k ≠ z.toNat) : (one k now).pick z 1 = none := by
  unfold MS.pick
  simp [one, Ne.symm h, Ne.symm h1]
theorem poll_at {k : Nat} {z now : Int} (h : k = 0 ∨ k = z.toNat) (h1 : 1 ≤ z) (h2 : z ≤ 64) : pollE (one k now) z 1 = 0 ∧ ∀ t, pollL (one k now) z 1 t = ⟨1, 3, 1, 0, z, t + 20⟩ := by
  have hp := pick_at (now := now) h h1
  refine ⟨?_, fun t => ?_⟩
  · rw [pollE, if_neg (by omega), if_neg (by simp [one]), hp]; rfl
  · rw [pollL, if_neg (by omega), if_neg (by simp [one]), hp]; rfl
theorem poll_not {k : Nat} {z now : Int} (h : k ≠ 0) (h0 : k ≠ z.toNat) (h1 : 1 ≤ z) (h2 : z ≤ 64) : pollE (one k now) z 1 = 4 ∧ ∀ t, pollL (one k now) z 1 t = zeroL := by
  have hp := pick_no (now := now) h h0
  refine ⟨?_, fun t => ?_⟩
  · rw [pollE, if_neg (by omega), if_neg (by simp [one]), hp]; rfl
  · rw [pollL, if_neg (by omega), if_neg (by simp [one]), hp]
theorem since_one (k : Nat) : ∀ j, j < 65 → ∀ x ∈ (one k 0).q j, 0 ≤ x.since ∧ x.since ≤ 4611686018427387903 := by
  intro j _ x hx
  by_cases h : j = k
  · subst h
    simp [one] at hx
    subst hx
    decide
  · simp [one, h] at hx
theorem one_tok (k : Nat) (now : Int) : (one k now).tok = 0 := rfl
set_option maxRecDepth 100000 in
set_option maxHeartbeats 4000000 in
theorem sticky_any (W : World) (own other ticks : Int) (ho1 : -9223372036854775808 ≤ own) (ho2 : own ≤ 9223372036854775807) (hp1 : -9223372036854775808 ≤ other) (hp2 : other ≤ 9223372036854775807) (ht1 : -9223372036854775808 ≤ ticks) (ht2 : ticks ≤ 9223372036854775807) :
    Calls Try.prog 4 #[.int .i64 own, .int .i64 other, .int .i64 ticks] W fun e W' => e = .returned (.bool true) ∧ Ext W W' := by
  have hz := mcells_zero
  go_enter Try.func4, Try.ntmps4
  go_wp2_with fail
  refine (brings_any W).mono ?_
  rintro e w1 ⟨rfl, hE1⟩
  by_cases g1 : own < 1
  · go_wp2_with fail
    go_ret
    exact ⟨rfl, hE1⟩
  by_cases g2 : 64 < own
  · go_wp2_with fail
    go_ret
    exact ⟨rfl, hE1⟩
  by_cases g3 : other < 1
  · go_wp2_with fail
    go_ret
    exact ⟨rfl, hE1⟩
  by_cases g4 : 64 < other
  · go_wp2_with fail
    go_ret
    exact ⟨rfl, hE1⟩
  by_cases g5 : own = other
  · subst g5
    go_wp2_with fail
    go_ret
    exact ⟨rfl, hE1⟩
  by_cases g6 : ticks < 0
  · go_wp2_with fail
    go_ret
    exact ⟨rfl, hE1⟩
  by_cases g7 : 100 < ticks
  · go_wp2_with fail
    go_ret
    exact ⟨rfl, hE1⟩
  have g5b : (own == other) = false := by simpa using g5
  have hH := hm_blk (Has.nil hE1) .nil 42 #[.int .i64 3, .int .i64 1, .int .i64 0]
  go_upto_region 6 with fail
  generalize hw : w1.alloc _ = w2 at *
  generalize w1.heap.size = tb at *
  clear hw
  have ea : ∀ (w : World) (o : Obj), (w.alloc o).heap.size = w.heap.size + 1 := fun w o => by simp
  have hH := hm_new (hm_new (hm_new hH (by repeat first | exact Locs.nil | refine Locs.cons (mP_loc _ _) ?_ | refine Locs.cons (blkA_loc _ _ _) ?_ | refine Locs.cons (rowA_loc _ _ _ _ _) ?_)) (by repeat first | exact Locs.nil | refine Locs.cons (mP_loc _ _) ?_ | refine Locs.cons (blkA_loc _ _ _) ?_ | refine Locs.cons (rowA_loc _ _ _ _ _) ?_)) (by repeat first | exact Locs.nil | refine Locs.cons (mP_loc _ _) ?_ | refine Locs.cons (blkA_loc _ _ _) ?_ | refine Locs.cons (rowA_loc _ _ _ _ _) ?_)
  rw [ea, ea] at hH
  clear ea
  go_upto_region 7 with fail
  generalize hw : World.alloc (World.alloc (World.alloc w2 _) _) _ = w3 at *
  generalize hma : w2.heap.size = ma at *
  clear hw hma
  try simp only [Act.put]
  replace hH := hH.third
  have ok0 : It.Ok ⟨3, 1, 0, 0⟩ := ok_small (by decide) (by decide) (by decide) (by decide) (by decide) (by decide) (by decide) (by decide)
  have h1 : 1 ≤ own := by omega
  have h2 : own ≤ 64 := by omega
  have h3 : 1 ≤ other := by omega
  have h4 : other ≤ 64 := by omega
  have hk0 : own.toNat ≠ 0 := by omega
  have hk64 : own.toNat ≤ 64 := by omega
  have hne : own.toNat ≠ other.toNat := by omega
  have MZ := Lib.hid (madd_zero h1 h2)
  have hb := hH.blk (g := tb) (T := 42) (cs := #[.int .i64 3, .int .i64 1, .int .i64 0]) (by simp)
  have c0 : World.cell? w3 ⟨tb, 0, none⟩ = some (.int .i64 3) := hb.cell 0
  have c1 : World.cell? w3 ⟨tb, 1, none⟩ = some (.int .i64 1) := hb.cell 1
  have c2 : World.cell? w3 ⟨tb, 2, none⟩ = some (.int .i64 0) := hb.cell 2
  go_wp2_with fail
  refine (hm_add hH (by repeat first | exact Locs.nil | refine Locs.cons (mP_loc _ _) ?_ | refine Locs.cons (blkA_loc _ _ _) ?_ | refine Locs.cons (rowA_loc _ _ _ _ _) ?_) 3 1 0 own 0 ok0).mono ?_
  clear hH hb c0 c1 c2
  rintro e w4 ⟨rfl, hH⟩
  rw [MZ.out] at hH
  generalize maddE _ _ _ _ _ = ra
  replace hH := hH.third
  have hb := hH.blk (g := tb) (T := 42) (cs := #[.int .i64 3, .int .i64 1, .int .i64 0]) (by simp)
  have c0 : World.cell? w4 ⟨tb, 0, none⟩ = some (.int .i64 3) := hb.cell 0
  have c1 : World.cell? w4 ⟨tb, 1, none⟩ = some (.int .i64 1) := hb.cell 1
  have c2 : World.cell? w4 ⟨tb, 2, none⟩ = some (.int .i64 0) := hb.cell 2
  go_wp2_with fail
  refine (hm_add hH (by repeat first | exact Locs.nil | refine Locs.cons (mP_loc _ _) ?_ | refine Locs.cons (blkA_loc _ _ _) ?_ | refine Locs.cons (rowA_loc _ _ _ _ _) ?_) 3 1 0 own 0 ok0).mono ?_
  clear hH hb c0 c1 c2
  rintro e w5 ⟨rfl, hH⟩
  rw [MZ.out] at hH
  generalize maddE _ _ _ _ _ = rb
  replace hH := hH.third
  have hb := hH.blk (g := tb) (T := 42) (cs := #[.int .i64 3, .int .i64 1, .int .i64 0]) (by simp)
  have c0 : World.cell? w5 ⟨tb, 0, none⟩ = some (.int .i64 3) := hb.cell 0
  have c1 : World.cell? w5 ⟨tb, 1, none⟩ = some (.int .i64 1) := hb.cell 1
  have c2 : World.cell? w5 ⟨tb, 2, none⟩ = some (.int .i64 0) := hb.cell 2
  go_wp2_with fail
  refine (hm_add hH (by repeat first | exact Locs.nil | refine Locs.cons (mP_loc _ _) ?_ | refine Locs.cons (blkA_loc _ _ _) ?_ | refine Locs.cons (rowA_loc _ _ _ _ _) ?_) 3 1 0 own 0 ok0).mono ?_
  clear hH hb c0 c1 c2
  rintro e w6 ⟨rfl, hH⟩
  rw [MZ.out] at hH
  generalize maddE _ _ _ _ _ = rc
  replace hH := hH.third
  obtain ⟨kk, hkk⟩ : ∃ k, own.toNat = k := ⟨_, rfl⟩
  have HKK := Lib.hid hkk
  have EX := Lib.hid (expire_one hk0 hk64 ticks)
  have LO := Lib.hid (lose_one h1 h2)
  rw [hkk] at hH hk0 hk64 hne EX LO
  clear hkk
  go_wp2_with fail
  refine (hm_expire hH (by repeat first | exact Locs.nil | refine Locs.cons (mP_loc _ _) ?_ | refine Locs.cons (blkA_loc _ _ _) ?_ | refine Locs.cons (rowA_loc _ _ _ _ _) ?_) ticks (by omega) (by omega) (since_one kk)).mono ?_
  clear hH
  rintro e w7 ⟨v7, rfl, hH⟩
  obtain ⟨F_, hF_⟩ := hH.head
  obtain ⟨pr_, cr_, rfl⟩ := ownsRow_slice hF_.1
  replace hH := hH.drop
  clear hF_
  rw [EX.out] at hH
  have PB := Lib.hid (poll_at (k := 0) (now := 0) (Or.inl rfl) h3 h4)
  by_cases g8 : 5 ≤ ticks
  · have PA := Lib.hid (poll_at (k := 0) (now := ticks) (Or.inl rfl) h3 h4)
    have PC := Lib.hid (poll_at (k := 0) (now := ticks) (Or.inl rfl) h1 h2)
    have EX2 := Lib.hid (EX.out.trans (if_pos g8))
    rw [if_pos g8] at hH
    go_wp2_with fail
    refine (hm_poll hH (by repeat first | exact Locs.nil | refine Locs.cons (mP_loc _ _) ?_ | refine Locs.cons (blkA_loc _ _ _) ?_ | refine Locs.cons (rowA_loc _ _ _ _ _) ?_) other 1 ticks (by rw [one_tok]; decide) (by rw [one_tok]; decide) (by omega) (by omega)).mono ?_
    clear hH
    rintro e w8 ⟨rfl, hH⟩
    replace hH := hH.drop.swap
    rw [PA.out.1, PA.out.2]
    unfold lsV
    try unfold zeroL
    go_upto_region 12 with fail
    generalize hw_ : World.alloc w8 _ = w9 at *
    have hE_ : Ext w8 w9 := by rw [← hw_]; exact ext_alloc _ _
    generalize (w8).heap.size = ba at *
    clear hw_
    replace hH := hH.ext (by repeat first | exact Locs.nil | refine Locs.cons (mP_loc _ _) ?_ | refine Locs.cons (blkA_loc _ _ _) ?_ | refine Locs.cons (rowA_loc _ _ _ _ _) ?_) hE_
    clear hE_
    go_wp2_with fail
    refine (hm_lose hH (by repeat first | exact Locs.nil | refine Locs.cons (mP_loc _ _) ?_ | refine Locs.cons (blkA_loc _ _ _) ?_ | refine Locs.cons (rowA_loc _ _ _ _ _) ?_) own 0 (by decide) (by decide)).mono ?_
    clear hH
    rintro e w10 ⟨v7, rfl, hH⟩
    obtain ⟨F_, hF_⟩ := hH.head
    obtain ⟨pr_, cr_, rfl⟩ := ownsRow_slice hF_.1
    replace hH := hH.drop
    clear hF_
    rw [LO.out] at hH
    go_wp2_with fail
    refine (hm_poll hH (by repeat first | exact Locs.nil | refine Locs.cons (mP_loc _ _) ?_ | refine Locs.cons (blkA_loc _ _ _) ?_ | refine Locs.cons (rowA_loc _ _ _ _ _) ?_) other 1 0 (by rw [one_tok]; decide) (by rw [one_tok]; decide) (by omega) (by omega)).mono ?_
    clear hH
    rintro e w11 ⟨rfl, hH⟩
    replace hH := hH.drop
    rw [PB.out.1, PB.out.2]
    unfold lsV
    go_upto_region 14 with fail
    generalize hw_ : World.alloc w11 _ = w12 at *
    have hE_ : Ext w11 w12 := by rw [← hw_]; exact ext_alloc _ _
    generalize (w11).heap.size = bb at *
    clear hw_
    replace hH := hH.ext (by repeat first | exact Locs.nil | refine Locs.cons (mP_loc _ _) ?_ | refine Locs.cons (blkA_loc _ _ _) ?_ | refine Locs.cons (rowA_loc _ _ _ _ _) ?_) hE_
    clear hE_
    go_wp2_with fail
    refine (hm_expire hH (by repeat first | exact Locs.nil | refine Locs.cons (mP_loc _ _) ?_ | refine Locs.cons (blkA_loc _ _ _) ?_ | refine Locs.cons (rowA_loc _ _ _ _ _) ?_) ticks (by omega) (by omega) (since_one kk)).mono ?_
    clear hH
    rintro e w13 ⟨v7, rfl, hH⟩
    obtain ⟨F_, hF_⟩ := hH.head
    obtain ⟨pr_, cr_, rfl⟩ := ownsRow_slice hF_.1
    replace hH := hH.drop
    clear hF_
    rw [EX2.out] at hH
    go_wp2_with fail
    refine (hm_poll hH (by repeat first | exact Locs.nil | refine Locs.cons (mP_loc _ _) ?_ | refine Locs.cons (blkA_loc _ _ _) ?_ | refine Locs.cons (rowA_loc _ _ _ _ _) ?_) own 1 ticks (by rw [one_tok]; decide) (by rw [one_tok]; decide) (by omega) (by omega)).mono ?_
    clear hH
    rintro e w14 ⟨rfl, hH⟩
    replace hH := hH.drop
    rw [PC.out.1, PC.out.2]
    unfold lsV
    replace hH := hm_blk hH (by repeat first | exact Locs.nil | refine Locs.cons (mP_loc _ _) ?_ | refine Locs.cons (blkA_loc _ _ _) ?_ | refine Locs.cons (rowA_loc _ _ _ _ _) ?_) 46 #[.int .u64 1, .int .i64 3, .int .i64 1, .int .i64 0, .int .i64 own, .int .i64 (ticks + 20)]
    go_upto_region 16 with fail
    generalize hw : w14.alloc _ = w15 at *
    generalize w14.heap.size = lb at *
    clear hw
    have hl := hH.blk (g := lb) (T := 46) (cs := #[.int .u64 1, .int .i64 3, .int .i64 1, .int .i64 0, .int .i64 own, .int .i64 (ticks + 20)]) (by simp)
    have x1 : World.cell? w15 ⟨lb, 1, none⟩ = some (.int .i64 3) := hl.cell 1
    have x2 : World.cell? w15 ⟨lb, 2, none⟩ = some (.int .i64 1) := hl.cell 2
    have x3 : World.cell? w15 ⟨lb, 3, none⟩ = some (.int .i64 0) := hl.cell 3
    have hb := hH.blk (g := tb) (T := 42) (cs := #[.int .i64 3, .int .i64 1, .int .i64 0]) (by simp)
    have c0 : World.cell? w15 ⟨tb, 0, none⟩ = some (.int .i64 3) := hb.cell 0
    have c1 : World.cell? w15 ⟨tb, 1, none⟩ = some (.int .i64 1) := hb.cell 1
    have c2 : World.cell? w15 ⟨tb, 2, none⟩ = some (.int .i64 0) := hb.cell 2
    go_wp2_with fail
    go_ret
    refine ⟨?_, hH.base⟩
    first | rfl | simp [g8]
  · have PA := Lib.hid (poll_not (k := kk) (now := 0) hk0 hne h3 h4)
    have PC := Lib.hid (poll_at (k := kk) (now := 0) (Or.inr HKK.out.symm) h1 h2)
    have EX2 := Lib.hid (EX.out.trans (if_neg g8))
    rw [if_neg g8] at hH
    go_wp2_with fail
    refine (hm_poll hH (by repeat first | exact Locs.nil | refine Locs.cons (mP_loc _ _) ?_ | refine Locs.cons (blkA_loc _ _ _) ?_ | refine Locs.cons (rowA_loc _ _ _ _ _) ?_) other 1 ticks (by rw [one_tok]; decide) (by rw [one_tok]; decide) (by omega) (by omega)).mono ?_
    clear hH
    rintro e w8 ⟨rfl, hH⟩
    replace hH := hH.drop.swap
    rw [PA.out.1, PA.out.2]
    unfold lsV
    try unfold zeroL
    go_upto_region 12 with fail
    generalize hw_ : World.alloc w8 _ = w9 at *
    have hE_ : Ext w8 w9 := by rw [← hw_]; exact ext_alloc _ _
    generalize (w8).heap.size = ba at *
    clear hw_
    replace hH := hH.ext (by repeat first | exact Locs.nil | refine Locs.cons (mP_loc _ _) ?_ | refine Locs.cons (blkA_loc _ _ _) ?_ | refine Locs.cons (rowA_loc _ _ _ _ _) ?_) hE_
    clear hE_
    go_wp2_with fail
    refine (hm_lose hH (by repeat first | exact Locs.nil | refine Locs.cons (mP_loc _ _) ?_ | refine Locs.cons (blkA_loc _ _ _) ?_ | refine Locs.cons (rowA_loc _ _ _ _ _) ?_) own 0 (by decide) (by decide)).mono ?_
    clear hH
    rintro e w10 ⟨v7, rfl, hH⟩
    obtain ⟨F_, hF_⟩ := hH.head
    obtain ⟨pr_, cr_, rfl⟩ := ownsRow_slice hF_.1
    replace hH := hH.drop
    clear hF_
    rw [LO.out] at hH
    go_wp2_with fail
    refine (hm_poll hH (by repeat first | exact Locs.nil | refine Locs.cons (mP_loc _ _) ?_ | refine Locs.cons (blkA_loc _ _ _) ?_ | refine Locs.cons (rowA_loc _ _ _ _ _) ?_) other 1 0 (by rw [one_tok]; decide) (by rw [one_tok]; decide) (by omega) (by omega)).mono ?_
    clear hH
    rintro e w11 ⟨rfl, hH⟩
    replace hH := hH.drop
    rw [PB.out.1, PB.out.2]
    unfold lsV
    go_upto_region 14 with fail
    generalize hw_ : World.alloc w11 _ = w12 at *
    have hE_ : Ext w11 w12 := by rw [← hw_]; exact ext_alloc _ _
    generalize (w11).heap.size = bb at *
    clear hw_
    replace hH := hH.ext (by repeat first | exact Locs.nil | refine Locs.cons (mP_loc _ _) ?_ | refine Locs.cons (blkA_loc _ _ _) ?_ | refine Locs.cons (rowA_loc _ _ _ _ _) ?_) hE_
    clear hE_
    go_wp2_with fail
    refine (hm_expire hH (by repeat first | exact Locs.nil | refine Locs.cons (mP_loc _ _) ?_ | refine Locs.cons (blkA_loc _ _ _) ?_ | refine Locs.cons (rowA_loc _ _ _ _ _) ?_) ticks (by omega) (by omega) (since_one kk)).mono ?_
    clear hH
    rintro e w13 ⟨v7, rfl, hH⟩
    obtain ⟨F_, hF_⟩ := hH.head
    obtain ⟨pr_, cr_, rfl⟩ := ownsRow_slice hF_.1
    replace hH := hH.drop
    clear hF_
    rw [EX2.out] at hH
    go_wp2_with fail
    refine (hm_poll hH (by repeat first | exact Locs.nil | refine Locs.cons (mP_loc _ _) ?_ | refine Locs.cons (blkA_loc _ _ _) ?_ | refine Locs.cons (rowA_loc _ _ _ _ _) ?_) own 1 ticks (by rw [one_tok]; decide) (by rw [one_tok]; decide) (by omega) (by omega)).mono ?_
    clear hH
    rintro e w14 ⟨rfl, hH⟩
    replace hH := hH.drop
    rw [PC.out.1, PC.out.2]
    unfold lsV
    replace hH := hm_blk hH (by repeat first | exact Locs.nil | refine Locs.cons (mP_loc _ _) ?_ | refine Locs.cons (blkA_loc _ _ _) ?_ | refine Locs.cons (rowA_loc _ _ _ _ _) ?_) 46 #[.int .u64 1, .int .i64 3, .int .i64 1, .int .i64 0, .int .i64 own, .int .i64 (ticks + 20)]
    go_upto_region 16 with fail
    generalize hw : w14.alloc _ = w15 at *
    generalize w14.heap.size = lb at *
    clear hw
    have hl := hH.blk (g := lb) (T := 46) (cs := #[.int .u64 1, .int .i64 3, .int .i64 1, .int .i64 0, .int .i64 own, .int .i64 (ticks + 20)]) (by simp)
    have x1 : World.cell? w15 ⟨lb, 1, none⟩ = some (.int .i64 3) := hl.cell 1
    have x2 : World.cell? w15 ⟨lb, 2, none⟩ = some (.int .i64 1) := hl.cell 2
    have x3 : World.cell? w15 ⟨lb, 3, none⟩ = some (.int .i64 0) := hl.cell 3
    have hb := hH.blk (g := tb) (T := 42) (cs := #[.int .i64 3, .int .i64 1, .int .i64 0]) (by simp)
    have c0 : World.cell? w15 ⟨tb, 0, none⟩ = some (.int .i64 3) := hb.cell 0
    have c1 : World.cell? w15 ⟨tb, 1, none⟩ = some (.int .i64 1) := hb.cell 1
    have c2 : World.cell? w15 ⟨tb, 2, none⟩ = some (.int .i64 0) := hb.cell 2
    go_wp2_with fail
    go_ret
    refine ⟨?_, hH.base⟩
    first | rfl | simp [g8]
end Go.Proofs.Ytfbolgdecdfnaaa
