/- The guard of the queue's laws: two tasks, the first one first. -/
import Derived.Test.YtkpdhciomfanoaaQList
import Derived.RangeFuncBox
namespace Go.Proofs.Ytkpdhciomfanoaa
set_option linter.unusedVariables false
set_option linter.unusedSimpArgs false
open Go Go.RowKit Go.Maps Go.ChangeMaps Go.MapKept
theorem qrep_new {w : World} {q : Nat} {T : TypeId} (h : Blk w q T #[.pointer none, .pointer none, .map none]) (hT : T ≠ 61) : QRep w q 0 none [] :=
  ⟨⟨_, T, h, hT, rfl, rfl, rfl⟩, trivial, by simp [blks], List.Pairwise.nil, fun _ h => absurd h (by simp), rfl⟩
theorem okEnt (r k i s : Int) (hr : -1000000 ≤ r ∧ r ≤ 1000000) (hk : -1000000 ≤ k ∧ k ≤ 1000000) (hi : -1000000 ≤ i ∧ i ≤ 1000000) (hs : -1000000 ≤ s ∧ s ≤ 1000000) : Ent.Ok ⟨r, k, i, s, 0⟩ :=
  ⟨⟨by simp; omega, by simp; omega, by simp; omega, by simp; omega, by simp; omega, by simp; omega⟩, by simp; omega, by simp; omega⟩
set_option maxRecDepth 100000 in
set_option maxHeartbeats 2000000 in
theorem waits_any (w : World) : Calls Try.prog 7 #[] w fun e w' => e = .returned (.bool true) ∧ Ext w w' := by
  go_enter Try.func7, Try.ntmps7
  go_wp2_with fail
  generalize hW : (((w.alloc (.cells #[.pointer none, .pointer none, .map none] 28)).alloc (.cells #[.int .i64 1, .int .i64 1, .int .i64 0] 32)).alloc (.cells #[.int .i64 1, .int .i64 2, .int .i64 2] 32)) = W
  have hE : Ext w W := by rw [← hW]; exact (((Ext.refl _).alloc _).alloc _).alloc _
  have hqb : Blk W w.heap.size 28 #[.pointer none, .pointer none, .map none] := by rw [← hW]; exact ((Blk.new _ _ _).alloc _).alloc _
  have ha : Blk W (w.heap.size + 1) 32 #[.int .i64 1, .int .i64 1, .int .i64 0] := by
    rw [← hW]
    have := Blk.new (w.alloc (.cells #[.pointer none, .pointer none, .map none] 28)) 32 #[.int .i64 1, .int .i64 1, .int .i64 0]
    simp at this
    exact this.alloc _
  have hb : Blk W (w.heap.size + 2) 32 #[.int .i64 1, .int .i64 2, .int .i64 2] := by
    rw [← hW]
    have := Blk.new ((w.alloc (.cells #[.pointer none, .pointer none, .map none] 28)).alloc (.cells #[.int .i64 1, .int .i64 1, .int .i64 0] 32)) 32 #[.int .i64 1, .int .i64 2, .int .i64 2]
    simp at this
    exact this
  clear hW
  have hq := qrep_new hqb (by decide)
  clear hqb
  generalize hqn : w.heap.size = qb at *
  have hqw : w.heap.size ≤ qb := Nat.le_of_eq hqn
  clear hqn
  refine (first_no W qb 0 none hq).mono ?_
  rintro e w1 ⟨rfl, hE1⟩
  replace hE := hE.trans hE1
  replace hq := hq.ext hE1
  replace ha := ha.of_eq (hE1.block _ ha.lt)
  replace hb := hb.of_eq (hE1.block _ hb.lt)
  clear hE1 W
  go_wp2_with fail
  generalize hW : w1.alloc _ = W at *
  have hE2 : Ext w1 W := by rw [← hW]; exact ext_alloc _ _
  replace hE := hE.trans hE2
  replace hq := hq.ext hE2
  replace ha := ha.of_eq (hE2.block _ ha.lt)
  replace hb := hb.of_eq (hE2.block _ hb.lt)
  clear hW hE2
  refine (len_any W qb 0 none [] hq).mono ?_
  rintro e w2 ⟨rfl, hE2⟩
  replace hE := hE.trans hE2
  replace hq := hq.ext hE2
  replace ha := ha.of_eq (hE2.block _ ha.lt)
  replace hb := hb.of_eq (hE2.block _ hb.lt)
  clear hE2
  go_wp2_with fail
  have hqn : ¬ (qb + 1 = qb ∨ w2.heap.size ≤ qb + 1) := by have := ha.lt; omega
  have hqn2 : ¬ (qb + 2 = qb ∨ w2.heap.size ≤ qb + 2) := by have := hb.lt; omega
  have xa : ∀ x : Of (fun X => Tch (fun k => k = qb ∨ w2.heap.size ≤ k) w2 X), Blk x.val (qb + 1) 32 #[.int .i64 1, .int .i64 1, .int .i64 0] := fun x => x.property.blk ha hqn
  have xb : ∀ x : Of (fun X => Tch (fun k => k = qb ∨ w2.heap.size ≤ k) w2 X), Blk x.val (qb + 2) 32 #[.int .i64 1, .int .i64 2, .int .i64 2] := fun x => x.property.blk hb hqn2
  have a0 := fun x => (xa x).cell 0
  have a1 := fun x => (xa x).cell 1
  have a2 := fun x => (xa x).cell 2
  have b0 := fun x => (xb x).cell 0
  have b1 := fun x => (xb x).cell 1
  have b2 := fun x => (xb x).cell 2
  simp only [List.getElem?_toArray, List.getElem?_cons_zero, List.getElem?_cons_succ] at a0 a1 a2 b0 b1 b2
  have F0 : Tch (fun k => k = qb ∨ w2.heap.size ≤ k) w2 w2.drew := (Tch.refl _ _).drew
  have hq0 : QRep w2.drew qb 0 none [] := hq.keep fun _ _ => rfl
  have hFd := F0
  have hne_ : Nonempty (Of (fun X => Tch (fun k => k = qb ∨ w2.heap.size ≤ k) w2 X)) := ⟨⟨_, hFd⟩⟩
  refine region_order [0,2,4,1,3,5,6,7,8] [true,true,true,false,false,false,true,true,true] (fun w' => ∃ x : Of (fun X => Tch (fun k => k = qb ∨ w2.heap.size ≤ k) w2 X), w' = x.val) (by kernel_rfl) (by kernel_rfl) ⟨⟨_, hFd⟩, rfl⟩ ?_
  simp only [List.filterMap_cons, List.filterMap_nil, List.getElem?_cons_zero, List.getElem?_cons_succ]
  refine walk_quiet 3 (by kernel_rfl) ?_
  simp only [List.take_succ_cons, List.take_zero, List.drop_succ_cons, List.drop_zero]
  repeat (go_big_quiet_step (fail))
  refine wpQuiet_nil ?_
  refine walk_want rfl (fun K hK => ?_)
  go_simp
  refine (add_ok w2.drew qb 0 none [] 1 1 0 3 hq0 (okEnt _ _ _ _ (by omega) (by omega) (by omega) (by omega)) rfl (by simp)).mono ?_
  rintro e w3 ⟨rfl, bm1, k1, hk1, hq1, t1, -, m1⟩
  replace hk1 : w2.heap.size ≤ k1 := hk1
  replace m1 : ∀ b, bm1 = some b → w2.heap.size ≤ b := fun b h => (m1 b h).elim (fun h' => absurd h' (by simp)) id
  have F1 : Tch (fun k => k = qb ∨ w2.heap.size ≤ k) w2 w3 := F0.trans t1 (fun i hi _ => by rcases hi with rfl | hi | hi; exact Or.inl rfl; exact absurd hi (by simp); simp [blks] at hi)
  refine hK _ _ ⟨⟨_, F1⟩, rfl⟩ ?_
  clear hK K
  refine walk_want rfl (fun K hK => ?_)
  go_simp
  refine (add_ok w3 qb 0 bm1 ([] ++ [⟨1, 1, 0, 3, k1⟩]) 1 2 2 4 hq1 (okEnt _ _ _ _ (by omega) (by omega) (by omega) (by omega)) rfl (by simp)).mono ?_
  rintro e w4 ⟨rfl, bm2, k2, hk2, hq2, t2, -, m2⟩
  have h34 := F1.size
  replace hk2 : w2.heap.size ≤ k2 := Nat.le_trans h34 hk2
  replace m2 : ∀ b, bm2 = some b → w2.heap.size ≤ b := fun b h => (m2 b h).elim (m1 b) (Nat.le_trans h34)
  have F2 : Tch (fun k => k = qb ∨ w2.heap.size ≤ k) w2 w4 := F1.trans t2 (fun i hi _ => by
    rcases hi with rfl | hi | hi
    · exact Or.inl rfl
    · exact Or.inr (m1 _ hi)
    · simp [blks] at hi; subst hi; exact Or.inr hk1)
  refine hK _ _ ⟨⟨_, F2⟩, rfl⟩ ?_
  clear hK K
  refine walk_want rfl (fun K hK => ?_)
  go_simp
  refine (add_twice w4 qb 0 bm2 _ 1 1 0 5 hq2 (okEnt _ _ _ _ (by omega) (by omega) (by omega) (by omega)) rfl).mono ?_
  rintro e w5 ⟨rfl, hE3⟩
  have F3 : Tch (fun k => k = qb ∨ w2.heap.size ≤ k) w2 w5 := F2.trans (Tch.of_ext (S := fun _ => False) hE3) (fun _ h => h.elim)
  refine hK _ _ ⟨⟨_, F3⟩, rfl⟩ ?_
  clear hK K
  replace hq2 := hq2.ext hE3
  simp only [List.nil_append, List.cons_append] at hq2
  refine walk_quiet 3 (by kernel_rfl) ?_
  simp only [List.take_succ_cons, List.take_zero, List.drop_succ_cons, List.drop_zero]
  repeat (go_big_quiet_step (fail))
  refine wpQuiet_nil ?_
  refine walk_nil ?_
  have hE5 : Ext w w5 := ((Tch.of_ext (S := fun k => w.heap.size ≤ k) hE).trans F3 (fun i hi _ => by have := hE.le; rcases hi with rfl | hi <;> omega)).ext (fun _ h => h)
  replace ha := F3.blk ha hqn
  replace hb := F3.blk hb hqn2
  clear xa xb a0 a1 a2 b0 b1 b2 F0 F1 F2 F3 hqn hqn2 hq hq0 hq1 t1 t2 m1 m2 hE3 hk1 hk2 h34 hE hqw
  go_wp2_with fail
  refine (first_yes w5 qb 0 bm2 _ _ hq2).mono ?_
  rintro e w6 ⟨rfl, hE6⟩
  replace hE5 := hE5.trans hE6
  replace hq2 := hq2.ext hE6
  replace ha := ha.of_eq (hE6.block _ ha.lt)
  replace hb := hb.of_eq (hE6.block _ hb.lt)
  clear hE6
  have b0 : ∀ o, (w6.alloc o).cell? ⟨qb + 1 + 1, 0, none⟩ = some (.int .i64 1) := fun o => (hb.alloc o).cell 0
  have b1 : ∀ o, (w6.alloc o).cell? ⟨qb + 1 + 1, 1, none⟩ = some (.int .i64 2) := fun o => (hb.alloc o).cell 1
  have b2 : ∀ o, (w6.alloc o).cell? ⟨qb + 1 + 1, 2, none⟩ = some (.int .i64 2) := fun o => (hb.alloc o).cell 2
  go_wp2_with fail
  clear b0 b1 b2
  have hc : Blk (w6.alloc (.cells #[.int .i64 1, .int .i64 1, .int .i64 0] 32)) w6.heap.size 32 #[.int .i64 1, .int .i64 1, .int .i64 0] := Blk.new _ _ _
  have hcq : qb + 1 ≠ w6.heap.size ∧ qb + 2 ≠ w6.heap.size := ⟨Nat.ne_of_lt ha.lt, Nat.ne_of_lt hb.lt⟩
  generalize hW : w6.alloc _ = W7 at *
  have hE7 : Ext w6 W7 := by rw [← hW]; exact ext_alloc _ _
  generalize w6.heap.size = cb at *
  replace hE5 := hE5.trans hE7
  replace hq2 := hq2.ext hE7
  replace ha := ha.of_eq (hE7.block _ ha.lt)
  replace hb := hb.of_eq (hE7.block _ hb.lt)
  clear hE7 hW
  refine (since_yes W7 qb 0 bm2 _ _ 1 2 2 hq2 (okEnt 1 2 2 0 (by omega) (by omega) (by omega) (by omega)).key rfl).mono ?_
  rintro e w8 ⟨rfl, hE8⟩
  replace hE5 := hE5.trans hE8
  replace hq2 := hq2.ext hE8
  replace ha := ha.of_eq (hE8.block _ ha.lt)
  replace hb := hb.of_eq (hE8.block _ hb.lt)
  replace hc := hc.of_eq (hE8.block _ hc.lt)
  clear hE8
  have a0 := ha.cell 0
  have a1 := ha.cell 1
  have a2 := ha.cell 2
  have c0 := hc.cell 0
  have c1 := hc.cell 1
  have c2 := hc.cell 2
  simp only [List.getElem?_toArray, List.getElem?_cons_zero, List.getElem?_cons_succ] at a0 a1 a2 c0 c1 c2
  have b0 : w8.cell? ⟨qb + 1 + 1, 0, none⟩ = some (.int .i64 1) := hb.cell 0
  have b1 : w8.cell? ⟨qb + 1 + 1, 1, none⟩ = some (.int .i64 2) := hb.cell 1
  have b2 : w8.cell? ⟨qb + 1 + 1, 2, none⟩ = some (.int .i64 2) := hb.cell 2
  go_wp2_with fail
  refine (has_any w8 qb 0 bm2 _ 1 2 2 hq2 (okEnt 1 2 2 0 (by omega) (by omega) (by omega) (by omega)).key).mono ?_
  rintro e w9 ⟨rfl, hE8⟩
  replace hE5 := hE5.trans hE8
  replace hq2 := hq2.ext hE8
  clear hE8 a0 a1 a2 c0 c1 c2 b0 b1 b2
  have hany : List.any [(⟨1, 1, 0, 3, k1⟩ : Ent), ⟨1, 2, 2, 4, k2⟩] (isT · 1 2 2) = true := rfl
  rw [hany]
  clear hany
  go_wp2_with fail
  refine (list_any w9 qb 0 bm2 _ hq2 (by simp)).mono ?_
  rintro e w10 ⟨v, rfl, hown, hE10⟩
  obtain ⟨g, cap, rfl⟩ := ownsRow_succ (k := 1) hown
  go_wp2_with fail
  go_ret
  exact ⟨rfl, hE5.trans hE10⟩
end Go.Proofs.Ytkpdhciomfanoaa
