/- cron: does a text fit a date? The document's. -/
import Derived.Test.YtmgpkadgalgnnaaDoorCRParse
import Derived.Test.YtmgpkadgalgnnaaDoorCFits
namespace Go.Proofs.YtmgpkadgalgnnaaDoor
set_option maxRecDepth 4000
set_option linter.unusedVariables false
set_option linter.unusedSimpArgs false
open Go Go.RowKit
def memB (l : List Nat) (n : Int) : Bool := l.any fun x => (x : Int) == n
theorem memB_has {l : List Nat} {q : List Prt} (h : ∀ n, n ∈ l ↔ hasP q n = true) (n : Int) : memB l n = (decide (0 ≤ n) && hasP q n.toNat) := by
  unfold memB
  rw [Bool.eq_iff_iff, List.any_eq_true]
  simp only [beq_iff_eq, Bool.and_eq_true, decide_eq_true_eq]
  constructor
  · rintro ⟨x, hx, rfl⟩
    exact ⟨by omega, by simpa using (h x).1 hx⟩
  · rintro ⟨h0, h1⟩
    exact ⟨n.toNat, (h _).2 h1, by omega⟩
theorem refhas_any (w : World) (vn : Value) (z : Bool) (l : List Nat) (n : Int) (hN : NumsR w vn l) :
    Calls Tryd.prog 30 #[.agg #[vn, .bool z], .int .i64 n] w fun e w' => e = .returned (.bool (memB l n)) ∧ Ext w w' := by
  obtain ⟨p, c, rfl, hlen, hN⟩ := hN
  obtain ⟨B, hB⟩ : ∃ B, memB l n = B := ⟨_, rfl⟩
  rw [hB]
  have HB := Lib.hid hB
  clear hB
  have hE0 := ext_alloc w (.cells #[.slice p l.length c, .bool z] 68)
  have k0 : (w.alloc (.cells #[.slice p l.length c, .bool z] 68)).cell? ⟨w.heap.size, 0, none⟩ = some (.slice p l.length c) := cell_box _ _ 0
  go_enter Tryd.func30, Tryd.ntmps30
  go_upto_region 1 with fail
  refine gen_world' (fun X => Ext w X ∧ X.cell? ⟨w.heap.size, 0, none⟩ = some (.slice p l.length c)) ⟨hE0, k0⟩ ?_
  clear hE0 k0
  rintro w1 ⟨hE0, k0⟩
  generalize w.heap.size = b at *
  go_wp2_with fail
  go_loop [5] (fun v => ∃ i : Nat, v = .int .i64 i ∧ i ≤ l.length ∧ ∀ x ∈ l.take i, ¬ (x : Int) = n) (fun v => ((l.length : Int) + 1 - intOf v).toNat)
  case atStart => exact ⟨0, rfl, by omega, by simp⟩
  case round =>
    obtain ⟨i, rfl, hi, hn⟩ := hrel
    by_cases hlt : i < l.length
    · obtain ⟨g, rfl, hc⟩ := hN i l[i] (by rw [List.getElem?_eq_getElem hlt])
      have hi63 : (i : Int) < 9223372036854775807 := by omega
      have hc1 : w1.cell? ⟨g, i, none⟩ = some (.int .i64 (l[i] : Nat)) := (hE0.cell _ _ (World.block_lt_of_cell? w _ hc)).trans hc
      have i7 : (i : Int) < l.length := by omega
      by_cases e : ((l[i] : Nat) : Int) = n
      · have hb : memB l n = true := by
          unfold memB
          rw [List.any_eq_true]
          exact ⟨l[i], List.getElem_mem hlt, by simpa using e⟩
        have e2 : (((l[i] : Nat) : Int) == n) = true := by simpa using e
        have H2 := Lib.hid (HB.out.symm.trans hb)
        clear hn hc e hb
        generalize l[i] = x at *
        go_wp2_with fail
        go_ret
        refine ⟨?_, hE0⟩
        rw [H2.out]; rfl
      · have e2 : (((l[i] : Nat) : Int) == n) = false := by simpa using e
        have H2 : Hid (∀ x ∈ l.take (i + 1), ¬ (x : Int) = n) := Lib.hid (by
          rw [List.take_succ_eq_append_getElem hlt]
          intro x hx
          rcases List.mem_append.1 hx with hx | hx
          · exact hn x hx
          · simp at hx; subst hx; exact e)
        clear hn hc e
        generalize l[i] = x at *
        go_wp2_with fail
        exact ⟨⟨i + 1, by go_num, by omega, H2.out⟩, by simp [intOf]; omega⟩
    · have hi' : i = l.length := by omega
      subst hi'
      have hb : memB l n = false := by
        unfold memB
        rw [List.any_eq_false]
        intro x hx
        have := hn x (by rw [take_len]; exact hx)
        simpa using this
      have H2 := Lib.hid (HB.out.symm.trans hb)
      clear hn hb
      go_wp2_with fail
      go_ret
      refine ⟨?_, hE0⟩
      rw [H2.out]; rfl
/-- the fields, one by one -/
structure Flds (W : World) (g : Nat) (S : Sp) (vs : Nat → Value) (ls : Nat → List Nat) : Prop where
  v : ∀ k, k < 5 → W.cell? ⟨g, 2 * k, none⟩ = some (vs k)
  z : ∀ k, k < 5 → W.cell? ⟨g, 2 * k + 1, none⟩ = some (.bool (S.star k))
  n : ∀ k, k < 5 → NumsR W (vs k) (ls k)
  m : ∀ k, k < 5 → ∀ n, n ∈ ls k ↔ hasP (S.f k) n = true
theorem Flds.ext {W W' : World} {g : Nat} {S : Sp} {vs : Nat → Value} {ls : Nat → List Nat} (H : Flds W g S vs ls) (hE : Ext W W') : Flds W' g S vs ls :=
  ⟨fun k hk => (hE.cell _ _ (World.block_lt_of_cell? W _ (H.v k hk))).trans (H.v k hk), fun k hk => (hE.cell _ _ (World.block_lt_of_cell? W _ (H.z k hk))).trans (H.z k hk), fun k hk => (H.n k hk).ext hE, H.m⟩
theorem FldsAt.open {W : World} {v : Value} {S : Sp} (H : FldsAt W v S) : ∃ g c vs ls, v = .slice (some ⟨g, 0, none⟩) 5 c ∧ Flds W g S vs ls := by
  obtain ⟨g, c, rfl, h⟩ := H
  have h' : ∀ k : Nat, ∃ vn : Value, ∃ l : List Nat, k < 5 → W.cell? ⟨g, 2 * k, none⟩ = some vn ∧ W.cell? ⟨g, 2 * k + 1, none⟩ = some (.bool (S.star k)) ∧ NumsR W vn l ∧ ∀ n, n ∈ l ↔ hasP (S.q.getD k []) n = true := by
    intro k
    by_cases hk : k < 5
    · obtain ⟨vn, l, h⟩ := h k hk
      exact ⟨vn, l, fun _ => h⟩
    · exact ⟨undef, [], fun h => absurd h hk⟩
  obtain ⟨vs, h'⟩ := Classical.axiomOfChoice h'
  obtain ⟨ls, h'⟩ := Classical.axiomOfChoice h'
  exact ⟨g, c, vs, ls, rfl, fun k hk => (h' k hk).1, fun k hk => (h' k hk).2.1, fun k hk => (h' k hk).2.2.1, fun k hk => (h' k hk).2.2.2⟩
theorem fld_has {W : World} {g : Nat} {S : Sp} {vs : Nat → Value} {ls : Nat → List Nat} (H : Flds W g S vs ls) (k : Nat) (hk : k < 5) (z : Bool) (n : Int) :
    Calls Tryd.prog 30 #[.agg #[vs k, .bool z], .int .i64 n] W fun e w' => e = .returned (.bool (S.has k n)) ∧ Ext W w' := by
  have h := refhas_any W (vs k) z (ls k) n (H.n k hk)
  rw [memB_has (H.m k hk) n] at h
  exact h
structure BothR (W : World) (g b : Nat) (S : Sp) (vs : Nat → Value) (ls : Nat → List Nat) (y m d h n k : Int) : Prop where
  s : Flds W g S vs ls
  d : Blk W b 37 (six y m d h n k)
theorem BothR.ext {W W' : World} {g b : Nat} {S : Sp} {vs : Nat → Value} {ls : Nat → List Nat} {y m d h n k : Int} (H : BothR W g b S vs ls y m d h n k) (hE : Ext W W') : BothR W' g b S vs ls y m d h n k :=
  ⟨H.s.ext hE, H.d.of_eq (hE.block b H.d.lt)⟩
set_option maxHeartbeats 1000000 in
theorem refday_any (w : World) (g c : Nat) (S : Sp) (vs : Nat → Value) (ls : Nat → List Nat) (y m d h n k : Int) (hS : Flds w g S vs ls) :
    Calls Tryd.prog 31 #[.slice (some ⟨g, 0, none⟩) 5 c, .agg (six y m d h n k)] w fun e w' => e = .returned (.bool (S.day m d k)) ∧ Ext w w' := by
  have HD : Hid (S.day m d k = if S.has 3 m = true then if (S.star 2 || S.star 4) = true then S.has 2 d && S.has 4 k else S.has 2 d || S.has 4 k else false) := Lib.hid rfl
  have hB0 : BothR (w.alloc (.cells (six y m d h n k) 37)) g w.heap.size S vs ls y m d h n k := ⟨hS.ext (ext_alloc _ _), Blk.new _ _ _⟩
  have hE0 := ext_alloc w (.cells (six y m d h n k) 37)
  go_enter Tryd.func31, Tryd.ntmps31
  go_upto_region 1 with fail
  refine gen_world' (fun X => Ext w X ∧ BothR X g w.heap.size S vs ls y m d h n k) ⟨hE0, hB0⟩ ?_
  clear hE0 hB0
  rintro w1 ⟨hE1, hB1⟩
  generalize w.heap.size = b at *
  have r0 : ∀ z : ExtOf w1, z.val.cell? ⟨g, 0, none⟩ = some (vs 0) := fun z => (hB1.ext z.property).s.v 0 (by omega)
  have r1 : ∀ z : ExtOf w1, z.val.cell? ⟨g, 1, none⟩ = some (.bool (S.star 0)) := fun z => (hB1.ext z.property).s.z 0 (by omega)
  have r2 : ∀ z : ExtOf w1, z.val.cell? ⟨g, 2, none⟩ = some (vs 1) := fun z => (hB1.ext z.property).s.v 1 (by omega)
  have r3 : ∀ z : ExtOf w1, z.val.cell? ⟨g, 3, none⟩ = some (.bool (S.star 1)) := fun z => (hB1.ext z.property).s.z 1 (by omega)
  have r4 : ∀ z : ExtOf w1, z.val.cell? ⟨g, 4, none⟩ = some (vs 2) := fun z => (hB1.ext z.property).s.v 2 (by omega)
  have r5 : ∀ z : ExtOf w1, z.val.cell? ⟨g, 5, none⟩ = some (.bool (S.star 2)) := fun z => (hB1.ext z.property).s.z 2 (by omega)
  have r6 : ∀ z : ExtOf w1, z.val.cell? ⟨g, 6, none⟩ = some (vs 3) := fun z => (hB1.ext z.property).s.v 3 (by omega)
  have r7 : ∀ z : ExtOf w1, z.val.cell? ⟨g, 7, none⟩ = some (.bool (S.star 3)) := fun z => (hB1.ext z.property).s.z 3 (by omega)
  have r8 : ∀ z : ExtOf w1, z.val.cell? ⟨g, 8, none⟩ = some (vs 4) := fun z => (hB1.ext z.property).s.v 4 (by omega)
  have r9 : ∀ z : ExtOf w1, z.val.cell? ⟨g, 9, none⟩ = some (.bool (S.star 4)) := fun z => (hB1.ext z.property).s.z 4 (by omega)
  have d0 : ∀ z : ExtOf w1, z.val.cell? ⟨b, 0, none⟩ = some (.int .i64 y) := fun z => (six_cells (hB1.ext z.property).d).1
  have d1 : ∀ z : ExtOf w1, z.val.cell? ⟨b, 1, none⟩ = some (.int .i64 m) := fun z => (six_cells (hB1.ext z.property).d).2.1
  have d2 : ∀ z : ExtOf w1, z.val.cell? ⟨b, 2, none⟩ = some (.int .i64 d) := fun z => (six_cells (hB1.ext z.property).d).2.2.1
  have d3 : ∀ z : ExtOf w1, z.val.cell? ⟨b, 3, none⟩ = some (.int .i64 h) := fun z => (six_cells (hB1.ext z.property).d).2.2.2.1
  have d4 : ∀ z : ExtOf w1, z.val.cell? ⟨b, 4, none⟩ = some (.int .i64 n) := fun z => (six_cells (hB1.ext z.property).d).2.2.2.2.1
  have d5 : ∀ z : ExtOf w1, z.val.cell? ⟨b, 5, none⟩ = some (.int .i64 k) := fun z => (six_cells (hB1.ext z.property).d).2.2.2.2.2
  have HC3 := (fun z => quiet_ext (fld_has (hB1.s.ext z.property) 3 (by omega) (S.star 3) m) : ∀ z : ExtOf w1, Calls Tryd.prog 30 #[.agg #[vs 3, .bool (S.star 3)], .int .i64 m] z.val fun e W' => e = .returned (.bool (S.has 3 m)) ∧ ∃ y : ExtOf w1, W' = y.val)
  refine region_ext (by kernel_rfl) (by kernel_rfl) ?_
  repeat (go_big_quiet_step (exact HC3 _))
  refine wpQuiet_nil ?_
  intro wq hq
  obtain ⟨xq, rfl⟩ := hq
  have hEq := xq.property
  clear r0 r1 r2 r3 r4 r5 r6 r7 r8 r9 d0 d1 d2 d3 d4 d5
  clear HC3
  replace hB1 := hB1.ext hEq
  have hE2 := hE1.trans hEq
  clear hE1 hEq
  generalize xq.val = w2 at *
  clear xq
  have s5 : w2.cell? ⟨g, 5, none⟩ = some (.bool (S.star 2)) := hB1.s.z 2 (by omega)
  have s9 : w2.cell? ⟨g, 9, none⟩ = some (.bool (S.star 4)) := hB1.s.z 4 (by omega)
  cases b3 : S.has 3 m with
  | false =>
    go_wp2_with fail
    go_ret
    exact ⟨by rw [HD.out, b3]; rfl, hE2⟩
  | true =>
    cases e2 : S.star 2 with
    | true =>
      rw [e2] at s5
      have E2 := Lib.hid e2
      clear e2
      cases e4 : S.star 4 with
      | true =>
        rw [e4] at s9
        have E4 := Lib.hid e4
        clear e4
        go_upto_region 5 with fail
        clear s5 s9
        cases b2 : S.has 2 d with
        | true =>
          have r0 : ∀ z : ExtOf w2, z.val.cell? ⟨g, 0, none⟩ = some (vs 0) := fun z => (hB1.ext z.property).s.v 0 (by omega)
          have r1 : ∀ z : ExtOf w2, z.val.cell? ⟨g, 1, none⟩ = some (.bool (S.star 0)) := fun z => (hB1.ext z.property).s.z 0 (by omega)
          have r2 : ∀ z : ExtOf w2, z.val.cell? ⟨g, 2, none⟩ = some (vs 1) := fun z => (hB1.ext z.property).s.v 1 (by omega)
          have r3 : ∀ z : ExtOf w2, z.val.cell? ⟨g, 3, none⟩ = some (.bool (S.star 1)) := fun z => (hB1.ext z.property).s.z 1 (by omega)
          have r4 : ∀ z : ExtOf w2, z.val.cell? ⟨g, 4, none⟩ = some (vs 2) := fun z => (hB1.ext z.property).s.v 2 (by omega)
          have r5 : ∀ z : ExtOf w2, z.val.cell? ⟨g, 5, none⟩ = some (.bool (S.star 2)) := fun z => (hB1.ext z.property).s.z 2 (by omega)
          have r6 : ∀ z : ExtOf w2, z.val.cell? ⟨g, 6, none⟩ = some (vs 3) := fun z => (hB1.ext z.property).s.v 3 (by omega)
          have r7 : ∀ z : ExtOf w2, z.val.cell? ⟨g, 7, none⟩ = some (.bool (S.star 3)) := fun z => (hB1.ext z.property).s.z 3 (by omega)
          have r8 : ∀ z : ExtOf w2, z.val.cell? ⟨g, 8, none⟩ = some (vs 4) := fun z => (hB1.ext z.property).s.v 4 (by omega)
          have r9 : ∀ z : ExtOf w2, z.val.cell? ⟨g, 9, none⟩ = some (.bool (S.star 4)) := fun z => (hB1.ext z.property).s.z 4 (by omega)
          have d0 : ∀ z : ExtOf w2, z.val.cell? ⟨b, 0, none⟩ = some (.int .i64 y) := fun z => (six_cells (hB1.ext z.property).d).1
          have d1 : ∀ z : ExtOf w2, z.val.cell? ⟨b, 1, none⟩ = some (.int .i64 m) := fun z => (six_cells (hB1.ext z.property).d).2.1
          have d2 : ∀ z : ExtOf w2, z.val.cell? ⟨b, 2, none⟩ = some (.int .i64 d) := fun z => (six_cells (hB1.ext z.property).d).2.2.1
          have d3 : ∀ z : ExtOf w2, z.val.cell? ⟨b, 3, none⟩ = some (.int .i64 h) := fun z => (six_cells (hB1.ext z.property).d).2.2.2.1
          have d4 : ∀ z : ExtOf w2, z.val.cell? ⟨b, 4, none⟩ = some (.int .i64 n) := fun z => (six_cells (hB1.ext z.property).d).2.2.2.2.1
          have d5 : ∀ z : ExtOf w2, z.val.cell? ⟨b, 5, none⟩ = some (.int .i64 k) := fun z => (six_cells (hB1.ext z.property).d).2.2.2.2.2
          have HC2 := (fun z => quiet_ext (fld_has (hB1.s.ext z.property) 2 (by omega) (S.star 2) d) : ∀ z : ExtOf w2, Calls Tryd.prog 30 #[.agg #[vs 2, .bool (S.star 2)], .int .i64 d] z.val fun e W' => e = .returned (.bool (S.has 2 d)) ∧ ∃ y : ExtOf w2, W' = y.val)
          have HC4 := (fun z => quiet_ext (fld_has (hB1.s.ext z.property) 4 (by omega) (S.star 4) k) : ∀ z : ExtOf w2, Calls Tryd.prog 30 #[.agg #[vs 4, .bool (S.star 4)], .int .i64 k] z.val fun e W' => e = .returned (.bool (S.has 4 k)) ∧ ∃ y : ExtOf w2, W' = y.val)
          rw [b2] at HC2
          refine region_ext (by kernel_rfl) (by kernel_rfl) ?_
          repeat (go_big_quiet_step (first | (with_reducible exact HC2 _) | (with_reducible exact HC4 _)))
          refine wpQuiet_nil ?_
          intro wq hq
          obtain ⟨xq, rfl⟩ := hq
          have hEq := xq.property
          clear r0 r1 r2 r3 r4 r5 r6 r7 r8 r9 d0 d1 d2 d3 d4 d5
          clear HC2 HC4
          go_wp2_with fail
          go_ret
          exact ⟨by rw [HD.out, b3, E2.out, E4.out, b2]; rfl, hE2.trans hEq⟩
        | false =>
          have r0 : ∀ z : ExtOf w2, z.val.cell? ⟨g, 0, none⟩ = some (vs 0) := fun z => (hB1.ext z.property).s.v 0 (by omega)
          have r1 : ∀ z : ExtOf w2, z.val.cell? ⟨g, 1, none⟩ = some (.bool (S.star 0)) := fun z => (hB1.ext z.property).s.z 0 (by omega)
          have r2 : ∀ z : ExtOf w2, z.val.cell? ⟨g, 2, none⟩ = some (vs 1) := fun z => (hB1.ext z.property).s.v 1 (by omega)
          have r3 : ∀ z : ExtOf w2, z.val.cell? ⟨g, 3, none⟩ = some (.bool (S.star 1)) := fun z => (hB1.ext z.property).s.z 1 (by omega)
          have r4 : ∀ z : ExtOf w2, z.val.cell? ⟨g, 4, none⟩ = some (vs 2) := fun z => (hB1.ext z.property).s.v 2 (by omega)
          have r5 : ∀ z : ExtOf w2, z.val.cell? ⟨g, 5, none⟩ = some (.bool (S.star 2)) := fun z => (hB1.ext z.property).s.z 2 (by omega)
          have r6 : ∀ z : ExtOf w2, z.val.cell? ⟨g, 6, none⟩ = some (vs 3) := fun z => (hB1.ext z.property).s.v 3 (by omega)
          have r7 : ∀ z : ExtOf w2, z.val.cell? ⟨g, 7, none⟩ = some (.bool (S.star 3)) := fun z => (hB1.ext z.property).s.z 3 (by omega)
          have r8 : ∀ z : ExtOf w2, z.val.cell? ⟨g, 8, none⟩ = some (vs 4) := fun z => (hB1.ext z.property).s.v 4 (by omega)
          have r9 : ∀ z : ExtOf w2, z.val.cell? ⟨g, 9, none⟩ = some (.bool (S.star 4)) := fun z => (hB1.ext z.property).s.z 4 (by omega)
          have d0 : ∀ z : ExtOf w2, z.val.cell? ⟨b, 0, none⟩ = some (.int .i64 y) := fun z => (six_cells (hB1.ext z.property).d).1
          have d1 : ∀ z : ExtOf w2, z.val.cell? ⟨b, 1, none⟩ = some (.int .i64 m) := fun z => (six_cells (hB1.ext z.property).d).2.1
          have d2 : ∀ z : ExtOf w2, z.val.cell? ⟨b, 2, none⟩ = some (.int .i64 d) := fun z => (six_cells (hB1.ext z.property).d).2.2.1
          have d3 : ∀ z : ExtOf w2, z.val.cell? ⟨b, 3, none⟩ = some (.int .i64 h) := fun z => (six_cells (hB1.ext z.property).d).2.2.2.1
          have d4 : ∀ z : ExtOf w2, z.val.cell? ⟨b, 4, none⟩ = some (.int .i64 n) := fun z => (six_cells (hB1.ext z.property).d).2.2.2.2.1
          have d5 : ∀ z : ExtOf w2, z.val.cell? ⟨b, 5, none⟩ = some (.int .i64 k) := fun z => (six_cells (hB1.ext z.property).d).2.2.2.2.2
          have HC2 := (fun z => quiet_ext (fld_has (hB1.s.ext z.property) 2 (by omega) (S.star 2) d) : ∀ z : ExtOf w2, Calls Tryd.prog 30 #[.agg #[vs 2, .bool (S.star 2)], .int .i64 d] z.val fun e W' => e = .returned (.bool (S.has 2 d)) ∧ ∃ y : ExtOf w2, W' = y.val)
          have HC4 := (fun z => quiet_ext (fld_has (hB1.s.ext z.property) 4 (by omega) (S.star 4) k) : ∀ z : ExtOf w2, Calls Tryd.prog 30 #[.agg #[vs 4, .bool (S.star 4)], .int .i64 k] z.val fun e W' => e = .returned (.bool (S.has 4 k)) ∧ ∃ y : ExtOf w2, W' = y.val)
          rw [b2] at HC2
          refine region_ext (by kernel_rfl) (by kernel_rfl) ?_
          repeat (go_big_quiet_step (first | (with_reducible exact HC2 _) | (with_reducible exact HC4 _)))
          refine wpQuiet_nil ?_
          intro wq hq
          obtain ⟨xq, rfl⟩ := hq
          have hEq := xq.property
          clear r0 r1 r2 r3 r4 r5 r6 r7 r8 r9 d0 d1 d2 d3 d4 d5
          clear HC2 HC4
          go_wp2_with fail
          go_ret
          exact ⟨by rw [HD.out, b3, E2.out, E4.out, b2]; rfl, hE2.trans hEq⟩
      | false =>
        rw [e4] at s9
        have E4 := Lib.hid e4
        clear e4
        go_upto_region 5 with fail
        clear s5 s9
        cases b2 : S.has 2 d with
        | true =>
          have r0 : ∀ z : ExtOf w2, z.val.cell? ⟨g, 0, none⟩ = some (vs 0) := fun z => (hB1.ext z.property).s.v 0 (by omega)
          have r1 : ∀ z : ExtOf w2, z.val.cell? ⟨g, 1, none⟩ = some (.bool (S.star 0)) := fun z => (hB1.ext z.property).s.z 0 (by omega)
          have r2 : ∀ z : ExtOf w2, z.val.cell? ⟨g, 2, none⟩ = some (vs 1) := fun z => (hB1.ext z.property).s.v 1 (by omega)
          have r3 : ∀ z : ExtOf w2, z.val.cell? ⟨g, 3, none⟩ = some (.bool (S.star 1)) := fun z => (hB1.ext z.property).s.z 1 (by omega)
          have r4 : ∀ z : ExtOf w2, z.val.cell? ⟨g, 4, none⟩ = some (vs 2) := fun z => (hB1.ext z.property).s.v 2 (by omega)
          have r5 : ∀ z : ExtOf w2, z.val.cell? ⟨g, 5, none⟩ = some (.bool (S.star 2)) := fun z => (hB1.ext z.property).s.z 2 (by omega)
          have r6 : ∀ z : ExtOf w2, z.val.cell? ⟨g, 6, none⟩ = some (vs 3) := fun z => (hB1.ext z.property).s.v 3 (by omega)
          have r7 : ∀ z : ExtOf w2, z.val.cell? ⟨g, 7, none⟩ = some (.bool (S.star 3)) := fun z => (hB1.ext z.property).s.z 3 (by omega)
          have r8 : ∀ z : ExtOf w2, z.val.cell? ⟨g, 8, none⟩ = some (vs 4) := fun z => (hB1.ext z.property).s.v 4 (by omega)
          have r9 : ∀ z : ExtOf w2, z.val.cell? ⟨g, 9, none⟩ = some (.bool (S.star 4)) := fun z => (hB1.ext z.property).s.z 4 (by omega)
          have d0 : ∀ z : ExtOf w2, z.val.cell? ⟨b, 0, none⟩ = some (.int .i64 y) := fun z => (six_cells (hB1.ext z.property).d).1
          have d1 : ∀ z : ExtOf w2, z.val.cell? ⟨b, 1, none⟩ = some (.int .i64 m) := fun z => (six_cells (hB1.ext z.property).d).2.1
          have d2 : ∀ z : ExtOf w2, z.val.cell? ⟨b, 2, none⟩ = some (.int .i64 d) := fun z => (six_cells (hB1.ext z.property).d).2.2.1
          have d3 : ∀ z : ExtOf w2, z.val.cell? ⟨b, 3, none⟩ = some (.int .i64 h) := fun z => (six_cells (hB1.ext z.property).d).2.2.2.1
          have d4 : ∀ z : ExtOf w2, z.val.cell? ⟨b, 4, none⟩ = some (.int .i64 n) := fun z => (six_cells (hB1.ext z.property).d).2.2.2.2.1
          have d5 : ∀ z : ExtOf w2, z.val.cell? ⟨b, 5, none⟩ = some (.int .i64 k) := fun z => (six_cells (hB1.ext z.property).d).2.2.2.2.2
          have HC2 := (fun z => quiet_ext (fld_has (hB1.s.ext z.property) 2 (by omega) (S.star 2) d) : ∀ z : ExtOf w2, Calls Tryd.prog 30 #[.agg #[vs 2, .bool (S.star 2)], .int .i64 d] z.val fun e W' => e = .returned (.bool (S.has 2 d)) ∧ ∃ y : ExtOf w2, W' = y.val)
          have HC4 := (fun z => quiet_ext (fld_has (hB1.s.ext z.property) 4 (by omega) (S.star 4) k) : ∀ z : ExtOf w2, Calls Tryd.prog 30 #[.agg #[vs 4, .bool (S.star 4)], .int .i64 k] z.val fun e W' => e = .returned (.bool (S.has 4 k)) ∧ ∃ y : ExtOf w2, W' = y.val)
          rw [b2] at HC2
          refine region_ext (by kernel_rfl) (by kernel_rfl) ?_
          repeat (go_big_quiet_step (first | (with_reducible exact HC2 _) | (with_reducible exact HC4 _)))
          refine wpQuiet_nil ?_
          intro wq hq
          obtain ⟨xq, rfl⟩ := hq
          have hEq := xq.property
          clear r0 r1 r2 r3 r4 r5 r6 r7 r8 r9 d0 d1 d2 d3 d4 d5
          clear HC2 HC4
          go_wp2_with fail
          go_ret
          exact ⟨by rw [HD.out, b3, E2.out, E4.out, b2]; rfl, hE2.trans hEq⟩
        | false =>
          have r0 : ∀ z : ExtOf w2, z.val.cell? ⟨g, 0, none⟩ = some (vs 0) := fun z => (hB1.ext z.property).s.v 0 (by omega)
          have r1 : ∀ z : ExtOf w2, z.val.cell? ⟨g, 1, none⟩ = some (.bool (S.star 0)) := fun z => (hB1.ext z.property).s.z 0 (by omega)
          have r2 : ∀ z : ExtOf w2, z.val.cell? ⟨g, 2, none⟩ = some (vs 1) := fun z => (hB1.ext z.property).s.v 1 (by omega)
          have r3 : ∀ z : ExtOf w2, z.val.cell? ⟨g, 3, none⟩ = some (.bool (S.star 1)) := fun z => (hB1.ext z.property).s.z 1 (by omega)
          have r4 : ∀ z : ExtOf w2, z.val.cell? ⟨g, 4, none⟩ = some (vs 2) := fun z => (hB1.ext z.property).s.v 2 (by omega)
          have r5 : ∀ z : ExtOf w2, z.val.cell? ⟨g, 5, none⟩ = some (.bool (S.star 2)) := fun z => (hB1.ext z.property).s.z 2 (by omega)
          have r6 : ∀ z : ExtOf w2, z.val.cell? ⟨g, 6, none⟩ = some (vs 3) := fun z => (hB1.ext z.property).s.v 3 (by omega)
          have r7 : ∀ z : ExtOf w2, z.val.cell? ⟨g, 7, none⟩ = some (.bool (S.star 3)) := fun z => (hB1.ext z.property).s.z 3 (by omega)
          have r8 : ∀ z : ExtOf w2, z.val.cell? ⟨g, 8, none⟩ = some (vs 4) := fun z => (hB1.ext z.property).s.v 4 (by omega)
          have r9 : ∀ z : ExtOf w2, z.val.cell? ⟨g, 9, none⟩ = some (.bool (S.star 4)) := fun z => (hB1.ext z.property).s.z 4 (by omega)
          have d0 : ∀ z : ExtOf w2, z.val.cell? ⟨b, 0, none⟩ = some (.int .i64 y) := fun z => (six_cells (hB1.ext z.property).d).1
          have d1 : ∀ z : ExtOf w2, z.val.cell? ⟨b, 1, none⟩ = some (.int .i64 m) := fun z => (six_cells (hB1.ext z.property).d).2.1
          have d2 : ∀ z : ExtOf w2, z.val.cell? ⟨b, 2, none⟩ = some (.int .i64 d) := fun z => (six_cells (hB1.ext z.property).d).2.2.1
          have d3 : ∀ z : ExtOf w2, z.val.cell? ⟨b, 3, none⟩ = some (.int .i64 h) := fun z => (six_cells (hB1.ext z.property).d).2.2.2.1
          have d4 : ∀ z : ExtOf w2, z.val.cell? ⟨b, 4, none⟩ = some (.int .i64 n) := fun z => (six_cells (hB1.ext z.property).d).2.2.2.2.1
          have d5 : ∀ z : ExtOf w2, z.val.cell? ⟨b, 5, none⟩ = some (.int .i64 k) := fun z => (six_cells (hB1.ext z.property).d).2.2.2.2.2
          have HC2 := (fun z => quiet_ext (fld_has (hB1.s.ext z.property) 2 (by omega) (S.star 2) d) : ∀ z : ExtOf w2, Calls Tryd.prog 30 #[.agg #[vs 2, .bool (S.star 2)], .int .i64 d] z.val fun e W' => e = .returned (.bool (S.has 2 d)) ∧ ∃ y : ExtOf w2, W' = y.val)
          have HC4 := (fun z => quiet_ext (fld_has (hB1.s.ext z.property) 4 (by omega) (S.star 4) k) : ∀ z : ExtOf w2, Calls Tryd.prog 30 #[.agg #[vs 4, .bool (S.star 4)], .int .i64 k] z.val fun e W' => e = .returned (.bool (S.has 4 k)) ∧ ∃ y : ExtOf w2, W' = y.val)
          rw [b2] at HC2
          refine region_ext (by kernel_rfl) (by kernel_rfl) ?_
          repeat (go_big_quiet_step (first | (with_reducible exact HC2 _) | (with_reducible exact HC4 _)))
          refine wpQuiet_nil ?_
          intro wq hq
          obtain ⟨xq, rfl⟩ := hq
          have hEq := xq.property
          clear r0 r1 r2 r3 r4 r5 r6 r7 r8 r9 d0 d1 d2 d3 d4 d5
          clear HC2 HC4
          go_wp2_with fail
          go_ret
          exact ⟨by rw [HD.out, b3, E2.out, E4.out, b2]; rfl, hE2.trans hEq⟩
    | false =>
      rw [e2] at s5
      have E2 := Lib.hid e2
      clear e2
      cases e4 : S.star 4 with
      | true =>
        rw [e4] at s9
        have E4 := Lib.hid e4
        clear e4
        go_upto_region 5 with fail
        clear s5 s9
        cases b2 : S.has 2 d with
        | true =>
          have r0 : ∀ z : ExtOf w2, z.val.cell? ⟨g, 0, none⟩ = some (vs 0) := fun z => (hB1.ext z.property).s.v 0 (by omega)
          have r1 : ∀ z : ExtOf w2, z.val.cell? ⟨g, 1, none⟩ = some (.bool (S.star 0)) := fun z => (hB1.ext z.property).s.z 0 (by omega)
          have r2 : ∀ z : ExtOf w2, z.val.cell? ⟨g, 2, none⟩ = some (vs 1) := fun z => (hB1.ext z.property).s.v 1 (by omega)
          have r3 : ∀ z : ExtOf w2, z.val.cell? ⟨g, 3, none⟩ = some (.bool (S.star 1)) := fun z => (hB1.ext z.property).s.z 1 (by omega)
          have r4 : ∀ z : ExtOf w2, z.val.cell? ⟨g, 4, none⟩ = some (vs 2) := fun z => (hB1.ext z.property).s.v 2 (by omega)
          have r5 : ∀ z : ExtOf w2, z.val.cell? ⟨g, 5, none⟩ = some (.bool (S.star 2)) := fun z => (hB1.ext z.property).s.z 2 (by omega)
          have r6 : ∀ z : ExtOf w2, z.val.cell? ⟨g, 6, none⟩ = some (vs 3) := fun z => (hB1.ext z.property).s.v 3 (by omega)
          have r7 : ∀ z : ExtOf w2, z.val.cell? ⟨g, 7, none⟩ = some (.bool (S.star 3)) := fun z => (hB1.ext z.property).s.z 3 (by omega)
          have r8 : ∀ z : ExtOf w2, z.val.cell? ⟨g, 8, none⟩ = some (vs 4) := fun z => (hB1.ext z.property).s.v 4 (by omega)
          have r9 : ∀ z : ExtOf w2, z.val.cell? ⟨g, 9, none⟩ = some (.bool (S.star 4)) := fun z => (hB1.ext z.property).s.z 4 (by omega)
          have d0 : ∀ z : ExtOf w2, z.val.cell? ⟨b, 0, none⟩ = some (.int .i64 y) := fun z => (six_cells (hB1.ext z.property).d).1
          have d1 : ∀ z : ExtOf w2, z.val.cell? ⟨b, 1, none⟩ = some (.int .i64 m) := fun z => (six_cells (hB1.ext z.property).d).2.1
          have d2 : ∀ z : ExtOf w2, z.val.cell? ⟨b, 2, none⟩ = some (.int .i64 d) := fun z => (six_cells (hB1.ext z.property).d).2.2.1
          have d3 : ∀ z : ExtOf w2, z.val.cell? ⟨b, 3, none⟩ = some (.int .i64 h) := fun z => (six_cells (hB1.ext z.property).d).2.2.2.1
          have d4 : ∀ z : ExtOf w2, z.val.cell? ⟨b, 4, none⟩ = some (.int .i64 n) := fun z => (six_cells (hB1.ext z.property).d).2.2.2.2.1
          have d5 : ∀ z : ExtOf w2, z.val.cell? ⟨b, 5, none⟩ = some (.int .i64 k) := fun z => (six_cells (hB1.ext z.property).d).2.2.2.2.2
          have HC2 := (fun z => quiet_ext (fld_has (hB1.s.ext z.property) 2 (by omega) (S.star 2) d) : ∀ z : ExtOf w2, Calls Tryd.prog 30 #[.agg #[vs 2, .bool (S.star 2)], .int .i64 d] z.val fun e W' => e = .returned (.bool (S.has 2 d)) ∧ ∃ y : ExtOf w2, W' = y.val)
          have HC4 := (fun z => quiet_ext (fld_has (hB1.s.ext z.property) 4 (by omega) (S.star 4) k) : ∀ z : ExtOf w2, Calls Tryd.prog 30 #[.agg #[vs 4, .bool (S.star 4)], .int .i64 k] z.val fun e W' => e = .returned (.bool (S.has 4 k)) ∧ ∃ y : ExtOf w2, W' = y.val)
          rw [b2] at HC2
          refine region_ext (by kernel_rfl) (by kernel_rfl) ?_
          repeat (go_big_quiet_step (first | (with_reducible exact HC2 _) | (with_reducible exact HC4 _)))
          refine wpQuiet_nil ?_
          intro wq hq
          obtain ⟨xq, rfl⟩ := hq
          have hEq := xq.property
          clear r0 r1 r2 r3 r4 r5 r6 r7 r8 r9 d0 d1 d2 d3 d4 d5
          clear HC2 HC4
          go_wp2_with fail
          go_ret
          exact ⟨by rw [HD.out, b3, E2.out, E4.out, b2]; rfl, hE2.trans hEq⟩
        | false =>
          have r0 : ∀ z : ExtOf w2, z.val.cell? ⟨g, 0, none⟩ = some (vs 0) := fun z => (hB1.ext z.property).s.v 0 (by omega)
          have r1 : ∀ z : ExtOf w2, z.val.cell? ⟨g, 1, none⟩ = some (.bool (S.star 0)) := fun z => (hB1.ext z.property).s.z 0 (by omega)
          have r2 : ∀ z : ExtOf w2, z.val.cell? ⟨g, 2, none⟩ = some (vs 1) := fun z => (hB1.ext z.property).s.v 1 (by omega)
          have r3 : ∀ z : ExtOf w2, z.val.cell? ⟨g, 3, none⟩ = some (.bool (S.star 1)) := fun z => (hB1.ext z.property).s.z 1 (by omega)
          have r4 : ∀ z : ExtOf w2, z.val.cell? ⟨g, 4, none⟩ = some (vs 2) := fun z => (hB1.ext z.property).s.v 2 (by omega)
          have r5 : ∀ z : ExtOf w2, z.val.cell? ⟨g, 5, none⟩ = some (.bool (S.star 2)) := fun z => (hB1.ext z.property).s.z 2 (by omega)
          have r6 : ∀ z : ExtOf w2, z.val.cell? ⟨g, 6, none⟩ = some (vs 3) := fun z => (hB1.ext z.property).s.v 3 (by omega)
          have r7 : ∀ z : ExtOf w2, z.val.cell? ⟨g, 7, none⟩ = some (.bool (S.star 3)) := fun z => (hB1.ext z.property).s.z 3 (by omega)
          have r8 : ∀ z : ExtOf w2, z.val.cell? ⟨g, 8, none⟩ = some (vs 4) := fun z => (hB1.ext z.property).s.v 4 (by omega)
          have r9 : ∀ z : ExtOf w2, z.val.cell? ⟨g, 9, none⟩ = some (.bool (S.star 4)) := fun z => (hB1.ext z.property).s.z 4 (by omega)
          have d0 : ∀ z : ExtOf w2, z.val.cell? ⟨b, 0, none⟩ = some (.int .i64 y) := fun z => (six_cells (hB1.ext z.property).d).1
          have d1 : ∀ z : ExtOf w2, z.val.cell? ⟨b, 1, none⟩ = some (.int .i64 m) := fun z => (six_cells (hB1.ext z.property).d).2.1
          have d2 : ∀ z : ExtOf w2, z.val.cell? ⟨b, 2, none⟩ = some (.int .i64 d) := fun z => (six_cells (hB1.ext z.property).d).2.2.1
          have d3 : ∀ z : ExtOf w2, z.val.cell? ⟨b, 3, none⟩ = some (.int .i64 h) := fun z => (six_cells (hB1.ext z.property).d).2.2.2.1
          have d4 : ∀ z : ExtOf w2, z.val.cell? ⟨b, 4, none⟩ = some (.int .i64 n) := fun z => (six_cells (hB1.ext z.property).d).2.2.2.2.1
          have d5 : ∀ z : ExtOf w2, z.val.cell? ⟨b, 5, none⟩ = some (.int .i64 k) := fun z => (six_cells (hB1.ext z.property).d).2.2.2.2.2
          have HC2 := (fun z => quiet_ext (fld_has (hB1.s.ext z.property) 2 (by omega) (S.star 2) d) : ∀ z : ExtOf w2, Calls Tryd.prog 30 #[.agg #[vs 2, .bool (S.star 2)], .int .i64 d] z.val fun e W' => e = .returned (.bool (S.has 2 d)) ∧ ∃ y : ExtOf w2, W' = y.val)
          have HC4 := (fun z => quiet_ext (fld_has (hB1.s.ext z.property) 4 (by omega) (S.star 4) k) : ∀ z : ExtOf w2, Calls Tryd.prog 30 #[.agg #[vs 4, .bool (S.star 4)], .int .i64 k] z.val fun e W' => e = .returned (.bool (S.has 4 k)) ∧ ∃ y : ExtOf w2, W' = y.val)
          rw [b2] at HC2
          refine region_ext (by kernel_rfl) (by kernel_rfl) ?_
          repeat (go_big_quiet_step (first | (with_reducible exact HC2 _) | (with_reducible exact HC4 _)))
          refine wpQuiet_nil ?_
          intro wq hq
          obtain ⟨xq, rfl⟩ := hq
          have hEq := xq.property
          clear r0 r1 r2 r3 r4 r5 r6 r7 r8 r9 d0 d1 d2 d3 d4 d5
          clear HC2 HC4
          go_wp2_with fail
          go_ret
          exact ⟨by rw [HD.out, b3, E2.out, E4.out, b2]; rfl, hE2.trans hEq⟩
      | false =>
        rw [e4] at s9
        have E4 := Lib.hid e4
        clear e4
        go_upto_region 4 with fail
        clear s5 s9
        cases b2 : S.has 2 d with
        | true =>
          have r0 : ∀ z : ExtOf w2, z.val.cell? ⟨g, 0, none⟩ = some (vs 0) := fun z => (hB1.ext z.property).s.v 0 (by omega)
          have r1 : ∀ z : ExtOf w2, z.val.cell? ⟨g, 1, none⟩ = some (.bool (S.star 0)) := fun z => (hB1.ext z.property).s.z 0 (by omega)
          have r2 : ∀ z : ExtOf w2, z.val.cell? ⟨g, 2, none⟩ = some (vs 1) := fun z => (hB1.ext z.property).s.v 1 (by omega)
          have r3 : ∀ z : ExtOf w2, z.val.cell? ⟨g, 3, none⟩ = some (.bool (S.star 1)) := fun z => (hB1.ext z.property).s.z 1 (by omega)
          have r4 : ∀ z : ExtOf w2, z.val.cell? ⟨g, 4, none⟩ = some (vs 2) := fun z => (hB1.ext z.property).s.v 2 (by omega)
          have r5 : ∀ z : ExtOf w2, z.val.cell? ⟨g, 5, none⟩ = some (.bool (S.star 2)) := fun z => (hB1.ext z.property).s.z 2 (by omega)
          have r6 : ∀ z : ExtOf w2, z.val.cell? ⟨g, 6, none⟩ = some (vs 3) := fun z => (hB1.ext z.property).s.v 3 (by omega)
          have r7 : ∀ z : ExtOf w2, z.val.cell? ⟨g, 7, none⟩ = some (.bool (S.star 3)) := fun z => (hB1.ext z.property).s.z 3 (by omega)
          have r8 : ∀ z : ExtOf w2, z.val.cell? ⟨g, 8, none⟩ = some (vs 4) := fun z => (hB1.ext z.property).s.v 4 (by omega)
          have r9 : ∀ z : ExtOf w2, z.val.cell? ⟨g, 9, none⟩ = some (.bool (S.star 4)) := fun z => (hB1.ext z.property).s.z 4 (by omega)
          have d0 : ∀ z : ExtOf w2, z.val.cell? ⟨b, 0, none⟩ = some (.int .i64 y) := fun z => (six_cells (hB1.ext z.property).d).1
          have d1 : ∀ z : ExtOf w2, z.val.cell? ⟨b, 1, none⟩ = some (.int .i64 m) := fun z => (six_cells (hB1.ext z.property).d).2.1
          have d2 : ∀ z : ExtOf w2, z.val.cell? ⟨b, 2, none⟩ = some (.int .i64 d) := fun z => (six_cells (hB1.ext z.property).d).2.2.1
          have d3 : ∀ z : ExtOf w2, z.val.cell? ⟨b, 3, none⟩ = some (.int .i64 h) := fun z => (six_cells (hB1.ext z.property).d).2.2.2.1
          have d4 : ∀ z : ExtOf w2, z.val.cell? ⟨b, 4, none⟩ = some (.int .i64 n) := fun z => (six_cells (hB1.ext z.property).d).2.2.2.2.1
          have d5 : ∀ z : ExtOf w2, z.val.cell? ⟨b, 5, none⟩ = some (.int .i64 k) := fun z => (six_cells (hB1.ext z.property).d).2.2.2.2.2
          have HC2 := (fun z => quiet_ext (fld_has (hB1.s.ext z.property) 2 (by omega) (S.star 2) d) : ∀ z : ExtOf w2, Calls Tryd.prog 30 #[.agg #[vs 2, .bool (S.star 2)], .int .i64 d] z.val fun e W' => e = .returned (.bool (S.has 2 d)) ∧ ∃ y : ExtOf w2, W' = y.val)
          have HC4 := (fun z => quiet_ext (fld_has (hB1.s.ext z.property) 4 (by omega) (S.star 4) k) : ∀ z : ExtOf w2, Calls Tryd.prog 30 #[.agg #[vs 4, .bool (S.star 4)], .int .i64 k] z.val fun e W' => e = .returned (.bool (S.has 4 k)) ∧ ∃ y : ExtOf w2, W' = y.val)
          rw [b2] at HC2
          refine region_ext (by kernel_rfl) (by kernel_rfl) ?_
          repeat (go_big_quiet_step (first | (with_reducible exact HC2 _) | (with_reducible exact HC4 _)))
          refine wpQuiet_nil ?_
          intro wq hq
          obtain ⟨xq, rfl⟩ := hq
          have hEq := xq.property
          clear r0 r1 r2 r3 r4 r5 r6 r7 r8 r9 d0 d1 d2 d3 d4 d5
          clear HC2 HC4
          go_wp2_with fail
          go_ret
          exact ⟨by rw [HD.out, b3, E2.out, E4.out, b2]; rfl, hE2.trans hEq⟩
        | false =>
          have r0 : ∀ z : ExtOf w2, z.val.cell? ⟨g, 0, none⟩ = some (vs 0) := fun z => (hB1.ext z.property).s.v 0 (by omega)
          have r1 : ∀ z : ExtOf w2, z.val.cell? ⟨g, 1, none⟩ = some (.bool (S.star 0)) := fun z => (hB1.ext z.property).s.z 0 (by omega)
          have r2 : ∀ z : ExtOf w2, z.val.cell? ⟨g, 2, none⟩ = some (vs 1) := fun z => (hB1.ext z.property).s.v 1 (by omega)
          have r3 : ∀ z : ExtOf w2, z.val.cell? ⟨g, 3, none⟩ = some (.bool (S.star 1)) := fun z => (hB1.ext z.property).s.z 1 (by omega)
          have r4 : ∀ z : ExtOf w2, z.val.cell? ⟨g, 4, none⟩ = some (vs 2) := fun z => (hB1.ext z.property).s.v 2 (by omega)
          have r5 : ∀ z : ExtOf w2, z.val.cell? ⟨g, 5, none⟩ = some (.bool (S.star 2)) := fun z => (hB1.ext z.property).s.z 2 (by omega)
          have r6 : ∀ z : ExtOf w2, z.val.cell? ⟨g, 6, none⟩ = some (vs 3) := fun z => (hB1.ext z.property).s.v 3 (by omega)
          have r7 : ∀ z : ExtOf w2, z.val.cell? ⟨g, 7, none⟩ = some (.bool (S.star 3)) := fun z => (hB1.ext z.property).s.z 3 (by omega)
          have r8 : ∀ z : ExtOf w2, z.val.cell? ⟨g, 8, none⟩ = some (vs 4) := fun z => (hB1.ext z.property).s.v 4 (by omega)
          have r9 : ∀ z : ExtOf w2, z.val.cell? ⟨g, 9, none⟩ = some (.bool (S.star 4)) := fun z => (hB1.ext z.property).s.z 4 (by omega)
          have d0 : ∀ z : ExtOf w2, z.val.cell? ⟨b, 0, none⟩ = some (.int .i64 y) := fun z => (six_cells (hB1.ext z.property).d).1
          have d1 : ∀ z : ExtOf w2, z.val.cell? ⟨b, 1, none⟩ = some (.int .i64 m) := fun z => (six_cells (hB1.ext z.property).d).2.1
          have d2 : ∀ z : ExtOf w2, z.val.cell? ⟨b, 2, none⟩ = some (.int .i64 d) := fun z => (six_cells (hB1.ext z.property).d).2.2.1
          have d3 : ∀ z : ExtOf w2, z.val.cell? ⟨b, 3, none⟩ = some (.int .i64 h) := fun z => (six_cells (hB1.ext z.property).d).2.2.2.1
          have d4 : ∀ z : ExtOf w2, z.val.cell? ⟨b, 4, none⟩ = some (.int .i64 n) := fun z => (six_cells (hB1.ext z.property).d).2.2.2.2.1
          have d5 : ∀ z : ExtOf w2, z.val.cell? ⟨b, 5, none⟩ = some (.int .i64 k) := fun z => (six_cells (hB1.ext z.property).d).2.2.2.2.2
          have HC2 := (fun z => quiet_ext (fld_has (hB1.s.ext z.property) 2 (by omega) (S.star 2) d) : ∀ z : ExtOf w2, Calls Tryd.prog 30 #[.agg #[vs 2, .bool (S.star 2)], .int .i64 d] z.val fun e W' => e = .returned (.bool (S.has 2 d)) ∧ ∃ y : ExtOf w2, W' = y.val)
          have HC4 := (fun z => quiet_ext (fld_has (hB1.s.ext z.property) 4 (by omega) (S.star 4) k) : ∀ z : ExtOf w2, Calls Tryd.prog 30 #[.agg #[vs 4, .bool (S.star 4)], .int .i64 k] z.val fun e W' => e = .returned (.bool (S.has 4 k)) ∧ ∃ y : ExtOf w2, W' = y.val)
          rw [b2] at HC2
          refine region_ext (by kernel_rfl) (by kernel_rfl) ?_
          repeat (go_big_quiet_step (first | (with_reducible exact HC2 _) | (with_reducible exact HC4 _)))
          refine wpQuiet_nil ?_
          intro wq hq
          obtain ⟨xq, rfl⟩ := hq
          have hEq := xq.property
          clear r0 r1 r2 r3 r4 r5 r6 r7 r8 r9 d0 d1 d2 d3 d4 d5
          clear HC2 HC4
          go_wp2_with fail
          go_ret
          exact ⟨by rw [HD.out, b3, E2.out, E4.out, b2]; rfl, hE2.trans hEq⟩
set_option maxHeartbeats 1000000 in
theorem reffits_any (w : World) (g c : Nat) (S : Sp) (vs : Nat → Value) (ls : Nat → List Nat) (y m d h n k : Int) (hS : Flds w g S vs ls) :
    Calls Tryd.prog 15 #[.slice (some ⟨g, 0, none⟩) 5 c, .agg (six y m d h n k)] w fun e w' => e = .returned (.bool (S.fits m d h n k)) ∧ Ext w w' := by
  have HD : Hid (S.fits m d h n k = (S.has 0 n && (S.has 1 h && S.day m d k))) := Lib.hid rfl
  have hB0 : BothR (w.alloc (.cells (six y m d h n k) 37)) g w.heap.size S vs ls y m d h n k := ⟨hS.ext (ext_alloc _ _), Blk.new _ _ _⟩
  have hE0 := ext_alloc w (.cells (six y m d h n k) 37)
  go_enter Tryd.func15, Tryd.ntmps15
  go_upto_region 1 with fail
  refine gen_world' (fun X => Ext w X ∧ BothR X g w.heap.size S vs ls y m d h n k) ⟨hE0, hB0⟩ ?_
  clear hE0 hB0
  rintro w1 ⟨hE1, hB1⟩
  generalize w.heap.size = b at *
  have r0 : ∀ z : ExtOf w1, z.val.cell? ⟨g, 0, none⟩ = some (vs 0) := fun z => (hB1.ext z.property).s.v 0 (by omega)
  have r1 : ∀ z : ExtOf w1, z.val.cell? ⟨g, 1, none⟩ = some (.bool (S.star 0)) := fun z => (hB1.ext z.property).s.z 0 (by omega)
  have r2 : ∀ z : ExtOf w1, z.val.cell? ⟨g, 2, none⟩ = some (vs 1) := fun z => (hB1.ext z.property).s.v 1 (by omega)
  have r3 : ∀ z : ExtOf w1, z.val.cell? ⟨g, 3, none⟩ = some (.bool (S.star 1)) := fun z => (hB1.ext z.property).s.z 1 (by omega)
  have r4 : ∀ z : ExtOf w1, z.val.cell? ⟨g, 4, none⟩ = some (vs 2) := fun z => (hB1.ext z.property).s.v 2 (by omega)
  have r5 : ∀ z : ExtOf w1, z.val.cell? ⟨g, 5, none⟩ = some (.bool (S.star 2)) := fun z => (hB1.ext z.property).s.z 2 (by omega)
  have r6 : ∀ z : ExtOf w1, z.val.cell? ⟨g, 6, none⟩ = some (vs 3) := fun z => (hB1.ext z.property).s.v 3 (by omega)
  have r7 : ∀ z : ExtOf w1, z.val.cell? ⟨g, 7, none⟩ = some (.bool (S.star 3)) := fun z => (hB1.ext z.property).s.z 3 (by omega)
  have r8 : ∀ z : ExtOf w1, z.val.cell? ⟨g, 8, none⟩ = some (vs 4) := fun z => (hB1.ext z.property).s.v 4 (by omega)
  have r9 : ∀ z : ExtOf w1, z.val.cell? ⟨g, 9, none⟩ = some (.bool (S.star 4)) := fun z => (hB1.ext z.property).s.z 4 (by omega)
  have d0 : ∀ z : ExtOf w1, z.val.cell? ⟨b, 0, none⟩ = some (.int .i64 y) := fun z => (six_cells (hB1.ext z.property).d).1
  have d1 : ∀ z : ExtOf w1, z.val.cell? ⟨b, 1, none⟩ = some (.int .i64 m) := fun z => (six_cells (hB1.ext z.property).d).2.1
  have d2 : ∀ z : ExtOf w1, z.val.cell? ⟨b, 2, none⟩ = some (.int .i64 d) := fun z => (six_cells (hB1.ext z.property).d).2.2.1
  have d3 : ∀ z : ExtOf w1, z.val.cell? ⟨b, 3, none⟩ = some (.int .i64 h) := fun z => (six_cells (hB1.ext z.property).d).2.2.2.1
  have d4 : ∀ z : ExtOf w1, z.val.cell? ⟨b, 4, none⟩ = some (.int .i64 n) := fun z => (six_cells (hB1.ext z.property).d).2.2.2.2.1
  have d5 : ∀ z : ExtOf w1, z.val.cell? ⟨b, 5, none⟩ = some (.int .i64 k) := fun z => (six_cells (hB1.ext z.property).d).2.2.2.2.2
  have HC0 := (fun z => quiet_ext (fld_has (hB1.s.ext z.property) 0 (by omega) (S.star 0) n) : ∀ z : ExtOf w1, Calls Tryd.prog 30 #[.agg #[vs 0, .bool (S.star 0)], .int .i64 n] z.val fun e W' => e = .returned (.bool (S.has 0 n)) ∧ ∃ y : ExtOf w1, W' = y.val)
  have HC1 := (fun z => quiet_ext (fld_has (hB1.s.ext z.property) 1 (by omega) (S.star 1) h) : ∀ z : ExtOf w1, Calls Tryd.prog 30 #[.agg #[vs 1, .bool (S.star 1)], .int .i64 h] z.val fun e W' => e = .returned (.bool (S.has 1 h)) ∧ ∃ y : ExtOf w1, W' = y.val)
  have HCD : ∀ z : ExtOf w1, Calls Tryd.prog 31 #[.slice (some ⟨g, 0, none⟩) 5 c, .agg #[.int .i64 y, .int .i64 m, .int .i64 d, .int .i64 h, .int .i64 n, .int .i64 k]] z.val fun e W' => e = .returned (.bool (S.day m d k)) ∧ ∃ y : ExtOf w1, W' = y.val := fun z => quiet_ext (refday_any z.val g c S vs ls y m d h n k (hB1.s.ext z.property))
  cases b0 : S.has 0 n with
  | false =>
    rw [b0] at HC0
    refine region_ext (by kernel_rfl) (by kernel_rfl) ?_
    repeat (go_big_quiet_step (first | (with_reducible exact HC0 _) | (with_reducible exact HC1 _) | (with_reducible exact HCD _)))
    refine wpQuiet_nil ?_
    intro wq hq
    obtain ⟨xq, rfl⟩ := hq
    have hEq := xq.property
    clear r0 r1 r2 r3 r4 r5 r6 r7 r8 r9 d0 d1 d2 d3 d4 d5
    clear HC0 HC1 HCD
    go_wp2_with fail
    go_ret
    exact ⟨by rw [HD.out, b0]; rfl, hE1.trans hEq⟩
  | true =>
    rw [b0] at HC0
    cases b1 : S.has 1 h with
    | false =>
      rw [b1] at HC1
      refine region_ext (by kernel_rfl) (by kernel_rfl) ?_
      repeat (go_big_quiet_step (first | (with_reducible exact HC0 _) | (with_reducible exact HC1 _) | (with_reducible exact HCD _)))
      refine wpQuiet_nil ?_
      intro wq hq
      obtain ⟨xq, rfl⟩ := hq
      have hEq := xq.property
      clear r0 r1 r2 r3 r4 r5 r6 r7 r8 r9 d0 d1 d2 d3 d4 d5
      clear HC0 HC1 HCD
      go_wp2_with fail
      go_ret
      exact ⟨by rw [HD.out, b0, b1]; rfl, hE1.trans hEq⟩
    | true =>
      rw [b1] at HC1
      refine region_ext (by kernel_rfl) (by kernel_rfl) ?_
      repeat (go_big_quiet_step (first | (with_reducible exact HC0 _) | (with_reducible exact HC1 _) | (with_reducible exact HCD _)))
      refine wpQuiet_nil ?_
      intro wq hq
      obtain ⟨xq, rfl⟩ := hq
      have hEq := xq.property
      clear r0 r1 r2 r3 r4 r5 r6 r7 r8 r9 d0 d1 d2 d3 d4 d5
      clear HC0 HC1 HCD
      go_wp2_with fail
      go_ret
      exact ⟨by rw [HD.out, b0, b1]; rfl, hE1.trans hEq⟩
end Go.Proofs.YtmgpkadgalgnnaaDoor
