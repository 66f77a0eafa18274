/- Which of two things fires first; both orders are strict. -/
import Derived.Test.YtnbdcdeidhhgoaaDoorHCmp
import Derived.Shelf.SlSortCmp.WholeK
namespace Go.Proofs.YtnbdcdeidhhgoaaDoor
set_option maxRecDepth 4000
set_option linter.unusedVariables false
set_option linter.unusedSimpArgs false
open Go Go.RowKit Go.Lib Go.Sort
/-- by the tick, the run, the kind, the number -/
def tcmp (a b : It) : Int := if c3 a.due b.due ≠ 0 then c3 a.due b.due else if c3 a.run b.run ≠ 0 then c3 a.run b.run else if c3 a.kind b.kind ≠ 0 then c3 a.kind b.kind else c3 a.id b.id
theorem tcompare_any (a b : It) (W : World) : Calls Tryd.prog 17 #[.agg #[.int .i64 a.run, .int .i64 a.kind, .int .i64 a.id, .int .i64 a.due, .int .u64 a.seq], .agg #[.int .i64 b.run, .int .i64 b.kind, .int .i64 b.id, .int .i64 b.due, .int .u64 b.seq]] W fun e w' => e = .returned (.int .i64 (tcmp a b)) ∧ ∃ q os', w' = grow (W.drewN q) os' := by
  have h1 := fun W' => cmp64 W' a.due b.due
  have h2 := fun W' => cmpI W' a.run b.run
  have h3 := fun W' => cmpI W' a.kind b.kind
  have h4 := fun W' => cmp64 W' a.id b.id
  unfold tcmp
  by_cases e1 : c3 a.due b.due = 0
  · rw [if_neg (by simpa using e1)]
    rw [e1] at h1
    clear e1
    by_cases e2 : c3 a.run b.run = 0
    · rw [if_neg (by simpa using e2)]
      rw [e2] at h2
      clear e2
      by_cases e3 : c3 a.kind b.kind = 0
      · rw [if_neg (by simpa using e3)]
        rw [e3] at h3
        clear e3
        generalize c3 a.id b.id = r at *
        go_enter Tryd.func17, Tryd.ntmps17
        go_upto_region 1 with fail
        have hA : Blk ((W.alloc (.cells #[.int .i64 a.run, .int .i64 a.kind, .int .i64 a.id, .int .i64 a.due, .int .u64 a.seq] 51)).alloc (.cells #[.int .i64 b.run, .int .i64 b.kind, .int .i64 b.id, .int .i64 b.due, .int .u64 b.seq] 51)) W.heap.size 51 #[.int .i64 a.run, .int .i64 a.kind, .int .i64 a.id, .int .i64 a.due, .int .u64 a.seq] := (Blk.new W 51 _).alloc _
        have hB : Blk ((W.alloc (.cells #[.int .i64 a.run, .int .i64 a.kind, .int .i64 a.id, .int .i64 a.due, .int .u64 a.seq] 51)).alloc (.cells #[.int .i64 b.run, .int .i64 b.kind, .int .i64 b.id, .int .i64 b.due, .int .u64 b.seq] 51)) (W.heap.size + 1) 51 #[.int .i64 b.run, .int .i64 b.kind, .int .i64 b.id, .int .i64 b.due, .int .u64 b.seq] := by
          have := Blk.new (W.alloc (.cells #[.int .i64 a.run, .int .i64 a.kind, .int .i64 a.id, .int .i64 a.due, .int .u64 a.seq] 51)) 51 #[.int .i64 b.run, .int .i64 b.kind, .int .i64 b.id, .int .i64 b.due, .int .u64 b.seq]
          rw [World.size_alloc'] at this
          exact this
        have hG : ∃ q os', (W.alloc (.cells #[.int .i64 a.run, .int .i64 a.kind, .int .i64 a.id, .int .i64 a.due, .int .u64 a.seq] 51)).alloc (.cells #[.int .i64 b.run, .int .i64 b.kind, .int .i64 b.id, .int .i64 b.due, .int .u64 b.seq] 51) = grow (W.drewN q) os' := ⟨0, _, by rw [alloc_eq_grow, alloc_eq_grow, grow_grow]; rfl⟩
        refine gen_world' (fun X => Blk X W.heap.size 51 #[.int .i64 a.run, .int .i64 a.kind, .int .i64 a.id, .int .i64 a.due, .int .u64 a.seq] ∧ Blk X (W.heap.size + 1) 51 #[.int .i64 b.run, .int .i64 b.kind, .int .i64 b.id, .int .i64 b.due, .int .u64 b.seq] ∧ ∃ q os', X = grow (W.drewN q) os') ⟨hA, hB, hG⟩ ?_
        clear hA hB hG
        rintro W1 ⟨hA, hB, hG⟩
        generalize W.heap.size + 1 = gb at *
        generalize W.heap.size = ga at *
        have a0 : W1.cell? ⟨ga, 0, none⟩ = some (.int .i64 a.run) := Blk.cell hA 0
        have a1 : W1.cell? ⟨ga, 1, none⟩ = some (.int .i64 a.kind) := Blk.cell hA 1
        have a2 : W1.cell? ⟨ga, 2, none⟩ = some (.int .i64 a.id) := Blk.cell hA 2
        have a3 : W1.cell? ⟨ga, 3, none⟩ = some (.int .i64 a.due) := Blk.cell hA 3
        have b0 : W1.cell? ⟨gb, 0, none⟩ = some (.int .i64 b.run) := Blk.cell hB 0
        have b1 : W1.cell? ⟨gb, 1, none⟩ = some (.int .i64 b.kind) := Blk.cell hB 1
        have b2 : W1.cell? ⟨gb, 2, none⟩ = some (.int .i64 b.id) := Blk.cell hB 2
        have b3 : W1.cell? ⟨gb, 3, none⟩ = some (.int .i64 b.due) := Blk.cell hB 3
        clear hA hB
        go_wp2_with fail
        refine (h1 _).mono ?_
        rintro e w1 ⟨rfl, rfl⟩
        go_wp2_with fail
        refine (h2 _).mono ?_
        rintro e w1 ⟨rfl, rfl⟩
        go_wp2_with fail
        refine (h3 _).mono ?_
        rintro e w1 ⟨rfl, rfl⟩
        go_wp2_with fail
        refine (h4 _).mono ?_
        rintro e w1 ⟨rfl, rfl⟩
        go_wp2_with fail
        go_ret
        exact ⟨rfl, hG⟩
      · rw [if_pos (by simpa using e3)]
        generalize c3 a.kind b.kind = r at *
        have hn : (r != 0) = true := by simpa using e3
        go_enter Tryd.func17, Tryd.ntmps17
        go_upto_region 1 with fail
        have hA : Blk ((W.alloc (.cells #[.int .i64 a.run, .int .i64 a.kind, .int .i64 a.id, .int .i64 a.due, .int .u64 a.seq] 51)).alloc (.cells #[.int .i64 b.run, .int .i64 b.kind, .int .i64 b.id, .int .i64 b.due, .int .u64 b.seq] 51)) W.heap.size 51 #[.int .i64 a.run, .int .i64 a.kind, .int .i64 a.id, .int .i64 a.due, .int .u64 a.seq] := (Blk.new W 51 _).alloc _
        have hB : Blk ((W.alloc (.cells #[.int .i64 a.run, .int .i64 a.kind, .int .i64 a.id, .int .i64 a.due, .int .u64 a.seq] 51)).alloc (.cells #[.int .i64 b.run, .int .i64 b.kind, .int .i64 b.id, .int .i64 b.due, .int .u64 b.seq] 51)) (W.heap.size + 1) 51 #[.int .i64 b.run, .int .i64 b.kind, .int .i64 b.id, .int .i64 b.due, .int .u64 b.seq] := by
          have := Blk.new (W.alloc (.cells #[.int .i64 a.run, .int .i64 a.kind, .int .i64 a.id, .int .i64 a.due, .int .u64 a.seq] 51)) 51 #[.int .i64 b.run, .int .i64 b.kind, .int .i64 b.id, .int .i64 b.due, .int .u64 b.seq]
          rw [World.size_alloc'] at this
          exact this
        have hG : ∃ q os', (W.alloc (.cells #[.int .i64 a.run, .int .i64 a.kind, .int .i64 a.id, .int .i64 a.due, .int .u64 a.seq] 51)).alloc (.cells #[.int .i64 b.run, .int .i64 b.kind, .int .i64 b.id, .int .i64 b.due, .int .u64 b.seq] 51) = grow (W.drewN q) os' := ⟨0, _, by rw [alloc_eq_grow, alloc_eq_grow, grow_grow]; rfl⟩
        refine gen_world' (fun X => Blk X W.heap.size 51 #[.int .i64 a.run, .int .i64 a.kind, .int .i64 a.id, .int .i64 a.due, .int .u64 a.seq] ∧ Blk X (W.heap.size + 1) 51 #[.int .i64 b.run, .int .i64 b.kind, .int .i64 b.id, .int .i64 b.due, .int .u64 b.seq] ∧ ∃ q os', X = grow (W.drewN q) os') ⟨hA, hB, hG⟩ ?_
        clear hA hB hG
        rintro W1 ⟨hA, hB, hG⟩
        generalize W.heap.size + 1 = gb at *
        generalize W.heap.size = ga at *
        have a0 : W1.cell? ⟨ga, 0, none⟩ = some (.int .i64 a.run) := Blk.cell hA 0
        have a1 : W1.cell? ⟨ga, 1, none⟩ = some (.int .i64 a.kind) := Blk.cell hA 1
        have a2 : W1.cell? ⟨ga, 2, none⟩ = some (.int .i64 a.id) := Blk.cell hA 2
        have a3 : W1.cell? ⟨ga, 3, none⟩ = some (.int .i64 a.due) := Blk.cell hA 3
        have b0 : W1.cell? ⟨gb, 0, none⟩ = some (.int .i64 b.run) := Blk.cell hB 0
        have b1 : W1.cell? ⟨gb, 1, none⟩ = some (.int .i64 b.kind) := Blk.cell hB 1
        have b2 : W1.cell? ⟨gb, 2, none⟩ = some (.int .i64 b.id) := Blk.cell hB 2
        have b3 : W1.cell? ⟨gb, 3, none⟩ = some (.int .i64 b.due) := Blk.cell hB 3
        clear hA hB
        go_wp2_with fail
        refine (h1 _).mono ?_
        rintro e w1 ⟨rfl, rfl⟩
        go_wp2_with fail
        refine (h2 _).mono ?_
        rintro e w1 ⟨rfl, rfl⟩
        go_wp2_with fail
        refine (h3 _).mono ?_
        rintro e w1 ⟨rfl, rfl⟩
        go_wp2_with fail
        go_ret
        exact ⟨rfl, hG⟩
    · rw [if_pos (by simpa using e2)]
      generalize c3 a.run b.run = r at *
      have hn : (r != 0) = true := by simpa using e2
      go_enter Tryd.func17, Tryd.ntmps17
      go_upto_region 1 with fail
      have hA : Blk ((W.alloc (.cells #[.int .i64 a.run, .int .i64 a.kind, .int .i64 a.id, .int .i64 a.due, .int .u64 a.seq] 51)).alloc (.cells #[.int .i64 b.run, .int .i64 b.kind, .int .i64 b.id, .int .i64 b.due, .int .u64 b.seq] 51)) W.heap.size 51 #[.int .i64 a.run, .int .i64 a.kind, .int .i64 a.id, .int .i64 a.due, .int .u64 a.seq] := (Blk.new W 51 _).alloc _
      have hB : Blk ((W.alloc (.cells #[.int .i64 a.run, .int .i64 a.kind, .int .i64 a.id, .int .i64 a.due, .int .u64 a.seq] 51)).alloc (.cells #[.int .i64 b.run, .int .i64 b.kind, .int .i64 b.id, .int .i64 b.due, .int .u64 b.seq] 51)) (W.heap.size + 1) 51 #[.int .i64 b.run, .int .i64 b.kind, .int .i64 b.id, .int .i64 b.due, .int .u64 b.seq] := by
        have := Blk.new (W.alloc (.cells #[.int .i64 a.run, .int .i64 a.kind, .int .i64 a.id, .int .i64 a.due, .int .u64 a.seq] 51)) 51 #[.int .i64 b.run, .int .i64 b.kind, .int .i64 b.id, .int .i64 b.due, .int .u64 b.seq]
        rw [World.size_alloc'] at this
        exact this
      have hG : ∃ q os', (W.alloc (.cells #[.int .i64 a.run, .int .i64 a.kind, .int .i64 a.id, .int .i64 a.due, .int .u64 a.seq] 51)).alloc (.cells #[.int .i64 b.run, .int .i64 b.kind, .int .i64 b.id, .int .i64 b.due, .int .u64 b.seq] 51) = grow (W.drewN q) os' := ⟨0, _, by rw [alloc_eq_grow, alloc_eq_grow, grow_grow]; rfl⟩
      refine gen_world' (fun X => Blk X W.heap.size 51 #[.int .i64 a.run, .int .i64 a.kind, .int .i64 a.id, .int .i64 a.due, .int .u64 a.seq] ∧ Blk X (W.heap.size + 1) 51 #[.int .i64 b.run, .int .i64 b.kind, .int .i64 b.id, .int .i64 b.due, .int .u64 b.seq] ∧ ∃ q os', X = grow (W.drewN q) os') ⟨hA, hB, hG⟩ ?_
      clear hA hB hG
      rintro W1 ⟨hA, hB, hG⟩
      generalize W.heap.size + 1 = gb at *
      generalize W.heap.size = ga at *
      have a0 : W1.cell? ⟨ga, 0, none⟩ = some (.int .i64 a.run) := Blk.cell hA 0
      have a1 : W1.cell? ⟨ga, 1, none⟩ = some (.int .i64 a.kind) := Blk.cell hA 1
      have a2 : W1.cell? ⟨ga, 2, none⟩ = some (.int .i64 a.id) := Blk.cell hA 2
      have a3 : W1.cell? ⟨ga, 3, none⟩ = some (.int .i64 a.due) := Blk.cell hA 3
      have b0 : W1.cell? ⟨gb, 0, none⟩ = some (.int .i64 b.run) := Blk.cell hB 0
      have b1 : W1.cell? ⟨gb, 1, none⟩ = some (.int .i64 b.kind) := Blk.cell hB 1
      have b2 : W1.cell? ⟨gb, 2, none⟩ = some (.int .i64 b.id) := Blk.cell hB 2
      have b3 : W1.cell? ⟨gb, 3, none⟩ = some (.int .i64 b.due) := Blk.cell hB 3
      clear hA hB
      go_wp2_with fail
      refine (h1 _).mono ?_
      rintro e w1 ⟨rfl, rfl⟩
      go_wp2_with fail
      refine (h2 _).mono ?_
      rintro e w1 ⟨rfl, rfl⟩
      go_wp2_with fail
      go_ret
      exact ⟨rfl, hG⟩
  · rw [if_pos (by simpa using e1)]
    generalize c3 a.due b.due = r at *
    have hn : (r != 0) = true := by simpa using e1
    go_enter Tryd.func17, Tryd.ntmps17
    go_upto_region 1 with fail
    have hA : Blk ((W.alloc (.cells #[.int .i64 a.run, .int .i64 a.kind, .int .i64 a.id, .int .i64 a.due, .int .u64 a.seq] 51)).alloc (.cells #[.int .i64 b.run, .int .i64 b.kind, .int .i64 b.id, .int .i64 b.due, .int .u64 b.seq] 51)) W.heap.size 51 #[.int .i64 a.run, .int .i64 a.kind, .int .i64 a.id, .int .i64 a.due, .int .u64 a.seq] := (Blk.new W 51 _).alloc _
    have hB : Blk ((W.alloc (.cells #[.int .i64 a.run, .int .i64 a.kind, .int .i64 a.id, .int .i64 a.due, .int .u64 a.seq] 51)).alloc (.cells #[.int .i64 b.run, .int .i64 b.kind, .int .i64 b.id, .int .i64 b.due, .int .u64 b.seq] 51)) (W.heap.size + 1) 51 #[.int .i64 b.run, .int .i64 b.kind, .int .i64 b.id, .int .i64 b.due, .int .u64 b.seq] := by
      have := Blk.new (W.alloc (.cells #[.int .i64 a.run, .int .i64 a.kind, .int .i64 a.id, .int .i64 a.due, .int .u64 a.seq] 51)) 51 #[.int .i64 b.run, .int .i64 b.kind, .int .i64 b.id, .int .i64 b.due, .int .u64 b.seq]
      rw [World.size_alloc'] at this
      exact this
    have hG : ∃ q os', (W.alloc (.cells #[.int .i64 a.run, .int .i64 a.kind, .int .i64 a.id, .int .i64 a.due, .int .u64 a.seq] 51)).alloc (.cells #[.int .i64 b.run, .int .i64 b.kind, .int .i64 b.id, .int .i64 b.due, .int .u64 b.seq] 51) = grow (W.drewN q) os' := ⟨0, _, by rw [alloc_eq_grow, alloc_eq_grow, grow_grow]; rfl⟩
    refine gen_world' (fun X => Blk X W.heap.size 51 #[.int .i64 a.run, .int .i64 a.kind, .int .i64 a.id, .int .i64 a.due, .int .u64 a.seq] ∧ Blk X (W.heap.size + 1) 51 #[.int .i64 b.run, .int .i64 b.kind, .int .i64 b.id, .int .i64 b.due, .int .u64 b.seq] ∧ ∃ q os', X = grow (W.drewN q) os') ⟨hA, hB, hG⟩ ?_
    clear hA hB hG
    rintro W1 ⟨hA, hB, hG⟩
    generalize W.heap.size + 1 = gb at *
    generalize W.heap.size = ga at *
    have a0 : W1.cell? ⟨ga, 0, none⟩ = some (.int .i64 a.run) := Blk.cell hA 0
    have a1 : W1.cell? ⟨ga, 1, none⟩ = some (.int .i64 a.kind) := Blk.cell hA 1
    have a2 : W1.cell? ⟨ga, 2, none⟩ = some (.int .i64 a.id) := Blk.cell hA 2
    have a3 : W1.cell? ⟨ga, 3, none⟩ = some (.int .i64 a.due) := Blk.cell hA 3
    have b0 : W1.cell? ⟨gb, 0, none⟩ = some (.int .i64 b.run) := Blk.cell hB 0
    have b1 : W1.cell? ⟨gb, 1, none⟩ = some (.int .i64 b.kind) := Blk.cell hB 1
    have b2 : W1.cell? ⟨gb, 2, none⟩ = some (.int .i64 b.id) := Blk.cell hB 2
    have b3 : W1.cell? ⟨gb, 3, none⟩ = some (.int .i64 b.due) := Blk.cell hB 3
    clear hA hB
    go_wp2_with fail
    refine (h1 _).mono ?_
    rintro e w1 ⟨rfl, rfl⟩
    go_wp2_with fail
    go_ret
    exact ⟨rfl, hG⟩
theorem c3_cases (a b : Int) : (a < b ∧ c3 a b = -1) ∨ (a = b ∧ c3 a b = 0) ∨ (b < a ∧ c3 a b = 1) := by
  unfold c3
  by_cases h1 : a < b
  · exact Or.inl ⟨h1, if_pos h1⟩
  · by_cases h2 : b < a
    · exact Or.inr (Or.inr ⟨h2, by rw [if_neg h1, if_pos h2]⟩)
    · exact Or.inr (Or.inl ⟨by omega, by rw [if_neg h1, if_neg h2]⟩)
theorem ltH (a b : It) : ltOf hcmp a b = decide (a.due < b.due ∨ (a.due = b.due ∧ a.seq < b.seq)) := by
  unfold ltOf hcmp
  rcases c3_cases a.due b.due with ⟨h1, e1⟩ | ⟨h1, e1⟩ | ⟨h1, e1⟩ <;> rcases c3_cases a.seq b.seq with ⟨h2, e2⟩ | ⟨h2, e2⟩ | ⟨h2, e2⟩ <;> simp [e1, e2] <;> omega
theorem ltT (a b : It) : ltOf tcmp a b = decide (a.due < b.due ∨ (a.due = b.due ∧ (a.run < b.run ∨ (a.run = b.run ∧ (a.kind < b.kind ∨ (a.kind = b.kind ∧ a.id < b.id)))))) := by
  unfold ltOf tcmp
  rcases c3_cases a.due b.due with ⟨h1, e1⟩ | ⟨h1, e1⟩ | ⟨h1, e1⟩ <;> rcases c3_cases a.run b.run with ⟨h2, e2⟩ | ⟨h2, e2⟩ | ⟨h2, e2⟩ <;> rcases c3_cases a.kind b.kind with ⟨h3, e3⟩ | ⟨h3, e3⟩ | ⟨h3, e3⟩ <;> rcases c3_cases a.id b.id with ⟨h4, e4⟩ | ⟨h4, e4⟩ | ⟨h4, e4⟩ <;> simp [e1, e2, e3, e4] <;> omega
theorem swoH : SWO (ltOf hcmp) where
  irrefl x := by rw [ltH]; simp
  trans x y z h1 h2 := by rw [ltH] at *; simp at *; omega
  ntrans x y z h1 h2 := by rw [ltH] at *; simp at *; omega
theorem swoT : SWO (ltOf tcmp) where
  irrefl x := by rw [ltT]; simp
  trans x y z h1 h2 := by rw [ltT] at *; simp at *; omega
  ntrans x y z h1 h2 := by rw [ltT] at *; simp at *; omega
end Go.Proofs.YtnbdcdeidhhgoaaDoor
