/- Which of two things is due first. -/
import Derived.Test.YtnbdcdeidhhgoaaDoorHRep
import Derived.Test.YtnbdcdeidhhgoaaDoorCom
import Derived.Sort.Grow
import Derived.Deep.DeepCutAuto
import Derived.Deep.CutBlock
namespace Go.Proofs.YtnbdcdeidhhgoaaDoor
set_option maxRecDepth 4000
set_option linter.unusedVariables false
set_option linter.unusedSimpArgs false
open Go Go.RowKit Go.Lib Go.Sort
def c3 (a b : Int) : Int := if a < b then -1 else if b < a then 1 else 0
theorem nan64 (w : World) (x : Int) : Calls Tryd.prog 48 #[.int .i64 x] w fun e w' => e = .returned (.bool false) ∧ w = w' := by
  have h : (x != x) = false := by simp
  go_enter Tryd.func48, Tryd.ntmps48
  go_wp2
  go_ret
  exact ⟨rfl, rfl⟩
theorem nanI (w : World) (x : Int) : Calls Tryd.prog 49 #[.int .i64 x] w fun e w' => e = .returned (.bool false) ∧ w = w' := by
  have h : (x != x) = false := by simp
  go_enter Tryd.func49, Tryd.ntmps49
  go_wp2
  go_ret
  exact ⟨rfl, rfl⟩
theorem nanU (w : World) (x : Int) : Calls Tryd.prog 55 #[.int .u64 x] w fun e w' => e = .returned (.bool false) ∧ w = w' := by
  have h : (x != x) = false := by simp
  go_enter Tryd.func55, Tryd.ntmps55
  go_wp2
  go_ret
  exact ⟨rfl, rfl⟩
theorem cmp64 (w : World) (a b : Int) : Calls Tryd.prog 29 #[.int .i64 a, .int .i64 b] w fun e w' => e = .returned (.int .i64 (c3 a b)) ∧ w = w' := by
  have hn := nan64 w
  unfold c3
  by_cases h1 : a < b
  · rw [if_pos h1]
    go_enter Tryd.func29, Tryd.ntmps29
    go_wp2_with fail
    refine (hn a).mono ?_
    rintro e w1 ⟨rfl, rfl⟩
    go_wp2_with fail
    refine (hn b).mono ?_
    rintro e w1 ⟨rfl, rfl⟩
    go_wp2_with fail
    go_ret
    exact ⟨rfl, rfl⟩
  · rw [if_neg h1]
    by_cases h2 : b < a
    · rw [if_pos h2]
      go_enter Tryd.func29, Tryd.ntmps29
      go_wp2_with fail
      refine (hn a).mono ?_
      rintro e w1 ⟨rfl, rfl⟩
      go_wp2_with fail
      refine (hn b).mono ?_
      rintro e w1 ⟨rfl, rfl⟩
      go_wp2_with fail
      go_ret
      exact ⟨rfl, rfl⟩
    · rw [if_neg h2]
      go_enter Tryd.func29, Tryd.ntmps29
      go_wp2_with fail
      refine (hn a).mono ?_
      rintro e w1 ⟨rfl, rfl⟩
      go_wp2_with fail
      refine (hn b).mono ?_
      rintro e w1 ⟨rfl, rfl⟩
      go_wp2_with fail
      go_ret
      exact ⟨rfl, rfl⟩
theorem cmpI (w : World) (a b : Int) : Calls Tryd.prog 30 #[.int .i64 a, .int .i64 b] w fun e w' => e = .returned (.int .i64 (c3 a b)) ∧ w = w' := by
  have hn := nanI w
  unfold c3
  by_cases h1 : a < b
  · rw [if_pos h1]
    go_enter Tryd.func30, Tryd.ntmps30
    go_wp2_with fail
    refine (hn a).mono ?_
    rintro e w1 ⟨rfl, rfl⟩
    go_wp2_with fail
    refine (hn b).mono ?_
    rintro e w1 ⟨rfl, rfl⟩
    go_wp2_with fail
    go_ret
    exact ⟨rfl, rfl⟩
  · rw [if_neg h1]
    by_cases h2 : b < a
    · rw [if_pos h2]
      go_enter Tryd.func30, Tryd.ntmps30
      go_wp2_with fail
      refine (hn a).mono ?_
      rintro e w1 ⟨rfl, rfl⟩
      go_wp2_with fail
      refine (hn b).mono ?_
      rintro e w1 ⟨rfl, rfl⟩
      go_wp2_with fail
      go_ret
      exact ⟨rfl, rfl⟩
    · rw [if_neg h2]
      go_enter Tryd.func30, Tryd.ntmps30
      go_wp2_with fail
      refine (hn a).mono ?_
      rintro e w1 ⟨rfl, rfl⟩
      go_wp2_with fail
      refine (hn b).mono ?_
      rintro e w1 ⟨rfl, rfl⟩
      go_wp2_with fail
      go_ret
      exact ⟨rfl, rfl⟩
theorem cmpU (w : World) (a b : Int) : Calls Tryd.prog 37 #[.int .u64 a, .int .u64 b] w fun e w' => e = .returned (.int .i64 (c3 a b)) ∧ w = w' := by
  have hn := nanU w
  unfold c3
  by_cases h1 : a < b
  · rw [if_pos h1]
    go_enter Tryd.func37, Tryd.ntmps37
    go_wp2_with fail
    refine (hn a).mono ?_
    rintro e w1 ⟨rfl, rfl⟩
    go_wp2_with fail
    refine (hn b).mono ?_
    rintro e w1 ⟨rfl, rfl⟩
    go_wp2_with fail
    go_ret
    exact ⟨rfl, rfl⟩
  · rw [if_neg h1]
    by_cases h2 : b < a
    · rw [if_pos h2]
      go_enter Tryd.func37, Tryd.ntmps37
      go_wp2_with fail
      refine (hn a).mono ?_
      rintro e w1 ⟨rfl, rfl⟩
      go_wp2_with fail
      refine (hn b).mono ?_
      rintro e w1 ⟨rfl, rfl⟩
      go_wp2_with fail
      go_ret
      exact ⟨rfl, rfl⟩
    · rw [if_neg h2]
      go_enter Tryd.func37, Tryd.ntmps37
      go_wp2_with fail
      refine (hn a).mono ?_
      rintro e w1 ⟨rfl, rfl⟩
      go_wp2_with fail
      refine (hn b).mono ?_
      rintro e w1 ⟨rfl, rfl⟩
      go_wp2_with fail
      go_ret
      exact ⟨rfl, rfl⟩
theorem c3_zero {a b : Int} : c3 a b = 0 ↔ a = b := by
  unfold c3
  split
  · omega
  · split <;> omega
theorem World.size_alloc' (w : World) (o : Obj) : (w.alloc o).heap.size = w.heap.size + 1 := by simp
/-- by the tick, then by the number that it got -/
def hcmp (a b : It) : Int := if c3 a.due b.due ≠ 0 then c3 a.due b.due else c3 a.seq b.seq
theorem hcompare_any (a b : It) (W : World) : Calls Tryd.prog 26 #[.agg #[.int .i64 a.run, .int .i64 a.kind, .int .i64 a.id, .int .i64 a.due, .int .u64 a.seq], .agg #[.int .i64 b.run, .int .i64 b.kind, .int .i64 b.id, .int .i64 b.due, .int .u64 b.seq]] W fun e w' => e = .returned (.int .i64 (hcmp a b)) ∧ ∃ q os', w' = grow (W.drewN q) os' := by
  have h64 := fun W' => cmp64 W' a.due b.due
  have hU := fun W' => cmpU W' a.seq b.seq
  unfold hcmp
  by_cases hc : c3 a.due b.due = 0
  · rw [if_neg (by simpa using hc)]
    rw [hc] at h64
    clear hc
    generalize c3 (a.seq : Int) b.seq = r at *
    go_enter Tryd.func26, Tryd.ntmps26
    go_upto_region 1 with fail
    have a3 : ((W.alloc (.cells #[.int .i64 a.run, .int .i64 a.kind, .int .i64 a.id, .int .i64 a.due, .int .u64 a.seq] 51)).alloc (.cells #[.int .i64 b.run, .int .i64 b.kind, .int .i64 b.id, .int .i64 b.due, .int .u64 b.seq] 51)).cell? ⟨W.heap.size, 3, none⟩ = some (.int .i64 a.due) := ((Blk.new W 51 _).alloc _).cell 3
    have a4 : ((W.alloc (.cells #[.int .i64 a.run, .int .i64 a.kind, .int .i64 a.id, .int .i64 a.due, .int .u64 a.seq] 51)).alloc (.cells #[.int .i64 b.run, .int .i64 b.kind, .int .i64 b.id, .int .i64 b.due, .int .u64 b.seq] 51)).cell? ⟨W.heap.size, 4, none⟩ = some (.int .u64 a.seq) := ((Blk.new W 51 _).alloc _).cell 4
    have b3 : ((W.alloc (.cells #[.int .i64 a.run, .int .i64 a.kind, .int .i64 a.id, .int .i64 a.due, .int .u64 a.seq] 51)).alloc (.cells #[.int .i64 b.run, .int .i64 b.kind, .int .i64 b.id, .int .i64 b.due, .int .u64 b.seq] 51)).cell? ⟨W.heap.size + 1, 3, none⟩ = some (.int .i64 b.due) := by
      have := (Blk.new (W.alloc (.cells #[.int .i64 a.run, .int .i64 a.kind, .int .i64 a.id, .int .i64 a.due, .int .u64 a.seq] 51)) 51 #[.int .i64 b.run, .int .i64 b.kind, .int .i64 b.id, .int .i64 b.due, .int .u64 b.seq]).cell 3
      rw [World.size_alloc'] at this
      exact this
    have b4 : ((W.alloc (.cells #[.int .i64 a.run, .int .i64 a.kind, .int .i64 a.id, .int .i64 a.due, .int .u64 a.seq] 51)).alloc (.cells #[.int .i64 b.run, .int .i64 b.kind, .int .i64 b.id, .int .i64 b.due, .int .u64 b.seq] 51)).cell? ⟨W.heap.size + 1, 4, none⟩ = some (.int .u64 b.seq) := by
      have := (Blk.new (W.alloc (.cells #[.int .i64 a.run, .int .i64 a.kind, .int .i64 a.id, .int .i64 a.due, .int .u64 a.seq] 51)) 51 #[.int .i64 b.run, .int .i64 b.kind, .int .i64 b.id, .int .i64 b.due, .int .u64 b.seq]).cell 4
      rw [World.size_alloc'] at this
      exact this
    have hG : ∃ q os', (W.alloc (.cells #[.int .i64 a.run, .int .i64 a.kind, .int .i64 a.id, .int .i64 a.due, .int .u64 a.seq] 51)).alloc (.cells #[.int .i64 b.run, .int .i64 b.kind, .int .i64 b.id, .int .i64 b.due, .int .u64 b.seq] 51) = grow (W.drewN q) os' := ⟨0, _, by rw [alloc_eq_grow, alloc_eq_grow, grow_grow]; rfl⟩
    refine gen_world' (fun X => X.cell? ⟨W.heap.size, 3, none⟩ = some (.int .i64 a.due) ∧ X.cell? ⟨W.heap.size, 4, none⟩ = some (.int .u64 a.seq) ∧ X.cell? ⟨W.heap.size + 1, 3, none⟩ = some (.int .i64 b.due) ∧ X.cell? ⟨W.heap.size + 1, 4, none⟩ = some (.int .u64 b.seq) ∧ ∃ q os', X = grow (W.drewN q) os') ⟨a3, a4, b3, b4, hG⟩ ?_
    clear a3 a4 b3 b4 hG
    rintro W1 ⟨a3, a4, b3, b4, hG⟩
    generalize W.heap.size + 1 = gb at *
    generalize W.heap.size = ga at *
    go_wp2_with fail
    refine (h64 _).mono ?_
    rintro e w1 ⟨rfl, rfl⟩
    go_wp2_with fail
    refine (hU _).mono ?_
    rintro e w1 ⟨rfl, rfl⟩
    go_wp2_with fail
    go_ret
    exact ⟨rfl, hG⟩
  · rw [if_pos (by simpa using hc)]
    generalize c3 a.due b.due = r at *
    have hn : (r != 0) = true := by simpa using hc
    go_enter Tryd.func26, Tryd.ntmps26
    go_upto_region 1 with fail
    have a3 : ((W.alloc (.cells #[.int .i64 a.run, .int .i64 a.kind, .int .i64 a.id, .int .i64 a.due, .int .u64 a.seq] 51)).alloc (.cells #[.int .i64 b.run, .int .i64 b.kind, .int .i64 b.id, .int .i64 b.due, .int .u64 b.seq] 51)).cell? ⟨W.heap.size, 3, none⟩ = some (.int .i64 a.due) := ((Blk.new W 51 _).alloc _).cell 3
    have a4 : ((W.alloc (.cells #[.int .i64 a.run, .int .i64 a.kind, .int .i64 a.id, .int .i64 a.due, .int .u64 a.seq] 51)).alloc (.cells #[.int .i64 b.run, .int .i64 b.kind, .int .i64 b.id, .int .i64 b.due, .int .u64 b.seq] 51)).cell? ⟨W.heap.size, 4, none⟩ = some (.int .u64 a.seq) := ((Blk.new W 51 _).alloc _).cell 4
    have b3 : ((W.alloc (.cells #[.int .i64 a.run, .int .i64 a.kind, .int .i64 a.id, .int .i64 a.due, .int .u64 a.seq] 51)).alloc (.cells #[.int .i64 b.run, .int .i64 b.kind, .int .i64 b.id, .int .i64 b.due, .int .u64 b.seq] 51)).cell? ⟨W.heap.size + 1, 3, none⟩ = some (.int .i64 b.due) := by
      have := (Blk.new (W.alloc (.cells #[.int .i64 a.run, .int .i64 a.kind, .int .i64 a.id, .int .i64 a.due, .int .u64 a.seq] 51)) 51 #[.int .i64 b.run, .int .i64 b.kind, .int .i64 b.id, .int .i64 b.due, .int .u64 b.seq]).cell 3
      rw [World.size_alloc'] at this
      exact this
    have b4 : ((W.alloc (.cells #[.int .i64 a.run, .int .i64 a.kind, .int .i64 a.id, .int .i64 a.due, .int .u64 a.seq] 51)).alloc (.cells #[.int .i64 b.run, .int .i64 b.kind, .int .i64 b.id, .int .i64 b.due, .int .u64 b.seq] 51)).cell? ⟨W.heap.size + 1, 4, none⟩ = some (.int .u64 b.seq) := by
      have := (Blk.new (W.alloc (.cells #[.int .i64 a.run, .int .i64 a.kind, .int .i64 a.id, .int .i64 a.due, .int .u64 a.seq] 51)) 51 #[.int .i64 b.run, .int .i64 b.kind, .int .i64 b.id, .int .i64 b.due, .int .u64 b.seq]).cell 4
      rw [World.size_alloc'] at this
      exact this
    have hG : ∃ q os', (W.alloc (.cells #[.int .i64 a.run, .int .i64 a.kind, .int .i64 a.id, .int .i64 a.due, .int .u64 a.seq] 51)).alloc (.cells #[.int .i64 b.run, .int .i64 b.kind, .int .i64 b.id, .int .i64 b.due, .int .u64 b.seq] 51) = grow (W.drewN q) os' := ⟨0, _, by rw [alloc_eq_grow, alloc_eq_grow, grow_grow]; rfl⟩
    refine gen_world' (fun X => X.cell? ⟨W.heap.size, 3, none⟩ = some (.int .i64 a.due) ∧ X.cell? ⟨W.heap.size, 4, none⟩ = some (.int .u64 a.seq) ∧ X.cell? ⟨W.heap.size + 1, 3, none⟩ = some (.int .i64 b.due) ∧ X.cell? ⟨W.heap.size + 1, 4, none⟩ = some (.int .u64 b.seq) ∧ ∃ q os', X = grow (W.drewN q) os') ⟨a3, a4, b3, b4, hG⟩ ?_
    clear a3 a4 b3 b4 hG
    rintro W1 ⟨a3, a4, b3, b4, hG⟩
    generalize W.heap.size + 1 = gb at *
    generalize W.heap.size = ga at *
    go_wp2_with fail
    refine (h64 _).mono ?_
    rintro e w1 ⟨rfl, rfl⟩
    go_wp2_with fail
    go_ret
    exact ⟨rfl, hG⟩
end Go.Proofs.YtnbdcdeidhhgoaaDoor
