/- The document's matches and the program's: how they are like each other. -/
import Derived.Test.YtfbolgdecdfnaaaPCut
import Derived.Test.YtfbolgdecdfnaaaPSame
namespace Go.Proofs.Ytfbolgdecdfnaaa
set_option maxRecDepth 4000
set_option linter.unusedVariables false
set_option linter.unusedSimpArgs false
open Go Go.RowKit
def Hd.it (h : Hd) : It := ⟨h.run, h.kind, h.id, h.since⟩
def waitsFor (k : Nat) (h : Hd) : Bool := h.worker == (k : Int)
def ofW (ws : List Hd) (k : Nat) : List It := (ws.filter (waitsFor k)).map Hd.it
structure Sim (s : MS) (ws : List Hd) (ls : List Ls) (t : Int) : Prop where
  tok : s.tok = t
  ls : s.ls = ls
  q : ∀ k, k ≤ 64 → s.q k = ofW ws k
  rng : ∀ h ∈ ws, 0 ≤ h.worker ∧ h.worker ≤ 64
theorem ofW_append (a b : List Hd) (k : Nat) : ofW (a ++ b) k = ofW a k ++ ofW b k := by simp [ofW]
/-- how many wait ahead of a worker's -/
def ahead (s : MS) : Nat → List It
  | 0 => []
  | k + 1 => waitQ s k
theorem waitQ_more (s : MS) (k : Nat) : ∀ d, ∃ B, waitQ s (k + d) = waitQ s k ++ B
  | 0 => ⟨[], by simp⟩
  | d + 1 => by
    obtain ⟨B, hB⟩ := waitQ_more s k d
    exact ⟨B ++ s.q (k + d + 1), by rw [← Nat.add_assoc, waitQ, hB, List.append_assoc]⟩
theorem waitQ_at (s : MS) {k : Nat} (hk : k ≤ 64) : ∃ B, waitQ s 64 = ahead s k ++ (s.q k ++ B) := by
  obtain ⟨d, hd⟩ : ∃ d, 64 = k + d := ⟨64 - k, by omega⟩
  obtain ⟨B, hB⟩ := waitQ_more s k d
  refine ⟨B, ?_⟩
  rw [hd, hB]
  cases k with
  | zero => rfl
  | succ k => rw [waitQ, ahead, List.append_assoc]
section
variable {s : MS} {ws : List Hd} {ls : List Ls} {t : Int} (h : Sim s ws ls t)
include h
theorem Sim.len : ∀ j, j ≤ 64 → (waitQ s j).length = ws.countP fun h => decide (h.worker ≤ (j : Int))
  | 0, _ => by
    rw [waitQ, h.q 0 (by omega), ofW, List.length_map, ← List.countP_eq_length_filter]
    refine List.countP_congr fun x hx => ?_
    have := h.rng x hx
    simp [waitsFor]; omega
  | j + 1, hj => by
    rw [waitQ, List.length_append, Sim.len j (by omega), h.q (j + 1) hj, ofW, List.length_map, ← List.countP_eq_length_filter]
    have : ∀ ws : List Hd, (ws.countP fun h => decide (h.worker ≤ (j : Int))) + ws.countP (waitsFor (j + 1)) = ws.countP fun h => decide (h.worker ≤ ((j + 1 : Nat) : Int)) := by
      intro ws
      induction ws with
      | nil => rfl
      | cons x ws ih =>
        rw [List.countP_cons, List.countP_cons, List.countP_cons, ← ih]
        simp only [waitsFor, decide_eq_true_eq, beq_iff_eq]
        rcases Int.lt_trichotomy x.worker (((j + 1 : Nat)) : Int) with h1 | h1 | h1
        · rw [if_pos (by omega), if_neg (by omega), if_pos (by omega)]; omega
        · rw [if_neg (by omega), if_pos h1, if_pos (by omega)]; omega
        · rw [if_neg (by omega), if_neg (by omega), if_neg (by omega)]; omega
    exact this ws
theorem Sim.len64 : (waitQ s 64).length = ws.length := by
  rw [h.len 64 (by omega), List.countP_eq_length]
  intro x hx
  have := h.rng x hx
  simp; omega
theorem Sim.pos {pre post : List Hd} {x : Hd} (hx : ws = pre ++ x :: post) {k : Nat} (hk : k ≤ 64) (hxk : x.worker = k) : ∃ A B, waitQ s 64 = A ++ x.it :: B ∧ A.length = (ahead s k).length + (ofW pre k).length := by
  obtain ⟨B, hB⟩ := waitQ_at s hk
  have h1 : s.q k = ofW pre k ++ x.it :: ofW post k := by
    have h2 : ofW (x :: post) k = x.it :: ofW post k := by
      unfold ofW
      have h3 : waitsFor k x = true := by unfold waitsFor; rw [hxk]; exact beq_self_eq_true _
      rw [List.filter_cons, if_pos h3, List.map_cons]
    rw [h.q k hk, hx, ofW_append, h2]
  refine ⟨ahead s k ++ ofW pre k, ofW post k ++ B, ?_, by rw [List.length_append]⟩
  rw [hB, h1, List.append_assoc, List.append_assoc, List.cons_append]
theorem Sim.mem {x : Hd} (hx : x ∈ ws) : ∃ k : Nat, k ≤ 64 ∧ x.worker = k ∧ x.it ∈ s.q k := by
  have := h.rng x hx
  refine ⟨x.worker.toNat, by omega, by omega, ?_⟩
  rw [h.q _ (by omega), ofW, List.mem_map]
  exact ⟨x, List.mem_filter.2 ⟨hx, by simp [waitsFor]; omega⟩, rfl⟩
theorem Sim.where_ (hO : One s) {x : Hd} (hx : x ∈ ws) {k : Nat} (hk : k ≤ 64) (hxk : x.worker = k) : s.where_ x.run x.kind x.id = some k := by
  obtain ⟨k', hk', e, hm⟩ := h.mem hx
  obtain rfl : k' = k := by omega
  refine range_find (by omega) (List.any_eq_true.2 ⟨x.it, hm, isK_self x.it⟩) (fun i hi => ?_)
  exact hO.fresh (j := k') hk (k := i) (by omega) (by omega) hm
theorem Sim.whereV (hO : One s) {x : Hd} (hx : x ∈ ws) {k : Nat} (hk : k ≤ 64) (hxk : x.worker = k) : Go.Proofs.Ytfbolgdecdfnaaa.whereV (s.where_ x.run x.kind x.id) = .tuple #[.int .i64 k, .bool true] := by
  rw [h.where_ hO hx hk hxk]; rfl
theorem Sim.known (r k i : Int) : s.known r k i = rknown ws ls r k i := by
  unfold rknown MS.known MS.had
  rw [h.ls]
  congr 1
  rw [Bool.eq_iff_iff, where_some, kc_pos, List.any_eq_true, List.any_eq_true]
  constructor
  · rintro ⟨x, hx, hp⟩
    obtain ⟨j, hj, hx⟩ := waitQ_mem.1 hx
    rw [h.q j hj, ofW, List.mem_map] at hx
    obtain ⟨y, hy, rfl⟩ := hx
    exact ⟨y, (List.mem_filter.1 hy).1, hp⟩
  · rintro ⟨x, hx, hp⟩
    obtain ⟨k', hk', _, hm⟩ := h.mem hx
    exact ⟨x.it, waitQ_mem.2 ⟨k', hk', hm⟩, hp⟩
theorem Sim.count {z : Nat} (hz : z ≤ 64) : rcount ws z = (s.q z).length := by
  rw [h.q z hz, ofW, List.length_map, ← List.countP_eq_length_filter]; rfl
end
end Go.Proofs.Ytfbolgdecdfnaaa
