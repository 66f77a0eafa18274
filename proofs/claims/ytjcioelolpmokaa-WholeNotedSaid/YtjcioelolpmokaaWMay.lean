/- A map from numbers to truth, of a law's own: which numbers may be. -/
import Derived.Test.YtjcioelolpmokaaRows
import Derived.Test.YtjcioelolpmokaaDMap
import Derived.Test.YtjcioelolpmokaaDKit
namespace Go.Proofs.Ytjcioelolpmokaa
set_option maxRecDepth 4000
set_option linter.unusedVariables false
set_option linter.unusedSimpArgs false
open Go Go.RowKit Go.MapKept Go.ChangeMaps
def mayA (g : Nat) (l : List Nat) : Asr := fun W F => (∃ es clock, W.heap[g]? = some (.map es clock) ∧ (∀ e ∈ es.toList, ∃ n ∈ l, e.key = .int .u64 ((n : Nat) : Int) ∧ e.val = .bool true) ∧ ∀ n ∈ l, ∃ e ∈ es.toList, e.key = .int .u64 ((n : Nat) : Int)) ∧ F = fun k => k = g
theorem mayA_loc (g : Nat) (l : List Nat) : Loc (mayA g l) :=
  ⟨fun h hk => by
    obtain ⟨⟨es, c, hb, h1, h2⟩, rfl⟩ := h
    exact ⟨⟨es, c, (hk g rfl).trans hb, h1, h2⟩, rfl⟩, fun h hk => by
    obtain ⟨⟨es, c, hb, _⟩, rfl⟩ := h
    subst hk
    exact (Array.getElem?_eq_some_iff.1 hb).1⟩
theorem may_new (W : World) : mayA W.heap.size [] (W.alloc (.map #[] 0)) (fun k => k = W.heap.size) :=
  ⟨⟨#[], 0, heap_alloc_new W _, by simp, by simp⟩, rfl⟩
section
variable {w W : World} {g : Nat} {l : List Nat} {ps : List Asr}
theorem Has.may (h : Has w W ps) (hl : Locs ps) : Has w (W.alloc (.map #[] 0)) (mayA W.heap.size [] :: ps) :=
  h.add hl (ext_alloc W _) (may_new W) (fun k hk => by omega)
theorem isKey_u64 (n : Int) : IsKey (.int .u64) (.int .u64 n) := by simp [IsKey]
theorem nat_key {a b : Nat} (h : (Value.int .u64 ((a : Nat) : Int)) = .int .u64 ((b : Nat) : Int)) : a = b := by
  injection h with _ h
  omega
theorem may_look {F : Nat → Prop} (h : mayA g l W F) (n : Nat) : (Instr.lookup 33 (.map (some g)) (.int .u64 (n : Int)) false).run Try.prog W = .ok (.bool (l.contains n)) W := by
  obtain ⟨⟨es, clock, hb, h1, h2⟩, _⟩ := h
  have hz : (zeroValue 4).run Try.prog W = .ok (.bool false) W := by kernel_rfl
  have hc := run_checkKey (P := Try.prog) (w := W) Try.underlying27 (isKey_u64 (n : Int)) es.isEmpty 9999
  have hk : ∀ x ∈ es.toList, IsKey (.int .u64) x.key := fun x hx => by obtain ⟨m, _, e, _⟩ := h1 x hx; rw [e]; exact isKey_u64 _
  rcases findNow_spec (isKey_u64 (n : Int)) es.toList 0 hk with ⟨h3, h4⟩ | ⟨j, e, h3, h4, h5⟩
  · have hf : (Instr.findKey 27 (.int .u64 (n : Int)) es.toList).run Try.prog W = .ok none W := run_findKey Try.underlying27 h3
    have hn : l.contains n = false := by
      rw [Bool.eq_false_iff]
      intro hm
      obtain ⟨e, he, hek⟩ := h2 n (by simpa using hm)
      exact h4 e he hek
    rw [hn]
    simp [Instr.lookup, run_underlying Try.underlying33, MapKept.run_getObj_map hb, hc, hf, hz, Result.andThen]
  · have hf : (Instr.findKey 27 (.int .u64 (n : Int)) es.toList).run Try.prog W = .ok (some (0 + j, e.val)) W := run_findKey Try.underlying27 h3
    obtain ⟨m, hm, e1, e2⟩ := h1 e (List.mem_of_getElem? h4)
    have hmn : m = n := nat_key (e1.symm.trans h5)
    have hn : l.contains n = true := by rw [← hmn]; simpa using hm
    rw [hn, ← e2]
    simp [Instr.lookup, run_underlying Try.underlying33, MapKept.run_getObj_map hb, hc, hf, Result.andThen]
theorem may_put (h : Has w W (mayA g l :: ps)) (hl : Locs ps) (n : Nat) :
    ∃ W', (Instr.mapUpdate 33 (.map (some g)) (.int .u64 (n : Int)) (.bool true)).run Try.prog W = .ok () W' ∧ Has w W' (mayA g (n :: l) :: ps) := by
  obtain ⟨F, ⟨⟨es, clock, hb, h1, h2⟩, hF⟩⟩ := h.head
  have hc := run_checkKey (P := Try.prog) (w := W) Try.underlying27 (isKey_u64 (n : Int)) false 9999
  have hk : ∀ x ∈ es.toList, IsKey (.int .u64) x.key := fun x hx => by obtain ⟨m, _, e, _⟩ := h1 x hx; rw [e]; exact isKey_u64 _
  have step : ∀ (es' : Array MapEntry) (c' : Nat), (∀ e ∈ es'.toList, ∃ m ∈ n :: l, e.key = .int .u64 ((m : Nat) : Int) ∧ e.val = .bool true) → (∀ m ∈ n :: l, ∃ e ∈ es'.toList, e.key = .int .u64 ((m : Nat) : Int)) → Has w (setBlock W g (.map es' c')) (mayA g (n :: l) :: ps) := by
    intro es' c' k1 k2
    refine h.next hl fun F hF => ?_
    obtain ⟨_, rfl⟩ := hF
    exact ⟨_, ⟨⟨es', c', setBlock_at (.map es' c') hb, k1, k2⟩, rfl⟩, setBlock_tch (S := fun k => k = g) (Tch.refl _ _) (fun _ => rfl) _, fun k hk => Or.inl hk⟩
  rcases findNow_spec (isKey_u64 (n : Int)) es.toList 0 hk with ⟨h3, h4⟩ | ⟨j, e, h3, h4, h5⟩
  · have hf : (Instr.findKey 27 (.int .u64 (n : Int)) es.toList).run Try.prog W = .ok none W := run_findKey Try.underlying27 h3
    refine ⟨setBlock W g (.map (es.push ⟨.int .u64 (n : Int), .bool true, clock⟩) (clock + 1)), ?_, step _ _ ?_ ?_⟩
    · simp [Instr.mapUpdate, run_underlying Try.underlying33, MapKept.run_getObj_map hb, hc, hf, MapKept.run_setObj_map _ hb, Result.andThen, setBlock]
    · intro x hx
      simp only [Array.toList_push, List.mem_append, List.mem_singleton] at hx
      rcases hx with hx | rfl
      · obtain ⟨m, hm, e⟩ := h1 x hx
        exact ⟨m, by simp [hm], e⟩
      · exact ⟨n, by simp, rfl, rfl⟩
    · intro m hm
      rcases List.mem_cons.1 hm with rfl | hm
      · exact ⟨⟨.int .u64 (m : Int), .bool true, clock⟩, by simp, rfl⟩
      · obtain ⟨e, he, hek⟩ := h2 m hm
        exact ⟨e, by simp [he], hek⟩
  · have hf : (Instr.findKey 27 (.int .u64 (n : Int)) es.toList).run Try.prog W = .ok (some (0 + j, e.val)) W := run_findKey Try.underlying27 h3
    have hst : (Instr.keyThatStays (.int .u64 (n : Int)) (.int .u64 (n : Int))).run Try.prog W = .ok (.int .u64 (n : Int)) W := run_keyThatStays (isKey_u64 _)
    have h4' : es[j]? = some e := by simpa using h4
    have hold : ((es[0 + j]?).map (·.key)).getD (.int .u64 (n : Int)) = .int .u64 (n : Int) := by simp [h4', h5]
    refine ⟨setBlock W g (.map (es.modify (0 + j) fun e => { e with key := .int .u64 (n : Int), val := .bool true }) clock), ?_, step _ _ ?_ ?_⟩
    · simp only [Nat.zero_add] at hold hf ⊢
      simp [Instr.mapUpdate, run_underlying Try.underlying33, MapKept.run_getObj_map hb, hc, hf, hold, hst, MapKept.run_setObj_map _ hb, Result.andThen, setBlock]
    · intro x hx
      obtain ⟨i, hi, rfl⟩ := List.mem_iff_getElem.1 hx
      simp only [Array.getElem_toList, Array.getElem_modify]
      split
      · exact ⟨n, by simp, rfl, rfl⟩
      · rename_i hne
        have hi' : i < es.size := by simpa using hi
        obtain ⟨m, hm, e⟩ := h1 es[i] (by simp)
        exact ⟨m, by simp [hm], e⟩
    · intro m hm
      have mem : ∀ i (hi : i < es.size), ((es.modify (0 + j) fun e => { e with key := .int .u64 (n : Int), val := .bool true })[i]'(by simpa using hi)) ∈ (es.modify (0 + j) fun e => { e with key := .int .u64 (n : Int), val := .bool true }).toList := fun i hi => by rw [Array.mem_toList_iff]; exact Array.getElem_mem _
      have hj : j < es.size := (Array.getElem?_eq_some_iff.1 h4').1
      rcases List.mem_cons.1 hm with rfl | hm
      · refine ⟨_, mem j hj, ?_⟩
        simp [Array.getElem_modify]
      · obtain ⟨x, hx, hxk⟩ := h2 m hm
        obtain ⟨i, hi, rfl⟩ := List.mem_iff_getElem.1 hx
        have hi' : i < es.size := by simpa using hi
        refine ⟨_, mem i hi', ?_⟩
        rw [Array.getElem_modify]
        split
        · rename_i hij
          have hij' : j = i := by omega
          subst hij'
          have : es[j] = e := by rw [Array.getElem?_eq_getElem hj] at h4'; exact Option.some.inj h4'
          rw [Array.getElem_toList, this, h5] at hxk
          exact hxk
        · simpa using hxk
end
end Go.Proofs.Ytjcioelolpmokaa
