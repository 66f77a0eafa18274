/- A map from numbers to truth, of a law's own: which numbers are in it, and how many. -/
import Derived.Test.YtnbdcdeidhhgoaaDoorHMap
import Derived.Test.YtnbdcdeidhhgoaaDoorDKit
namespace Go.Proofs.YtnbdcdeidhhgoaaDoor
set_option maxRecDepth 4000
set_option linter.unusedVariables false
set_option linter.unusedSimpArgs false
open Go Go.RowKit Go.MapKept Go.ChangeMaps
def mayI (g : Nat) (l : List Int) : Asr := fun W F => (∃ es clock, W.heap[g]? = some (.map es clock) ∧ (∀ e ∈ es.toList, ∃ n ∈ l, e.key = .int .i64 n ∧ e.val = .bool true) ∧ (∀ n ∈ l, ∃ e ∈ es.toList, e.key = .int .i64 n) ∧ es.size = l.length) ∧ F = fun k => k = g
theorem mayI_loc (g : Nat) (l : List Int) : Loc (mayI g l) :=
  ⟨fun h hk => by
    obtain ⟨⟨es, c, hb, h1, h2⟩, rfl⟩ := h
    exact ⟨⟨es, c, (hk g rfl).trans hb, h1, h2⟩, rfl⟩, fun h hk => by
    obtain ⟨⟨es, c, hb, _⟩, rfl⟩ := h
    subst hk
    exact (Array.getElem?_eq_some_iff.1 hb).1⟩
theorem mayI_new (W : World) : mayI W.heap.size [] (W.alloc (.map #[] 0)) (fun k => k = W.heap.size) :=
  ⟨⟨#[], 0, heap_alloc_new W _, by simp, by simp, rfl⟩, rfl⟩
section
variable {w W : World} {g : Nat} {l : List Int} {ps : List Asr} {t k e : TypeId}
theorem Has.mayI (h : Has w W ps) (hl : Locs ps) : Has w (W.alloc (.map #[] 0)) (mayI W.heap.size [] :: ps) :=
  h.add hl (ext_alloc W _) (mayI_new W) (fun k hk => by omega)
theorem mayI_look {F : Nat → Prop} (ht : Tryd.prog.underlying t = some (.map k e)) (hkk : Tryd.prog.underlying k = some (.int .i64)) (hz : (zeroValue e).run Tryd.prog W = .ok (.bool false) W) (h : mayI g l W F) (n : Int) : (Instr.lookup t (.map (some g)) (.int .i64 n) false).run Tryd.prog W = .ok (.bool (l.contains n)) W := by
  obtain ⟨⟨es, clock, hb, h1, h2, _⟩, _⟩ := h
  have hc := run_checkKey (P := Tryd.prog) (w := W) hkk (isKey_i64 n) es.isEmpty 9999
  have hk : ∀ x ∈ es.toList, IsKey (.int .i64) x.key := fun x hx => by obtain ⟨m, _, e, _⟩ := h1 x hx; rw [e]; exact isKey_i64 _
  rcases findNow_spec (isKey_i64 n) es.toList 0 hk with ⟨h3, h4⟩ | ⟨j, x, h3, h4, h5⟩
  · have hf : (Instr.findKey k (.int .i64 n) es.toList).run Tryd.prog W = .ok none W := run_findKey hkk h3
    have hn : l.contains n = false := by
      rw [Bool.eq_false_iff]
      intro hm
      obtain ⟨e, he, hek⟩ := h2 n (by simpa using hm)
      exact h4 e he hek
    rw [hn]
    simp [Instr.lookup, run_underlying ht, MapKept.run_getObj_map hb, hc, hf, hz, Result.andThen]
  · have hf : (Instr.findKey k (.int .i64 n) es.toList).run Tryd.prog W = .ok (some (0 + j, x.val)) W := run_findKey hkk h3
    obtain ⟨m, hm, e1, e2⟩ := h1 x (List.mem_of_getElem? h4)
    have hmn : m = n := by
      have := e1.symm.trans h5
      injection this
    have hn : l.contains n = true := by rw [← hmn]; simpa using hm
    rw [hn, ← e2]
    simp [Instr.lookup, run_underlying ht, MapKept.run_getObj_map hb, hc, hf, Result.andThen]
theorem mayI_put (ht : Tryd.prog.underlying t = some (.map k e)) (hkk : Tryd.prog.underlying k = some (.int .i64)) (h : Has w W (mayI g l :: ps)) (hl : Locs ps) (n : Int) (hn : l.contains n = false) :
    ∃ W', (Instr.mapUpdate t (.map (some g)) (.int .i64 n) (.bool true)).run Tryd.prog W = .ok () W' ∧ Has w W' (mayI g (n :: l) :: ps) := by
  obtain ⟨F, ⟨⟨es, clock, hb, h1, h2, h0⟩, hF⟩⟩ := h.head
  have hc := run_checkKey (P := Tryd.prog) (w := W) hkk (isKey_i64 n) false 9999
  have hk : ∀ x ∈ es.toList, IsKey (.int .i64) x.key := fun x hx => by obtain ⟨m, _, e, _⟩ := h1 x hx; rw [e]; exact isKey_i64 _
  rcases findNow_spec (isKey_i64 n) es.toList 0 hk with ⟨h3, h4⟩ | ⟨j, x, h3, h4, h5⟩
  · have hf : (Instr.findKey k (.int .i64 n) es.toList).run Tryd.prog W = .ok none W := run_findKey hkk h3
    refine ⟨setBlock W g (.map (es.push ⟨.int .i64 n, .bool true, clock⟩) (clock + 1)), ?_, ?_⟩
    · simp [Instr.mapUpdate, run_underlying ht, MapKept.run_getObj_map hb, hc, hf, MapKept.run_setObj_map _ hb, Result.andThen, setBlock]
    · refine h.next hl fun F hF => ?_
      obtain ⟨_, rfl⟩ := hF
      refine ⟨_, ⟨⟨_, _, setBlock_at (.map (es.push ⟨.int .i64 n, .bool true, clock⟩) (clock + 1)) hb, fun x hx => ?_, fun m hm => ?_, by rw [Array.size_push, h0, List.length_cons]⟩, rfl⟩, setBlock_tch (S := fun k => k = g) (Tch.refl _ _) (fun _ => rfl) _, fun k hk => Or.inl hk⟩
      · simp only [Array.toList_push, List.mem_append, List.mem_singleton] at hx
        rcases hx with hx | rfl
        · obtain ⟨m, hm, e⟩ := h1 x hx
          exact ⟨m, by simp [hm], e⟩
        · exact ⟨n, by simp, rfl, rfl⟩
      · rcases List.mem_cons.1 hm with rfl | hm
        · exact ⟨⟨.int .i64 m, .bool true, clock⟩, by simp, rfl⟩
        · obtain ⟨e, he, hek⟩ := h2 m hm
          exact ⟨e, by simp [he], hek⟩
  · exfalso
    obtain ⟨m, hm, e1, _⟩ := h1 x (List.mem_of_getElem? h4)
    have hmn : m = n := by
      have := e1.symm.trans h5
      injection this
    rw [hmn] at hm
    have : l.contains n = true := by simpa using hm
    rw [hn] at this
    cases this
end
end Go.Proofs.YtnbdcdeidhhgoaaDoor
