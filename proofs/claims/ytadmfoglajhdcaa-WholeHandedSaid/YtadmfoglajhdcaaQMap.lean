/- DERIVED LAW, OF NO PROGRAM: 'a, m[k] = v, x' at a key that is not there: the entry is made first, its value is stored behind. -/
import Derived.Test.YtadmfoglajhdcaaQHeap
import Derived.Maps.OwnOps
namespace Go.Proofs.Ytadmfoglajhdcaa
set_option maxRecDepth 4000
set_option linter.unusedVariables false
set_option linter.unusedSimpArgs false
open Go Go.RowKit Go.Maps Go.ChangeMaps Go.MapKept
open Go.WideElems (Fit)
section
variable {H : Type} {P : Program} {k : TypeId} {R : Value → Option (DataW H × List MemPlace)} {w : World} {b n : Nat} {D : DataW H}
theorem findIdx_last {es : Array MapEntry} {x : MapEntry} {clock : Nat} (hx : x.born = clock) (h : ∀ y ∈ es.toList, y.born < clock) :
    (es.push x).findIdx? (fun e => (e.born : Int) == (clock : Int)) = some es.size := by
  rw [Array.findIdx?_push]
  have : es.findIdx? (fun e => (e.born : Int) == (clock : Int)) = none := by
    rw [Array.findIdx?_eq_none_iff]
    intro y hy
    have := h y (by simpa using hy)
    simp; omega
  rw [this]
  simp [hx]
theorem entry_new {t e : TypeId} (h : w.ownsMap P k R b n D) (K : Keyed P k) (ht : P.underlying t = some (.map k e)) (hn : n < maxLen) {key : Value} {kl : Lit} (hkey : keyOf P k key = some kl) (hno : Maps.has D kl = false)
    {z : Value} (hz : (zeroValue e).run P w = .ok z w) :
    ∃ (st : Int) (w1 : World), (Instr.mapEntry t (.map (some b)) key).run P w = .ok (.tuple #[z, .int .i64 st]) w1 ∧ w.mapTurned w1 b ∧
      ∀ (w2 : World) (val : Value) (d : DataW H) (ps : List MemPlace), w2.heap[b]? = w1.heap[b]? → R val = some (d, ps) →
        ∃ w3, (Instr.entryStore t (.map (some b)) (.int .i64 st) val).run P w2 = .ok () w3 ∧ w3.ownsMap P k R b (n + 1) (D.put kl d) ∧ w2.mapTurned w3 b := by
  have h0 := h
  obtain ⟨es, clock, hb, F, hs, hD⟩ := h
  have hfind : (Instr.findKey k key es.toList).run P w = .ok none w := by
    rcases K.find w hkey es.toList F.keys with ⟨h1, _⟩ | ⟨j, e0, h1, h2, h3⟩
    · exact h1
    · exfalso
      rcases Maps.fit_look false K ht hz hb F hkey with ⟨_, hall, _⟩ | ⟨e1, y, _, _, _, _, hat, _⟩
      · exact hall e0 (List.mem_of_getElem? h2) h3
      · have := Maps.has_true_of_atKey hat
        rw [← hD, hno] at this
        cases this
  have hst : ∀ y ∈ es.toList, y.born < clock := F.stamped.1
  refine ⟨clock, setBlock w b (.map (es.push ⟨key, z, clock⟩) (clock + 1)), ?_, ⟨es, clock, _, _, hb, rfl⟩, ?_⟩
  · simp [Instr.mapEntry, run_underlying ht, MapKept.run_getObj_map hb, K.check w false hkey, hfind, hz, MapKept.run_setObj_map _ hb, Result.andThen, setBlock, goInt]
  · intro w2 val d ps hb2 hv
    have hb1 : (setBlock w b (.map (es.push ⟨key, z, clock⟩) (clock + 1))).heap[b]? = some (.map (es.push ⟨key, z, clock⟩) (clock + 1)) := heap_setBlock_same hb _
    rw [hb1] at hb2
    obtain ⟨w', hrun, hown, _⟩ := h0.store K ht hn hkey hv
    have hrun' : (Instr.mapUpdate t (.map (some b)) key val).run P w = .ok () (setBlock w b (.map (es.push ⟨key, val, clock⟩) (clock + 1))) := by
      simp [Instr.mapUpdate, run_underlying ht, MapKept.run_getObj_map hb, K.check w false hkey, hfind, MapKept.run_setObj_map _ hb, Result.andThen, setBlock]
    rw [hrun] at hrun'
    obtain rfl : w' = setBlock w b (.map (es.push ⟨key, val, clock⟩) (clock + 1)) := by injection hrun'
    have hmod : (es.push ⟨key, z, clock⟩).modify es.size (fun e => { e with val := val }) = es.push ⟨key, val, clock⟩ := by
      apply Array.ext_getElem?
      intro i
      rw [Array.getElem?_modify, Array.getElem?_push, Array.getElem?_push]
      by_cases hi : i = es.size
      · subst hi; simp
      · simp [hi, Ne.symm hi]
    refine ⟨setBlock w2 b (.map (es.push ⟨key, val, clock⟩) (clock + 1)), ?_, ?_, ⟨_, _, _, _, hb2, rfl⟩⟩
    · simp [Instr.entryStore, MapKept.run_getObj_map hb2, asInt, asIntOf, findIdx_last (x := ⟨key, z, clock⟩) rfl hst, hmod, MapKept.run_setObj_map _ hb2, Result.andThen, setBlock]
    · obtain ⟨es', c', hb', r⟩ := hown
      rw [heap_setBlock_same hb] at hb'
      injection hb' with hb'
      injection hb' with he hc
      subst he hc
      exact ⟨_, _, heap_setBlock_same hb2 _, r⟩
end
end Go.Proofs.Ytadmfoglajhdcaa
