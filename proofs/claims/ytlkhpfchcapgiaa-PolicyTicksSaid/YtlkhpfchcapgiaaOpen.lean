/- A policy by value, opened to its five numbers. -/
import Derived.Test.YtlkhpfchcapgiaaLaws1
import Derived.Test.YtlkhpfchcapgiaaLaws2
import Derived.Test.YtlkhpfchcapgiaaLaws3
import Derived.Test.YtlkhpfchcapgiaaLaws4
import Derived.Lib.SmallJoins
import Derived.Deep.Fields
import Derived.OpenShut
namespace Go.Proofs.Ytlkhpfchcapgiaa
set_option linter.unusedVariables false
set_option linter.unusedSimpArgs false
open Go.Joins Go.ChangeShapes Go.WideShapes Go.RowKit Go.Deep
section
variable {H : Type} {enc : TypeId × Value → H} {P : Program} {w : World} {base : Nat} {spare : Nat → Bool} {held : Bool}
theorem open_agg5 {r : Reach} {b0 : Nat} {t : TypeId} {f0 f1 f2 f3 f4 : Field} {v : Value} {d : DataW H} {p : List MemPlace} (hs : P.underlying t = some (.struct #[f0, f1, f2, f3, f4])) (hone : oneCellFields P #[f0, f1, f2, f3, f4] = true) (hC : P.cellsOf t = 5)
    (hv : Value.okWide P w r b0 t v) (h : DataW.Trod enc P w base spare held t v d p) :
    ∃ (v0 v1 v2 v3 v4 : Value) (y0 y1 y2 y3 y4 : DataW H × List MemPlace) (n : Nat), v = .agg #[v0, v1, v2, v3, v4] ∧
      DataW.trod enc P w base spare held n f0.type [v0] = some y0 ∧ DataW.trod enc P w base spare held n f1.type [v1] = some y1 ∧ DataW.trod enc P w base spare held n f2.type [v2] = some y2 ∧ DataW.trod enc P w base spare held n f3.type [v3] = some y3 ∧ DataW.trod enc P w base spare held n f4.type [v4] = some y4 := by
  obtain ⟨cs, rfl, hsz⟩ := okWide_struct hs hv
  obtain ⟨l⟩ := cs
  match l, hsz.trans hC with
  | [c0, c1, c2, c3, c4], _ =>
    obtain ⟨fuel, hf⟩ := h
    obtain ⟨xs, n, _, hx, _, hlen, hg⟩ := DataW.trod_struct hs hf
    obtain ⟨o0, k0⟩ := hone_of hone 0 f0 rfl
    obtain ⟨o1, k1⟩ := hone_of hone 1 f1 rfl
    obtain ⟨o2, k2⟩ := hone_of hone 2 f2 rfl
    obtain ⟨o3, k3⟩ := hone_of hone 3 f3 rfl
    obtain ⟨o4, k4⟩ := hone_of hone 4 f4 rfl
    match xs, hlen with
    | [y0, y1, y2, y3, y4], _ =>
      exact ⟨c0, c1, c2, c3, c4, y0, y1, y2, y3, y4, n, rfl, by simpa [Value.cells, o0, k0] using hg 0 f0 rfl, by simpa [Value.cells, o1, k1] using hg 1 f1 rfl, by simpa [Value.cells, o2, k2] using hg 2 f2 rfl, by simpa [Value.cells, o3, k3] using hg 3 f3 rfl, by simpa [Value.cells, o4, k4] using hg 4 f4 rfl⟩
end
theorem open_pol {H : Type} {enc : TypeId × Value → H} {w : World} {base b0 : Nat} {spare : Nat → Bool} {held : Bool} {r : Reach} {v : Value} {d : DataW H} {p : List MemPlace}
    (hv : Value.okWide Try.prog w r b0 23 v) (h : DataW.Trod enc Try.prog w base spare held 23 v d p) : ∃ t f fa m l : Int, v = pol t f fa m l := by
  obtain ⟨v0, v1, v2, v3, v4, y0, y1, y2, y3, y4, n, rfl, z0, z1, z2, z3, z4⟩ := open_agg5 Try.underlying23 (by kernel_rfl) (by kernel_rfl) hv h
  obtain ⟨t, e0, _, _⟩ := DataW.trod_int Try.underlying3 z0
  obtain ⟨f, e1, _, _⟩ := DataW.trod_int Try.underlying2 z1
  obtain ⟨fa, e2, _, _⟩ := DataW.trod_int Try.underlying2 z2
  obtain ⟨m, e3, _, _⟩ := DataW.trod_int Try.underlying2 z3
  obtain ⟨l, e4, _, _⟩ := DataW.trod_int Try.underlying2 z4
  simp only [List.cons.injEq, and_true] at e0 e1 e2 e3 e4
  subst e0 e1 e2 e3 e4
  exact ⟨t, f, fa, m, l, rfl⟩

theorem numbers_all (t f fa m l : Int) (w : World) : Calls Try.prog 3 #[pol t f fa m l] w fun e w' => e = .returned (.bool true) ∧ Below w.heap.size w w' := by
  by_cases h : OkP t f fa m l
  · exact numbers_ok t f fa m l w h
  · exact numbers_no t f fa m l w h
theorem of_all (n : Int) (w : World) : Calls Try.prog 4 #[.int .i64 n] w fun e w' => e = .returned (.bool true) ∧ Below w.heap.size w w' := by
  by_cases h : 0 ≤ n ∧ n < 2147483648
  · exact of_law_in n w h.1 h.2
  · exact of_law_out n w (by omega)
theorem waits_all (t f fa m l n : Int) (w : World) (h2 : n ≤ 9223372036854775807) : Calls Try.prog 5 #[pol t f fa m l, .int .i64 n] w fun e w' => e = .returned (.bool true) ∧ Below w.heap.size w w' := by
  by_cases h : OkP t f fa m l
  · by_cases hn : n < 1 ∨ (0 < t ∧ t ≤ n)
    · exact waits_no t f fa m l n w h hn
    · by_cases h0 : t ≤ 0
      · exact waits_yes1 t f fa m l n w h (by omega) h2 (by omega) h0
      · exact waits_yes2 t f fa m l n w h (by omega) h2 (by omega) (by omega) (by omega)
  · exact waits_not t f fa m l n w h
theorem grows_all (t f fa m l : Int) (w : World) : Calls Try.prog 6 #[pol t f fa m l] w fun e w' => e = .returned (.bool true) ∧ Below w.heap.size w w' := by
  by_cases h : OkP t f fa m l
  · exact grows_ok t f fa m l w h
  · exact grows_not t f fa m l w h
theorem ticks_all (t f fa m l n now : Int) (w : World) (h2 : n ≤ 9223372036854775807) (h3 : -9223372036854775808 ≤ now) : Calls Try.prog 7 #[pol t f fa m l, .int .i64 n, .int .i64 now] w fun e w' => e = .returned (.bool true) ∧ Below w.heap.size w w' := by
  by_cases h : OkP t f fa m l
  · by_cases hl : 4611686018427387903 < now
    · exact ticks_late t f fa m l n now w h hl
    · by_cases hn : n < 1 ∨ (0 < t ∧ t ≤ n)
      · exact ticks_no t f fa m l n now w h hn h3 (by omega)
      · by_cases h0 : now < 0
        · exact ticks_neg t f fa m l n now w h (by omega) h2 (by omega) h3 h0
        · exact ticks_yes t f fa m l n now w h (by omega) h2 (by omega) (by omega) (by omega)
  · exact ticks_not t f fa m l n now w h
end Go.Proofs.Ytlkhpfchcapgiaa
