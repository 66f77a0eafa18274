/- Things of one's own, sorted. -/
import Derived.Test.YtnbdcdeidhhgoaaDoorHCmpT
import Derived.Test.YtnbdcdeidhhgoaaDoorHUp
import Derived.Test.YtnbdcdeidhhgoaaDoorShelf
namespace Go.Proofs.YtnbdcdeidhhgoaaDoor
set_option maxRecDepth 4000
set_option linter.unusedVariables false
set_option linter.unusedSimpArgs false
open Go Go.RowKit Go.Sort Go.Shelf
theorem flat_eq (xs : List It) (t : Nat) (h : t < xs.length * 5) : some ((flatK It.cells 5 xs.toArray)[t]!) = (itC xs)[t]? := by
  rw [get_flatK It.cells 5 xs.toArray t (by simpa using h)]
  have h1 : t / 5 < xs.length := by omega
  have h2 := itC_get xs (t / 5) (t % 5) h1 (by omega)
  rw [show t / 5 * 5 + t % 5 = t by omega] at h2
  rw [h2]
  have e : xs.toArray[t / 5]! = xs[t / 5] := by
    rw [getElem!_pos _ _ (by simpa using h1)]; simp
  rw [e]
  have h3 : t % 5 < xs[t / 5].cells.length := by show t % 5 < 5; omega
  rw [List.getElem?_eq_getElem h3, getElem!_pos (xs[t / 5].cells) (t % 5) h3]
theorem sort_row {cf : It → It → Int} (hO : SWO (ltOf cf)) (f : Nat) (eg : ∀ args w, (callFunc f args).run Tryd.prog w = .ok (.enter f args) w)
    (hcmp : ∀ (x y : It) (W : World), Calls Tryd.prog f #[.agg #[.int .i64 x.run, .int .i64 x.kind, .int .i64 x.id, .int .i64 x.due, .int .u64 x.seq], .agg #[.int .i64 y.run, .int .i64 y.kind, .int .i64 y.id, .int .i64 y.due, .int .u64 y.seq]] W fun e w' => e = .returned (.int .i64 (cf x y)) ∧ ∃ q os', w' = grow (W.drewN q) os')
    {W : World} {v : Value} {xs : List It} (h : W.ownsRow 0 51 5 v xs.length (itC xs)) (hz : xs.length < 1000000) :
    Calls Tryd.prog 16 #[v, .func (.func f) #[] #[]] W fun e W' => ∃ ys : List It, ys.Perm xs ∧ e = .returned (.tuple #[]) ∧ W'.ownsRow 0 51 5 v ys.length (itC ys) ∧ W.grownBy W' v.ownBlock := by
  rcases h.2 with ⟨rfl, hn⟩ | ⟨g, cap, cur, rfl, h0, hg, hnc, hcm, hcz, htk⟩
  · have : xs = [] := List.eq_nil_of_length_eq_zero hn
    subst this
    have hS := AnyF.slices_SortFunc_none (P := Tryd.prog) (ρ := Tryd.sortIt_ren) { Tryd.sortIt with } none 0 (.func (.func f) #[] #[]) W
    change Calls Tryd.prog 16 _ _ _ at hS
    refine hS.mono ?_
    rintro e W' ⟨rfl, rfl⟩
    exact ⟨[], List.Perm.refl _, rfl, h, ⟨rfl, rfl, rfl, Nat.le_refl _, fun _ _ _ => rfl⟩⟩
  · have hgl : g < W.heap.size := (Array.getElem?_eq_some_iff.1 hg).1
    have hH : HoldsK It.cells 5 W g 0 xs.toArray := by
      intro j hj
      have hj' : j < xs.length * 5 := by simpa using hj
      refine ⟨?_, ?_⟩
      · rw [Nat.zero_add, h.cellAt j hj', ← flat_eq xs j hj']; rfl
      · rw [Nat.zero_add]; exact h.frozenAt j
    have hS := AnyQ.slices_SortFunc (P := Tryd.prog) (ρ := Tryd.sortIt_ren) Tryd.sortIt 5 Tryd.isAgg51 Tryd.sizeOf51 It.cells (fun _ => rfl) (fun x v hv => itC_one [x] v (by simpa [itC] using hv)) cf hO f #[] g 0 cap xs.toArray W eg (fun _ _ _ _ x y => hcmp x y _) hH hgl (by simp; omega)
    change Calls Tryd.prog 16 _ _ _ at hS
    have hsz : xs.toArray.size = xs.length := by simp
    rw [hsz] at hS
    refine hS.mono ?_
    rintro e W' ⟨rfl, d', n, os, ⟨p1, p2, p3⟩, -, rfl⟩
    rw [hsz] at p1
    have hperm : d'.toList.Perm xs := by
      have e1 : d'.extract 0 xs.length = d' := by rw [← p1]; simp
      have e2 : xs.toArray.extract 0 xs.length = xs.toArray := by rw [← hsz]; simp
      rw [e1, e2] at p3
      simpa using p3
    have hlen : d'.toList.length = xs.length := by simpa using p1
    have hb : (sortWorldK It.cells 5 W g 0 n d' os).heap[g]? = some (.cells (putCells id 0 (flatK It.cells 5 d') cur) 51 (0, 0)) := by
      have hs : g < (W.heap.modify g (onCells (putCells id 0 (flatK It.cells 5 d')))).size := by simpa using hgl
      show ((W.heap.modify g (onCells (putCells id 0 (flatK It.cells 5 d')))) ++ os)[g]? = _
      rw [Array.getElem?_append_left hs, Array.getElem?_modify, if_pos rfl, hg]
      rfl
    refine ⟨d'.toList, hperm, rfl, ⟨itC_length _, .inr ⟨g, cap, _, by rw [hlen], h0, hb, by omega, hcm, ?_, ?_⟩⟩, ?_⟩
    · simp [putCells, hcz]
    · rw [hlen]
      apply List.ext_getElem?
      intro k
      rw [List.getElem?_take]
      by_cases hk : k < xs.length * 5
      · rw [if_pos hk]
        have hkc : k < cur.size := by have := Nat.mul_le_mul_right 5 hnc; omega
        have hfe := flat_eq d'.toList k (by rw [hlen]; exact hk)
        have hda : d'.toList.toArray = d' := by simp
        rw [hda] at hfe
        have hfs : (flatK It.cells 5 d').size = xs.length * 5 := by rw [size_flatK, p1]
        rw [← hfe]
        simp only [putCells, Array.getElem?_toList, Array.getElem?_mapIdx, Array.getElem?_eq_getElem hkc, Option.map_some, Nat.zero_le, true_and, Nat.zero_add, hfs, hk, if_true, Nat.sub_zero, id]
      · rw [if_neg hk, List.getElem?_eq_none (by rw [itC_length, hlen]; omega)]
    · refine ⟨rfl, rfl, rfl, ?_, fun k hk hne => ?_⟩
      · show W.heap.size ≤ ((W.heap.modify g _) ++ os).size
        simp
      · show ((W.heap.modify g (onCells (putCells id 0 (flatK It.cells 5 d')))) ++ os)[k]? = _
        rw [Array.getElem?_append_left (by simpa using hk), Array.getElem?_modify, if_neg (fun e => hne (by rw [← e]; rfl))]
theorem sortH {W : World} {v : Value} {xs : List It} (h : W.ownsRow 0 51 5 v xs.length (itC xs)) (hz : xs.length < 1000000) :
    Calls Tryd.prog 16 #[v, .func (.func 26) #[] #[]] W fun e W' => ∃ ys : List It, ys.Perm xs ∧ e = .returned (.tuple #[]) ∧ W'.ownsRow 0 51 5 v ys.length (itC ys) ∧ W.grownBy W' v.ownBlock :=
  sort_row swoH 26 (enters_of Tryd.func26 (by kernel_rfl) rfl) hcompare_any h hz
theorem sortT {W : World} {v : Value} {xs : List It} (h : W.ownsRow 0 51 5 v xs.length (itC xs)) (hz : xs.length < 1000000) :
    Calls Tryd.prog 16 #[v, .func (.func 17) #[] #[]] W fun e W' => ∃ ys : List It, ys.Perm xs ∧ e = .returned (.tuple #[]) ∧ W'.ownsRow 0 51 5 v ys.length (itC ys) ∧ W.grownBy W' v.ownBlock :=
  sort_row swoT 17 (enters_of Tryd.func17 (by kernel_rfl) rfl) tcompare_any h hz
/-- .. side by side with others -/
theorem sorted_has {w W W' : World} {v : Value} {xs ys : List It} {ps : List Asr} (h : Has w W (rowA 51 5 v xs.length (itC xs) :: ps)) (hl : Locs ps) (hown : W'.ownsRow 0 51 5 v ys.length (itC ys)) (hg : W.grownBy W' v.ownBlock) : Has w W' (rowA 51 5 v ys.length (itC ys) :: ps) :=
  h.grow hl hown hg ⟨fun k hk => Or.inl hk, fun h => h⟩
end Go.Proofs.YtnbdcdeidhhgoaaDoor
