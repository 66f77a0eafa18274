/- WholeDue, plain: which timers are alive. -/
import Derived.Test.YtnbdcdeidhhgoaaDoorTFires
import Derived.Test.YtnbdcdeidhhgoaaDoorTApply
namespace Go.Proofs.YtnbdcdeidhhgoaaDoor
set_option maxRecDepth 4000
set_option linter.unusedVariables false
set_option linter.unusedSimpArgs false
open Go
/-- the things are those of the numbers al, each due when D says -/
structure Con (D : List Int) (kd : Int) (al : List Int) (xs : List It) : Prop where
  ids : (xs.map (·.id)).Perm al
  it : ∀ t ∈ xs, t.kind = kd ∧ t.run = t.id % 4 ∧ 0 ≤ t.id ∧ t.id < D.length ∧ t.due = D.getD t.id.toNat 0
structure HpOk (xs : List It) (m : HK → Option Nat) : Prop where
  pos : Pos xs m
  heap : Heap xs
  ok : ∀ t ∈ xs, t.Ok
theorem HpOk.empty : HpOk [] (fun _ => none) := ⟨empty_pos, empty_heap, fun t ht => by cases ht⟩
theorem Con.empty (D : List Int) (kd : Int) : Con D kd [] [] := ⟨List.Perm.refl _, fun t ht => by cases ht⟩
theorem Con.noKey {D : List Int} {kd : Int} {al : List Int} {xs : List It} {m : HK → Option Nat} (h : Con D kd al xs) (hp : HpOk xs m) {r k j : Int} (hj : j ∉ al) : m (r, k, j) = none := by
  cases hm : m (r, k, j) with
  | none => rfl
  | some i =>
    obtain ⟨h1, h2⟩ := hp.pos.only _ _ hm
    exfalso
    apply hj
    refine h.ids.mem_iff.1 (List.mem_map.2 ⟨gt xs i, gt_mem xs h1, ?_⟩)
    have := congrArg (fun x : HK => x.2.2) h2
    exact this
theorem Con.put {D : List Int} {kd : Int} {al : List Int} {xs : List It} {m : HK → Option Nat} (h : Con D kd al xs) (hp : HpOk xs m) (j : Nat) (hj : (j : Int) ∉ al) (hjD : j < D.length) (x : It) (hx : x = ⟨(j : Int) % 4, kd, j, D.getD j 0, x.seq⟩) (ho : x.Ok) :
    Con D kd (al ++ [(j : Int)]) (upS (xs ++ [x]) m x xs.length).1 ∧ HpOk (upS (xs ++ [x]) m x xs.length).1 (upS (xs ++ [x]) m x xs.length).2 := by
  have hid : x.id = j := by rw [hx]
  have hm : m x.key = none := by
    have : x.key = ((j : Int) % 4, kd, (j : Int)) := by rw [hx]; rfl
    rw [this]
    exact h.noKey hp hj
  obtain ⟨d1, d2, d3⟩ := put_done hp.pos hp.heap x hm
  have hok : ∀ t ∈ xs ++ [x], t.Ok := by
    intro t ht
    rcases List.mem_append.1 ht with ht | ht
    · exact hp.ok t ht
    · rw [List.mem_singleton.1 ht]; exact ho
  refine ⟨⟨(d1.map (·.id)).trans ?_, fun t ht => ?_⟩, ⟨d2, d3, fun t ht => hok t (d1.mem_iff.1 ht)⟩⟩
  · rw [List.map_append, List.map_cons, List.map_nil, hid]
    exact h.ids.append_right _
  · rcases List.mem_append.1 (d1.mem_iff.1 ht) with ht | ht
    · exact h.it t ht
    · rw [List.mem_singleton.1 ht, hx]
      exact ⟨rfl, rfl, by show (0 : Int) ≤ j; omega, by show (j : Int) < _; omega, rfl⟩
theorem Con.find {D : List Int} {kd : Int} {al : List Int} {xs : List It} {m : HK → Option Nat} (h : Con D kd al xs) (hp : HpOk xs m) {id : Int} (hi : id ∈ al) : ∃ i, i < xs.length ∧ m (id % 4, kd, id) = some i ∧ (gt xs i).id = id := by
  obtain ⟨t, ht, hti⟩ := List.mem_map.1 (h.ids.mem_iff.2 hi)
  obtain ⟨i, hi, hit⟩ := List.mem_iff_getElem.1 ht
  obtain ⟨h1, h2, _⟩ := h.it t ht
  have hg : gt xs i = t := by rw [gt_lt xs hi]; exact hit
  refine ⟨i, hi, ?_, by rw [hg]; exact hti⟩
  have := hp.pos.at_ i hi
  rw [hg] at this
  have hk : t.key = (id % 4, kd, id) := by
    unfold It.key
    rw [h1, h2, hti]
  rw [hk] at this
  exact this
theorem Con.take {D : List Int} {kd : Int} {al al' : List Int} {xs : List It} {m : HK → Option Nat} (h : Con D kd al xs) (hp : HpOk xs m) {id : Int} {i : Nat} (hi : i < xs.length) (hid : (gt xs i).id = id) (hal : al.Perm (id :: al')) :
    Con D kd al' (takeS xs m i).1 ∧ HpOk (takeS xs m i).1 (takeS xs m i).2 := by
  obtain ⟨t1, t2, t3⟩ := take_done hp.pos hp.heap hi
  have hsub : ∀ t ∈ (takeS xs m i).1, t ∈ xs := fun t ht => t1.mem_iff.1 (List.mem_cons_of_mem _ ht)
  refine ⟨⟨?_, fun t ht => h.it t (hsub t ht)⟩, ⟨t2, t3, fun t ht => hp.ok t (hsub t ht)⟩⟩
  have h1 := (t1.map (·.id)).trans (h.ids.trans hal)
  rw [List.map_cons, hid] at h1
  exact h1.cons_inv
theorem Con.len {D : List Int} {kd : Int} {al : List Int} {xs : List It} (h : Con D kd al xs) : xs.length = al.length := by
  have := h.ids.length_eq
  rw [List.length_map] at this
  exact this
/-- those that fire, if all are timers -/
theorem fires_map : ∀ ds : List It, (∀ t ∈ ds, t.kind = 1) → firesL [] ds = ds.map fun t => ⟨t.run, 12, t.id⟩
  | [], _ => rfl
  | t :: ds, h => by
    have h1 := h t List.mem_cons_self
    rw [firesL, if_neg (by simp), if_neg (by rw [h1]; decide), fires_map ds (fun u hu => h u (List.mem_cons_of_mem _ hu))]
    rfl
def restL (xs : List It) (now : Int) : List Int := (xs.filter fun t => !decide (t.due ≤ now)).map (·.id)
theorem due_split {xs ds : List It} {now : Int} (h : ds.Perm (xs.filter fun t => decide (t.due ≤ now))) : (xs.map (·.id)).Perm (ds.map (·.id) ++ restL xs now) := by
  unfold restL
  rw [← List.map_append]
  refine List.Perm.map _ ?_
  exact (List.filter_append_perm (fun t : It => decide (t.due ≤ now)) xs).symm.trans (h.symm.append_right _)
theorem rest_late {D : List Int} {al : List Int} {xs : List It} {now : Int} (h : Con D 1 al xs) {id : Int} (hi : id ∈ restL xs now) : now < D.getD id.toNat 0 := by
  obtain ⟨t, ht, rfl⟩ := List.mem_map.1 hi
  obtain ⟨h1, h2⟩ := List.mem_filter.1 ht
  have h3 := (h.it t h1).2.2.2.2
  rw [← h3]
  simp at h2
  exact h2
end Go.Proofs.YtnbdcdeidhhgoaaDoor
