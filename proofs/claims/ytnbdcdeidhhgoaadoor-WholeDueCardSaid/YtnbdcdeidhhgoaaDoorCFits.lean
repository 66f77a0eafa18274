/- cron: does a text fit a date? -/
import Derived.Test.YtnbdcdeidhhgoaaDoorCParse
namespace Go.Proofs.YtnbdcdeidhhgoaaDoor
set_option maxRecDepth 4000
set_option linter.unusedVariables false
set_option linter.unusedSimpArgs false
open Go Go.RowKit
def Sp.f (S : Sp) (k : Nat) : List Prt := S.q.getD k []
def Sok (S : Sp) : Prop := ∀ k, k < 5 → ∀ p ∈ S.q.getD k [], p.t ≤ 59
theorem getD_in {α : Type} {l : List α} {k : Nat} {d : α} : l.getD k d = d ∨ l.getD k d ∈ l := by
  rw [List.getD_eq_getElem?_getD]
  cases h : l[k]? with
  | none => exact Or.inl rfl
  | some a => exact Or.inr (List.mem_of_getElem? h)
theorem fieldsS_hi : ∀ {k : Nat} {l : List (List UInt8)} {q : List (List Prt)}, fieldsS k l = .ok q → ∀ f ∈ q, ∀ p ∈ f, p.t ≤ 59
  | k, [], q, h => by injection h with h; subst h; simp
  | k, x :: l, q, h => by
    rw [fieldsS] at h
    cases hx : fieldS (lo k) (Go.Proofs.YtnbdcdeidhhgoaaDoor.hi k) x with
    | error e => rw [hx] at h; cases h
    | ok p =>
      rw [hx] at h
      simp only [] at h
      cases hl : fieldsS (k + 1) l with
      | error e => rw [hl] at h; cases h
      | ok q' =>
        rw [hl] at h
        injection h with h
        subst h
        intro f hf p' hp'
        rcases List.mem_cons.1 hf with rfl | hf
        · have := partsS_hi hx p' hp'
          have := lohi k
          omega
        · exact fieldsS_hi hl f hf p' hp'
theorem parseS_ok {x : List UInt8} {S : Sp} (h : parseS x = .ok S) : Sok S ∧ x.length ≤ 128 ∧ (splitL 32 x).length = 5 ∧ fieldsS 0 (splitL 32 x) = .ok S.q ∧ S.b = stars (splitL 32 x) := by
  unfold parseS at h
  split at h
  · cases h
  · split at h
    · cases h
    · split at h
      · cases h
      · rename_i h1 h2 q hq
        injection h with h
        subst h
        refine ⟨fun k hk p hp => ?_, by omega, by omega, hq, rfl⟩
        rcases getD_in (l := q) (k := k) (d := []) with e | e
        · simp only [] at hp
          rw [e] at hp; simp at hp
        · exact fieldsS_hi hq _ e p hp
theorem setB_has {q : List Prt} (hq : ∀ p ∈ q, p.t ≤ 59) (n : Int) : setB (mask q) n = (decide (0 ≤ n) && hasP q n.toNat) := by
  unfold setB mask
  rw [bitsOf_test]
  by_cases h0 : 0 ≤ n
  · by_cases h1 : n < 64
    · have : n.toNat < 64 := by omega
      simp [h0, h1, this]
    · have : hasP q n.toNat = false := by
        unfold hasP
        rw [List.any_eq_false]
        intro p hp
        have := hq p hp
        unfold Prt.has
        simp; omega
      simp [h0, h1, this]
  · simp [h0]
theorem spec_has {S : Sp} (hS : Sok S) (k : Nat) (hk : k < 5) (n : Int) (W : World) :
    Calls Tryd.prog 24 #[.int .u64 (mask (S.f k)), .int .i64 n] W fun e w' => e = .returned (.bool (S.has k n)) ∧ Ext W w' := by
  refine (has_any W (mask (S.f k)) n (mask_lt _)).mono ?_
  rintro e w' ⟨rfl, rfl⟩
  rw [show mask (S.f k) = mask (S.q.getD k []) from rfl, setB_has (hS k hk)]
  exact ⟨rfl, Ext.refl _⟩
def SpecAt (W : World) (g : Nat) (S : Sp) (x : List UInt8) : Prop := Blk W g 74 (spC S.q S.b x)
theorem SpecAt.ext {W W' : World} {g : Nat} {S : Sp} {x : List UInt8} (h : SpecAt W g S x) (hE : Ext W W') : SpecAt W' g S x := by
  unfold SpecAt at *
  exact h.of_eq (hE.block g h.lt)
theorem SpecAt.m {W : World} {g : Nat} {S : Sp} {x : List UInt8} (h : SpecAt W g S x) :
    W.cell? ⟨g, 0, none⟩ = some (.int .u64 (mask (S.f 0))) ∧ W.cell? ⟨g, 1, none⟩ = some (.int .u64 (mask (S.f 1))) ∧ W.cell? ⟨g, 2, none⟩ = some (.int .u64 (mask (S.f 2))) ∧
    W.cell? ⟨g, 3, none⟩ = some (.int .u64 (mask (S.f 3))) ∧ W.cell? ⟨g, 4, none⟩ = some (.int .u64 (mask (S.f 4))) ∧ W.cell? ⟨g, 7, none⟩ = some (.bool (S.star 2)) ∧ W.cell? ⟨g, 9, none⟩ = some (.bool (S.star 4)) ∧ W.cell? ⟨g, 10, none⟩ = some (strV x) :=
  ⟨cell_of_row _ _ 0 _ _ _ h, cell_of_row _ _ 1 _ _ _ h, cell_of_row _ _ 2 _ _ _ h, cell_of_row _ _ 3 _ _ _ h, cell_of_row _ _ 4 _ _ _ h, cell_of_row _ _ 7 _ _ _ h, cell_of_row _ _ 9 _ _ _ h, cell_of_row _ _ 10 _ _ _ h⟩
theorem six_cells {W : World} {b : Nat} {T : TypeId} {y m d h n k : Int} (hb : Blk W b T (six y m d h n k)) :
    W.cell? ⟨b, 0, none⟩ = some (.int .i64 y) ∧ W.cell? ⟨b, 1, none⟩ = some (.int .i64 m) ∧ W.cell? ⟨b, 2, none⟩ = some (.int .i64 d) ∧ W.cell? ⟨b, 3, none⟩ = some (.int .i64 h) ∧ W.cell? ⟨b, 4, none⟩ = some (.int .i64 n) ∧ W.cell? ⟨b, 5, none⟩ = some (.int .i64 k) :=
  ⟨cell_of_row _ _ 0 _ _ _ hb, cell_of_row _ _ 1 _ _ _ hb, cell_of_row _ _ 2 _ _ _ hb, cell_of_row _ _ 3 _ _ _ hb, cell_of_row _ _ 4 _ _ _ hb, cell_of_row _ _ 5 _ _ _ hb⟩
/-- the spec's and the date's blocks, in every later world -/
structure Both (W : World) (g b : Nat) (S : Sp) (x : List UInt8) (y m d h n k : Int) : Prop where
  s : SpecAt W g S x
  d : Blk W b 82 (six y m d h n k)
theorem Both.ext {W W' : World} {g b : Nat} {S : Sp} {x : List UInt8} {y m d h n k : Int} (H : Both W g b S x y m d h n k) (hE : Ext W W') : Both W' g b S x y m d h n k :=
  ⟨H.s.ext hE, H.d.of_eq (hE.block b H.d.lt)⟩
theorem day_any (w : World) (g : Nat) (S : Sp) (x : List UInt8) (y m d h n k : Int) (hS : SpecAt w g S x) (hok : Sok S) :
    Calls Tryd.prog 23 #[.pointer (some ⟨g, 0, none⟩), .agg (six y m d h n k)] w fun e w' => e = .returned (.bool (S.day m d k)) ∧ Ext w w' := by
  have HD : Hid (S.day m d k = if S.has 3 m = true then if (S.star 2 || S.star 4) = true then S.has 2 d && S.has 4 k else S.has 2 d || S.has 4 k else false) := Lib.hid rfl
  have hB0 : Both (w.alloc (.cells (six y m d h n k) 82)) g w.heap.size S x y m d h n k := ⟨hS.ext (ext_alloc _ _), Blk.new _ _ _⟩
  have hE0 := ext_alloc w (.cells (six y m d h n k) 82)
  go_enter Tryd.func23, Tryd.ntmps23
  go_upto_region 1 with fail
  refine gen_world' (fun X => Ext w X ∧ Both X g w.heap.size S x y m d h n k) ⟨hE0, hB0⟩ ?_
  clear hE0 hB0
  rintro w1 ⟨hE1, hB1⟩
  generalize w.heap.size = b at *
  have r0 : ∀ z : ExtOf w1, z.val.cell? ⟨g, 0, none⟩ = some (.int .u64 (mask (S.f 0))) := fun z => (hB1.ext z.property).s.m.1
  have r1 : ∀ z : ExtOf w1, z.val.cell? ⟨g, 1, none⟩ = some (.int .u64 (mask (S.f 1))) := fun z => (hB1.ext z.property).s.m.2.1
  have r2 : ∀ z : ExtOf w1, z.val.cell? ⟨g, 2, none⟩ = some (.int .u64 (mask (S.f 2))) := fun z => (hB1.ext z.property).s.m.2.2.1
  have r3 : ∀ z : ExtOf w1, z.val.cell? ⟨g, 3, none⟩ = some (.int .u64 (mask (S.f 3))) := fun z => (hB1.ext z.property).s.m.2.2.2.1
  have r4 : ∀ z : ExtOf w1, z.val.cell? ⟨g, 4, none⟩ = some (.int .u64 (mask (S.f 4))) := fun z => (hB1.ext z.property).s.m.2.2.2.2.1
  have d0 : ∀ z : ExtOf w1, z.val.cell? ⟨b, 0, none⟩ = some (.int .i64 y) := fun z => (six_cells (hB1.ext z.property).d).1
  have d1 : ∀ z : ExtOf w1, z.val.cell? ⟨b, 1, none⟩ = some (.int .i64 m) := fun z => (six_cells (hB1.ext z.property).d).2.1
  have d2 : ∀ z : ExtOf w1, z.val.cell? ⟨b, 2, none⟩ = some (.int .i64 d) := fun z => (six_cells (hB1.ext z.property).d).2.2.1
  have d3 : ∀ z : ExtOf w1, z.val.cell? ⟨b, 3, none⟩ = some (.int .i64 h) := fun z => (six_cells (hB1.ext z.property).d).2.2.2.1
  have d4 : ∀ z : ExtOf w1, z.val.cell? ⟨b, 4, none⟩ = some (.int .i64 n) := fun z => (six_cells (hB1.ext z.property).d).2.2.2.2.1
  have d5 : ∀ z : ExtOf w1, z.val.cell? ⟨b, 5, none⟩ = some (.int .i64 k) := fun z => (six_cells (hB1.ext z.property).d).2.2.2.2.2
  have HC2 : ∀ z : ExtOf w1, Calls Tryd.prog 24 #[.int .u64 (mask (S.f 2)), .int .i64 d] z.val fun e W' => e = .returned (.bool (S.has 2 d)) ∧ ∃ y : ExtOf w1, W' = y.val := fun z => quiet_ext (spec_has hok 2 (by omega) d z.val)
  have HC4 : ∀ z : ExtOf w1, Calls Tryd.prog 24 #[.int .u64 (mask (S.f 4)), .int .i64 k] z.val fun e W' => e = .returned (.bool (S.has 4 k)) ∧ ∃ y : ExtOf w1, W' = y.val := fun z => quiet_ext (spec_has hok 4 (by omega) k z.val)
  refine region_ext (by kernel_rfl) (by kernel_rfl) ?_
  repeat (go_big_quiet_step (first | (with_reducible exact HC2 _) | (with_reducible exact HC4 _)))
  refine wpQuiet_nil ?_
  intro wq hq
  obtain ⟨xq, rfl⟩ := hq
  have hEq := xq.property
  clear r0 r1 r2 r3 r4 d0 d1 d2 d3 d4 d5 HC2 HC4
  replace hB1 := hB1.ext hEq
  have hE2 := hE1.trans hEq
  clear hE1 hEq
  generalize xq.val = w2 at *
  clear xq
  go_upto_region 2 with fail
  have r0 : ∀ z : ExtOf w2, z.val.cell? ⟨g, 0, none⟩ = some (.int .u64 (mask (S.f 0))) := fun z => (hB1.ext z.property).s.m.1
  have r1 : ∀ z : ExtOf w2, z.val.cell? ⟨g, 1, none⟩ = some (.int .u64 (mask (S.f 1))) := fun z => (hB1.ext z.property).s.m.2.1
  have r2 : ∀ z : ExtOf w2, z.val.cell? ⟨g, 2, none⟩ = some (.int .u64 (mask (S.f 2))) := fun z => (hB1.ext z.property).s.m.2.2.1
  have r3 : ∀ z : ExtOf w2, z.val.cell? ⟨g, 3, none⟩ = some (.int .u64 (mask (S.f 3))) := fun z => (hB1.ext z.property).s.m.2.2.2.1
  have r4 : ∀ z : ExtOf w2, z.val.cell? ⟨g, 4, none⟩ = some (.int .u64 (mask (S.f 4))) := fun z => (hB1.ext z.property).s.m.2.2.2.2.1
  have d0 : ∀ z : ExtOf w2, z.val.cell? ⟨b, 0, none⟩ = some (.int .i64 y) := fun z => (six_cells (hB1.ext z.property).d).1
  have d1 : ∀ z : ExtOf w2, z.val.cell? ⟨b, 1, none⟩ = some (.int .i64 m) := fun z => (six_cells (hB1.ext z.property).d).2.1
  have d2 : ∀ z : ExtOf w2, z.val.cell? ⟨b, 2, none⟩ = some (.int .i64 d) := fun z => (six_cells (hB1.ext z.property).d).2.2.1
  have d3 : ∀ z : ExtOf w2, z.val.cell? ⟨b, 3, none⟩ = some (.int .i64 h) := fun z => (six_cells (hB1.ext z.property).d).2.2.2.1
  have d4 : ∀ z : ExtOf w2, z.val.cell? ⟨b, 4, none⟩ = some (.int .i64 n) := fun z => (six_cells (hB1.ext z.property).d).2.2.2.2.1
  have d5 : ∀ z : ExtOf w2, z.val.cell? ⟨b, 5, none⟩ = some (.int .i64 k) := fun z => (six_cells (hB1.ext z.property).d).2.2.2.2.2
  have HC3 : ∀ z : ExtOf w2, Calls Tryd.prog 24 #[.int .u64 (mask (S.f 3)), .int .i64 m] z.val fun e W' => e = .returned (.bool (S.has 3 m)) ∧ ∃ y : ExtOf w2, W' = y.val := fun z => quiet_ext (spec_has hok 3 (by omega) m z.val)
  refine region_ext (by kernel_rfl) (by kernel_rfl) ?_
  repeat (go_big_quiet_step (exact HC3 _))
  refine wpQuiet_nil ?_
  intro wq hq
  obtain ⟨xq, rfl⟩ := hq
  have hEq := xq.property
  clear r0 r1 r2 r3 r4 d0 d1 d2 d3 d4 d5 HC3
  replace hB1 := hB1.ext hEq
  have hE3 := hE2.trans hEq
  clear hE2 hEq
  generalize xq.val = w3 at *
  clear xq
  obtain ⟨-, -, -, -, -, s2, s4, -⟩ := hB1.s.m
  cases b3 : S.has 3 m with
  | false =>
    go_wp2_with fail
    go_ret
    exact ⟨by rw [HD.out, b3]; rfl, hE3⟩
  | true =>
    cases e2 : S.star 2 with
    | true =>
      rw [e2] at s2
      cases f2 : S.has 2 d with
      | true =>
        go_wp2_with fail
        go_ret
        exact ⟨by rw [HD.out, b3, e2, f2]; rfl, hE3⟩
      | false =>
        go_wp2_with fail
        go_ret
        exact ⟨by rw [HD.out, b3, e2, f2]; rfl, hE3⟩
    | false =>
      rw [e2] at s2
      cases e4 : S.star 4 with
      | true =>
        rw [e4] at s4
        cases f2 : S.has 2 d with
        | true =>
          go_wp2_with fail
          go_ret
          exact ⟨by rw [HD.out, b3, e2, e4, f2]; rfl, hE3⟩
        | false =>
          go_wp2_with fail
          go_ret
          exact ⟨by rw [HD.out, b3, e2, e4, f2]; rfl, hE3⟩
      | false =>
        rw [e4] at s4
        cases f2 : S.has 2 d with
        | true =>
          go_wp2_with fail
          go_ret
          exact ⟨by rw [HD.out, b3, e2, e4, f2]; rfl, hE3⟩
        | false =>
          go_wp2_with fail
          go_ret
          exact ⟨by rw [HD.out, b3, e2, e4, f2]; rfl, hE3⟩
end Go.Proofs.YtnbdcdeidhhgoaaDoor
