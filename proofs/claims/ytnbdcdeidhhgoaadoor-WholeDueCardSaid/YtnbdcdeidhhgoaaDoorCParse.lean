/- cron: Parse. -/
import Derived.Test.YtnbdcdeidhhgoaaDoorCField
namespace Go.Proofs.YtnbdcdeidhhgoaaDoor
set_option maxRecDepth 4000
set_option linter.unusedVariables false
set_option linter.unusedSimpArgs false
open Go Go.RowKit
/-- the cells of a text that was read -/
def spC (q : List (List Prt)) (b : List Bool) (x : List UInt8) : Array Value :=
  #[.int .u64 (mask (q.getD 0 [])), .int .u64 (mask (q.getD 1 [])), .int .u64 (mask (q.getD 2 [])), .int .u64 (mask (q.getD 3 [])), .int .u64 (mask (q.getD 4 [])),
    .bool (b.getD 0 false), .bool (b.getD 1 false), .bool (b.getD 2 false), .bool (b.getD 3 false), .bool (b.getD 4 false), strV x]
theorem mask_nil : mask [] = 0 := by
  have h : ∀ k, bitsOf (hasP []) k = 0 := by
    intro k
    induction k with
    | zero => rfl
    | succ k ih => rw [bitsOf, ih]; simp [hasP]
  exact h 64
theorem spC_nil (x : List UInt8) : spC [] [] x = #[.int .u64 0, .int .u64 0, .int .u64 0, .int .u64 0, .int .u64 0, .bool false, .bool false, .bool false, .bool false, .bool false, strV x] := by
  unfold spC
  simp [mask_nil]
theorem spC_set (x : List UInt8) (p : List Prt) (z : Bool) : ∀ (i : Nat) (q : List (List Prt)) (b : List Bool), i < 5 → q.length = i → b.length = i →
    ((spC q b x).setIfInBounds i (.int .u64 (mask p))).setIfInBounds (5 + i) (.bool z) = spC (q ++ [p]) (b ++ [z]) x
  | 0, [], [], _, _, _ => rfl
  | 1, [_], [_], _, _, _ => rfl
  | 2, [_, _], [_, _], _, _, _ => rfl
  | 3, [_, _, _], [_, _, _], _, _, _ => rfl
  | 4, [_, _, _, _], [_, _, _, _], _, _, _ => rfl
def stars (l : List (List UInt8)) : List Bool := l.map fun y => y == [42]
theorem fields_round {ps : List (List UInt8)} {i : Nat} {q : List (List Prt)} (hi : i < ps.length) (h : fieldsS 0 (ps.take i) = .ok q) :
    (∀ e, fieldS (lo i) (Go.Proofs.YtnbdcdeidhhgoaaDoor.hi i) ps[i] = .error e → fieldsS 0 ps = .error e) ∧ (∀ p, fieldS (lo i) (Go.Proofs.YtnbdcdeidhhgoaaDoor.hi i) ps[i] = .ok p → fieldsS 0 (ps.take (i + 1)) = .ok (q ++ [p])) := by
  have hl : (ps.take i).length = i := by rw [List.length_take]; omega
  have h1 : ps = ps.take i ++ ps[i] :: ps.drop (i + 1) := by rw [← List.drop_eq_getElem_cons, List.take_append_drop]
  have h2 := fun x post => fieldsS_snoc (x := x) (post := post) h
  simp only [hl, Nat.zero_add] at h2
  constructor
  · intro e he
    rw [h1, h2, he]
  · intro p hp
    rw [List.take_succ_eq_append_getElem hi, h2, hp]
    rfl
theorem fieldsS_len : ∀ {k : Nat} {l : List (List UInt8)} {q : List (List Prt)}, fieldsS k l = .ok q → q.length = l.length
  | k, [], q, h => by injection h with h; subst h; rfl
  | k, x :: l, q, h => by
    rw [fieldsS] at h
    cases hx : fieldS (lo k) (hi k) x with
    | error e => rw [hx] at h; cases h
    | ok p =>
      rw [hx] at h
      simp only [] at h
      cases hl : fieldsS (k + 1) l with
      | error e => rw [hl] at h; cases h
      | ok q' =>
        rw [hl] at h
        injection h with h
        subst h
        simp [fieldsS_len hl]
theorem fieldS_err {L H : Nat} {x : List UInt8} {e : Int} (h : fieldS L H x = .error e) : e = 1 ∨ e = 8 := by
  unfold fieldS at h
  generalize splitL 44 x = l at h
  induction l with
  | nil => cases h
  | cons y l ih =>
    rw [partsS] at h
    cases hy : partS L H y with
    | error e' => rw [hy] at h; injection h with h; subst h; exact partS_err hy
    | ok p =>
      rw [hy] at h
      simp only [] at h
      cases hl : partsS L H l with
      | error e' => rw [hl] at h; injection h with h; subst h; exact ih hl
      | ok q => rw [hl] at h; cases h
theorem lohi (k : Nat) : lo k ≤ 1 ∧ Go.Proofs.YtnbdcdeidhhgoaaDoor.hi k ≤ 59 ∧ lo k ≤ Go.Proofs.YtnbdcdeidhhgoaaDoor.hi k := by
  unfold lo Go.Proofs.YtnbdcdeidhhgoaaDoor.hi
  refine ⟨?_, ?_, ?_⟩
  · split <;> omega
  · split
    · omega
    · split
      · omega
      · split
        · omega
        · split <;> omega
  · split
    · rename_i h; rcases h with rfl | rfl <;> decide
    · omega
theorem spC_cells (q : List (List Prt)) (b : List Bool) (x : List UInt8) (i : Nat) (h : i < 11) : ∃ v, (spC q b x)[i]? = some v := by
  refine ⟨(spC q b x)[i]'(by simpa [spC] using h), ?_⟩
  rw [Array.getElem?_eq_getElem]
theorem spans_any (w : World) : Calls Tryd.prog 20 #[] w fun e w' => e = .returned (.agg #[.int .i64 0, .int .i64 59, .int .i64 0, .int .i64 23, .int .i64 1, .int .i64 31, .int .i64 1, .int .i64 12, .int .i64 0, .int .i64 6]) ∧ Ext w w' := by
  go_enter Tryd.func20, Tryd.ntmps20
  go_wp2_with fail
  have hb := Blk.new w 77 #[.int .i64 0, .int .i64 59, .int .i64 0, .int .i64 23, .int .i64 1, .int .i64 31, .int .i64 1, .int .i64 12, .int .i64 0, .int .i64 6]
  exact bodyPost_ret (results_cell_row Tryd.results20 _ _ _ _ _ _ _ rfl hb Tryd.underlying77 rfl (by kernel_rfl)) rfl ⟨rfl, ext_alloc _ _⟩
theorem spans_index {W : World} :
    (Instr.index 77 (.agg #[.int .i64 0, .int .i64 59, .int .i64 0, .int .i64 23, .int .i64 1, .int .i64 31, .int .i64 1, .int .i64 12, .int .i64 0, .int .i64 6]) (.int .i64 0)).run Tryd.prog W = .ok (.agg #[.int .i64 0, .int .i64 59]) W ∧
    (Instr.index 77 (.agg #[.int .i64 0, .int .i64 59, .int .i64 0, .int .i64 23, .int .i64 1, .int .i64 31, .int .i64 1, .int .i64 12, .int .i64 0, .int .i64 6]) (.int .i64 1)).run Tryd.prog W = .ok (.agg #[.int .i64 0, .int .i64 23]) W ∧
    (Instr.index 77 (.agg #[.int .i64 0, .int .i64 59, .int .i64 0, .int .i64 23, .int .i64 1, .int .i64 31, .int .i64 1, .int .i64 12, .int .i64 0, .int .i64 6]) (.int .i64 2)).run Tryd.prog W = .ok (.agg #[.int .i64 1, .int .i64 31]) W ∧
    (Instr.index 77 (.agg #[.int .i64 0, .int .i64 59, .int .i64 0, .int .i64 23, .int .i64 1, .int .i64 31, .int .i64 1, .int .i64 12, .int .i64 0, .int .i64 6]) (.int .i64 3)).run Tryd.prog W = .ok (.agg #[.int .i64 1, .int .i64 12]) W ∧
    (Instr.index 77 (.agg #[.int .i64 0, .int .i64 59, .int .i64 0, .int .i64 23, .int .i64 1, .int .i64 31, .int .i64 1, .int .i64 12, .int .i64 0, .int .i64 6]) (.int .i64 4)).run Tryd.prog W = .ok (.agg #[.int .i64 0, .int .i64 6]) W := by
  have hu : (Tryd.prog.info? 76).map (·.size) = some 2 := by kernel_rfl
  cases hq : Tryd.prog.info? 76 with
  | none => rw [hq] at hu; cases hu
  | some t =>
    have ht : t.size = 2 := by rw [hq] at hu; simpa using hu
    simp only [Instr.index, asIntOf, Sem.run_bind, Sem.run_pure, Result.andThen_ok, run_underlying Tryd.underlying77]
    refine ⟨?_, ?_, ?_, ?_, ?_⟩ <;> simp [sizeOf, typeInfo, hq, ht, part, isAgg, run_underlying Tryd.underlying76, Sem.run_bind, Result.andThen]
def ParseR (r : Except Int Sp) (x : List UInt8) (w : World) (e : Ending) (w' : World) : Prop :=
  match r with
  | .error c => e = .returned (.tuple #[.pointer none, .int .i64 c]) ∧ Ext w w'
  | .ok S => ∃ g, e = .returned (.tuple #[.pointer (some ⟨g, 0, none⟩), .int .i64 0]) ∧ Has w w' [blkA g 74 (spC S.q S.b x)]
def PRel (w : World) (gp : Nat) (x : List UInt8) (ps : List (List UInt8)) (p : Option Addr) (c : Nat) (k : Value) (wr : World) : Prop :=
  ∃ (i : Nat) (q : List (List Prt)), k = .int .i64 i ∧ i ≤ 5 ∧ fieldsS 0 (ps.take i) = .ok q ∧ Has w wr [blkA gp 74 (spC q (stars (ps.take i)) x), tRow (.slice p 5 c) ps]
set_option maxHeartbeats 1000000 in
theorem parse_any (w : World) (x : List UInt8) (hs : x.length ≤ 100000) (hm : MX w) :
    Calls Tryd.prog 7 #[strV x] w fun e w' => ParseR (parseS x) x w e w' := by
  obtain ⟨R, hR⟩ : ∃ R, parseS x = R := ⟨_, rfl⟩
  rw [hR]
  unfold parseS at hR
  by_cases h1 : 128 < x.length
  · rw [if_pos h1] at hR
    subst hR
    have i1 : (128 : Int) < (strOf x).size := by rw [strOf_size]; omega
    go_enter Tryd.func7, Tryd.ntmps7
    rw [show strV x = .string (strOf x) from rfl]
    go_wp2_with fail
    go_ret2
    exact ⟨rfl, Ext.refl _⟩
  rw [if_neg h1] at hR
  have i1 : ¬ (128 : Int) < (strOf x).size := by rw [strOf_size]; omega
  have hsp := split_any w (strOf x) 32 (by rw [strOf_size]; omega) hm
  rw [tl_strOf] at hsp
  have hle := splitL_le 32 x
  generalize splitL 32 x = ps at *
  by_cases h2 : ps.length = 5
  · rw [if_neg (by omega)] at hR
    have HR := Lib.hid hR
    clear hR
    go_enter Tryd.func7, Tryd.ntmps7
    rw [show strV x = .string (strOf x) from rfl]
    go_wp2_with fail
    refine hsp.mono ?_
    rintro e w2 ⟨v, rfl, hown, hE⟩
    clear hsp
    obtain ⟨p, c, rfl⟩ := ownsRow_slice hown
    have H2 : Has w w2 [tRow (.slice p 5 c) ps] := by
      unfold tRow
      rw [← h2]
      exact Has.fresh (Has.nil (Ext.refl w)) .nil hE hown
    clear hown hE
    have hl5 : ((ps.length : Int) == 5) = true := by simp [h2]
    have H3 := H2.new (.cons (tRow_loc _ _) .nil) 74 (spC [] (stars (ps.take 0)) x)
    have hsz := spans_any (w2.alloc (.cells (spC [] (stars (ps.take 0)) x) 74))
    rw [show stars (ps.take 0) = [] from rfl, spC_nil] at hsz
    rw [h2]
    go_wp2_with fail
    refine hsz.mono ?_
    rintro e w4 ⟨rfl, hE⟩
    clear hsz
    rw [← spC_nil] at hE
    have H4 := H3.ext (.cons (blkA_loc _ _ _) (.cons (tRow_loc _ _) .nil)) hE
    generalize w2.heap.size = gp at *
    clear hE H3 H2
    go_wp2_with fail
    go_loopw [22] (fun k wr => PRel w gp x ps p c k wr) (fun k _ => (6 - intOf k).toNat)
    case atStart => exact ⟨0, [], rfl, by omega, rfl, H4⟩
    case round =>
      clear H4
      obtain ⟨i, q, rfl, hi5, hq, hH⟩ := hrel
      have LL : Locs [blkA gp 74 (spC q (stars (ps.take i)) x), tRow (.slice p 5 c) ps] := .cons (blkA_loc _ _ _) (.cons (tRow_loc _ _) .nil)
      by_cases hlt : i < 5
      · have hin : i < ps.length := by omega
        obtain ⟨hbad, hok⟩ := fields_round hin hq
        have hrow := hH.swap.row0
        have hst : stars (ps.take (i + 1)) = stars (ps.take i) ++ [ps[i] == [42]] := by
          rw [List.take_succ_eq_append_getElem hin]; unfold stars; rw [List.map_append]; rfl
        have hql := fieldsS_len hq
        rw [List.length_take, Nat.min_eq_left (by omega)] at hql
        have hsl : (stars (ps.take i)).length = i := by unfold stars; rw [List.length_map, List.length_take]; omega
        obtain ⟨g, rfl, hc⟩ := row_at (n := 5) (h2 ▸ hrow) (show (ps.map strV)[i]? = some (.string (strOf ps[i])) by rw [List.getElem?_map, List.getElem?_eq_getElem hin]; rfl)
        have hgp : g ≠ gp := fun h => row_ne hH.blk0 (by decide) hrow (by rw [h]; rfl)
        have hx := hle _ (List.getElem_mem hin)
        generalize ps[i] = y at *
        have hb := hH.blk0
        obtain ⟨v1, k1⟩ : ∃ v, wr.cell? ⟨gp, i, none⟩ = some v := by
          obtain ⟨v, hv⟩ := spC_cells q (stars (ps.take i)) x i (by omega)
          exact ⟨v, (cell_of_row _ _ i _ _ _ hb).trans hv⟩
        obtain ⟨v2, k2⟩ : ∃ v, wr.cell? ⟨gp, 5 + i, none⟩ = some v := by
          obtain ⟨v, hv⟩ := spC_cells q (stars (ps.take i)) x (5 + i) (by omega)
          exact ⟨v, (cell_of_row _ _ (5 + i) _ _ _ hb).trans hv⟩
        have f1 := hb.frozen i
        have f2 := hb.frozen (5 + i)
        have hset := fun p' => spC_set x p' (y == [42]) i q (stars (ps.take i)) hlt hql hsl
        have HC : ∀ {W : World} (z : ExtOf W), Ext w W → Calls Tryd.prog 21 #[.agg #[.int .i64 (lo i), .int .i64 (Go.Proofs.YtnbdcdeidhhgoaaDoor.hi i)], .string (strOf y)] z.val fun e W' => e = .returned (fieldV (fieldS (lo i) (Go.Proofs.YtnbdcdeidhhgoaaDoor.hi i) y)) ∧ ∃ z2 : ExtOf W, W' = z2.val :=
          fun {W} z hE => quiet_ext (field_fix z.val y _ _ (lohi i).1 (lohi i).2.1 (lohi i).2.2 (by omega) (hm.ext (hE.trans z.property)))
        have j0 := fun {W : World} => (spans_index (W := W)).1
        have j1 := fun {W : World} => (spans_index (W := W)).2.1
        have j2 := fun {W : World} => (spans_index (W := W)).2.2.1
        have j3 := fun {W : World} => (spans_index (W := W)).2.2.2.1
        have j4 := fun {W : World} => (spans_index (W := W)).2.2.2.2
        have HB := Lib.hid hbad
        have HO := Lib.hid hok
        have HS := Lib.hid hset
        have HT := Lib.hid hst
        clear hbad hok hset hst hb hrow hql hsl hq hx
        rcases (show i = 0 ∨ i = 1 ∨ i = 2 ∨ i = 3 ∨ i = 4 by omega) with rfl | rfl | rfl | rfl | rfl
        · clear hlt hi5 hin
          go_wp2_with fail
          refine gen_world' (fun X => Ext wr X ∧ Has w X [blkA gp 74 (spC q (stars (ps.take 0)) x), tRow (.slice (some ⟨g, 0, none⟩) 5 c) ps] ∧ Blk X wr.heap.size 76 #[.int .i64 0, .int .i64 59]) ⟨ext_alloc wr _, hH.ext LL (ext_alloc wr _), Blk.new _ _ _⟩ ?_
          rintro w5 ⟨hE5, hH5, hbx⟩
          have e2 : w5.cell? ⟨g, 0, none⟩ = some (.string (strOf y)) := (hE5.cell _ _ (World.block_lt_of_cell? wr _ hc)).trans hc
          have e3 : w5.cell? ⟨gp, 0, none⟩ = some v1 := (hE5.cell _ _ (World.block_lt_of_cell? wr _ k1)).trans k1
          have e4 : w5.cell? ⟨gp, 5 + 0, none⟩ = some v2 := (hE5.cell _ _ (World.block_lt_of_cell? wr _ k2)).trans k2
          have e5 : w5.frozen? ⟨gp, 0, none⟩ = false := (hE5.frozen _ _ (World.block_lt_of_cell? wr _ k1)).trans f1
          have e6 : w5.frozen? ⟨gp, 5 + 0, none⟩ = false := (hE5.frozen _ _ (World.block_lt_of_cell? wr _ k2)).trans f2
          have d0 : ∀ z : ExtOf w5, z.val.cell? ⟨wr.heap.size, 0, none⟩ = some (.int .i64 0) := fun z => (z.property.cell _ _ hbx.lt).trans (cell_of_row _ _ 0 _ _ _ hbx)
          have d1 : ∀ z : ExtOf w5, z.val.cell? ⟨wr.heap.size, 1, none⟩ = some (.int .i64 59) := fun z => (z.property.cell _ _ hbx.lt).trans (cell_of_row _ _ 1 _ _ _ hbx)
          have d2 : ∀ z : ExtOf w5, z.val.cell? ⟨g, 0, none⟩ = some (.string (strOf y)) := fun z => (z.property.cell _ _ (World.block_lt_of_cell? w5 _ e2)).trans e2
          have HC5 : ∀ z : ExtOf w5, Calls Tryd.prog 21 #[.agg #[.int .i64 0, .int .i64 59], .string (strOf y)] z.val fun e W' => e = .returned (fieldV (fieldS 0 59 y)) ∧ ∃ z2 : ExtOf w5, W' = z2.val := fun z => HC z hH5.base
          clear hc k1 k2 f1 f2 hH HC hbx j0 j1 j2 j3 j4
          cases hf : fieldS 0 59 y with
          | error e' =>
            rw [hf] at HC5
            simp only [fieldV] at HC5
            have e1 := HB.out e' hf
            have e7 := HR.out
            rw [e1] at e7
            subst e7
            rcases fieldS_err hf with rfl | rfl
            · refine region_ext (by kernel_rfl) (by kernel_rfl) ?_
              repeat (go_big_quiet_step (exact HC5 _))
              refine wpQuiet_nil ?_
              intro wq hq
              obtain ⟨xq, rfl⟩ := hq
              have hEq := xq.property
              clear d0 d1 d2 HC5
              go_wp2_with fail
              go_ret2
              exact ⟨rfl, hH5.base.trans hEq⟩
            · refine region_ext (by kernel_rfl) (by kernel_rfl) ?_
              repeat (go_big_quiet_step (exact HC5 _))
              refine wpQuiet_nil ?_
              intro wq hq
              obtain ⟨xq, rfl⟩ := hq
              have hEq := xq.property
              clear d0 d1 d2 HC5
              go_wp2_with fail
              go_ret2
              exact ⟨rfl, hH5.base.trans hEq⟩
          | ok pp =>
            rw [hf] at HC5
            simp only [fieldV] at HC5
            refine region_ext (by kernel_rfl) (by kernel_rfl) ?_
            repeat (go_big_quiet_step (exact HC5 _))
            refine wpQuiet_nil ?_
            intro wq hq
            obtain ⟨xq, rfl⟩ := hq
            have hEq := xq.property
            clear d0 d1 d2 HC5
            have hH6 := hH5.ext LL hEq
            replace e2 := (hEq.cell _ _ (World.block_lt_of_cell? w5 _ e2)).trans e2
            replace e5 := (hEq.frozen _ _ (World.block_lt_of_cell? w5 _ e3)).trans e5
            replace e6 := (hEq.frozen _ _ (World.block_lt_of_cell? w5 _ e4)).trans e6
            replace e3 := (hEq.cell _ _ (World.block_lt_of_cell? w5 _ e3)).trans e3
            replace e4 := (hEq.cell _ _ (World.block_lt_of_cell? w5 _ e4)).trans e4
            clear hEq hH5 hE5
            generalize xq.val = w6 at *
            clear xq
            have hz : ((strOf y).toList == [42]) = (y == [42]) := by rw [strOf_toList]
            go_wp2_with fail
            have d2 : ∀ z : Of (fun X => X.cell? ⟨g, 0, none⟩ = some (.string (strOf y))), z.val.cell? ⟨g, 0, none⟩ = some (.string (strOf y)) := fun z => z.property
            have hFd := (show w6.drew.cell? ⟨g, 0, none⟩ = some (.string (strOf y)) from e2)
            have hne_ : Nonempty (Of ((fun X => X.cell? ⟨g, 0, none⟩ = some (.string (strOf y))))) := ⟨⟨_, hFd⟩⟩
            refine region_steps [0,1,2,3,4,5,6,10,11,14,15,7,8,9,12,13,16,17] [true,true,true,true,true,true,true,true,true,true,true,true,true,true,true,false,true,false] ((fun X => X.cell? ⟨g, 0, none⟩ = some (.string (strOf y)))) (by kernel_rfl) (by kernel_rfl) hFd ?_
            simp only [List.filterMap_cons, List.filterMap_nil, List.getElem?_cons_zero, List.getElem?_cons_succ]
            refine steps_quiet 15 (by kernel_rfl) ?_
            simp only [List.take_succ_cons, List.take_zero, List.drop_succ_cons, List.drop_zero]
            repeat (go_big_quiet_step (fail))
            refine wpQuiet_nil ?_
            have hH7 := hH6.ext LL (Ext.refl w6).drew
            replace e2 : w6.drew.cell? ⟨g, 0, none⟩ = some (.string (strOf y)) := e2
            replace e3 : w6.drew.cell? ⟨gp, 0, none⟩ = some v1 := e3
            replace e4 : w6.drew.cell? ⟨gp, 5 + 0, none⟩ = some v2 := e4
            replace e5 : w6.drew.frozen? ⟨gp, 0, none⟩ = false := e5
            replace e6 : w6.drew.frozen? ⟨gp, 5 + 0, none⟩ = false := e6
            clear d2 hFd hH6
            generalize World.drew w6 = w7 at *
            refine steps_want rfl (fun K hK => ?_)
            go_simp
            have hH8 := hH7.set (.cons (tRow_loc _ _) .nil) 0 (.int .u64 (mask pp))
            have g2 : (w7.setCell ⟨gp, 0, none⟩ (.int .u64 (mask pp))).cell? ⟨g, 0, none⟩ = some (.string (strOf y)) := by
              rw [World.cell?_setCell_other (h := by intro h; injection h with h; exact hgp h.symm)]; exact e2
            refine hK _ _ (fun X => X.cell? ⟨g, 0, none⟩ = some (.string (strOf y))) g2 (fun _ h => h) ?_
            clear hK K
            try simp only [Act.put, List.setIfInBounds_toArray, List.set_cons_succ, List.set_cons_zero]
            refine steps_quiet 1 (by kernel_rfl) ?_
            simp only [List.take_succ_cons, List.take_zero, List.drop_succ_cons, List.drop_zero]
            repeat (go_big_quiet_step (fail))
            refine wpQuiet_nil ?_
            refine steps_want rfl (fun K hK => ?_)
            go_simp
            have hH9 := hH8.set (.cons (tRow_loc _ _) .nil) (5 + 0) (.bool (y == [42]))
            rw [HS.out pp] at hH9
            have g3 : ((w7.setCell ⟨gp, 0, none⟩ (.int .u64 (mask pp))).setCell ⟨gp, 5 + 0, none⟩ (.bool (y == [42]))).cell? ⟨g, 0, none⟩ = some (.string (strOf y)) := by
              rw [World.cell?_setCell_other (h := by intro h; injection h with h; exact hgp h.symm)]; exact g2
            refine hK _ _ (fun X => X.cell? ⟨g, 0, none⟩ = some (.string (strOf y))) g3 (fun _ h => h) ?_
            clear hK K e2 e3 e4 e5 e6 g2 g3 hH7 hH8
            refine steps_nil ?_
            try simp only [Act.put, List.setIfInBounds_toArray, List.set_cons_succ, List.set_cons_zero]
            go_wp2_with fail
            exact ⟨⟨0 + 1, q ++ [pp], by go_num, by omega, HO.out pp hf, by rw [HT.out]; exact hH9⟩, by simp [intOf]⟩
        · clear hlt hi5 hin
          go_wp2_with fail
          refine gen_world' (fun X => Ext wr X ∧ Has w X [blkA gp 74 (spC q (stars (ps.take 1)) x), tRow (.slice (some ⟨g, 0, none⟩) 5 c) ps] ∧ Blk X wr.heap.size 76 #[.int .i64 0, .int .i64 23]) ⟨ext_alloc wr _, hH.ext LL (ext_alloc wr _), Blk.new _ _ _⟩ ?_
          rintro w5 ⟨hE5, hH5, hbx⟩
          have e2 : w5.cell? ⟨g, 1, none⟩ = some (.string (strOf y)) := (hE5.cell _ _ (World.block_lt_of_cell? wr _ hc)).trans hc
          have e3 : w5.cell? ⟨gp, 1, none⟩ = some v1 := (hE5.cell _ _ (World.block_lt_of_cell? wr _ k1)).trans k1
          have e4 : w5.cell? ⟨gp, 5 + 1, none⟩ = some v2 := (hE5.cell _ _ (World.block_lt_of_cell? wr _ k2)).trans k2
          have e5 : w5.frozen? ⟨gp, 1, none⟩ = false := (hE5.frozen _ _ (World.block_lt_of_cell? wr _ k1)).trans f1
          have e6 : w5.frozen? ⟨gp, 5 + 1, none⟩ = false := (hE5.frozen _ _ (World.block_lt_of_cell? wr _ k2)).trans f2
          have d0 : ∀ z : ExtOf w5, z.val.cell? ⟨wr.heap.size, 0, none⟩ = some (.int .i64 0) := fun z => (z.property.cell _ _ hbx.lt).trans (cell_of_row _ _ 0 _ _ _ hbx)
          have d1 : ∀ z : ExtOf w5, z.val.cell? ⟨wr.heap.size, 1, none⟩ = some (.int .i64 23) := fun z => (z.property.cell _ _ hbx.lt).trans (cell_of_row _ _ 1 _ _ _ hbx)
          have d2 : ∀ z : ExtOf w5, z.val.cell? ⟨g, 1, none⟩ = some (.string (strOf y)) := fun z => (z.property.cell _ _ (World.block_lt_of_cell? w5 _ e2)).trans e2
          have HC5 : ∀ z : ExtOf w5, Calls Tryd.prog 21 #[.agg #[.int .i64 0, .int .i64 23], .string (strOf y)] z.val fun e W' => e = .returned (fieldV (fieldS 0 23 y)) ∧ ∃ z2 : ExtOf w5, W' = z2.val := fun z => HC z hH5.base
          clear hc k1 k2 f1 f2 hH HC hbx j0 j1 j2 j3 j4
          cases hf : fieldS 0 23 y with
          | error e' =>
            rw [hf] at HC5
            simp only [fieldV] at HC5
            have e1 := HB.out e' hf
            have e7 := HR.out
            rw [e1] at e7
            subst e7
            rcases fieldS_err hf with rfl | rfl
            · refine region_ext (by kernel_rfl) (by kernel_rfl) ?_
              repeat (go_big_quiet_step (exact HC5 _))
              refine wpQuiet_nil ?_
              intro wq hq
              obtain ⟨xq, rfl⟩ := hq
              have hEq := xq.property
              clear d0 d1 d2 HC5
              go_wp2_with fail
              go_ret2
              exact ⟨rfl, hH5.base.trans hEq⟩
            · refine region_ext (by kernel_rfl) (by kernel_rfl) ?_
              repeat (go_big_quiet_step (exact HC5 _))
              refine wpQuiet_nil ?_
              intro wq hq
              obtain ⟨xq, rfl⟩ := hq
              have hEq := xq.property
              clear d0 d1 d2 HC5
              go_wp2_with fail
              go_ret2
              exact ⟨rfl, hH5.base.trans hEq⟩
          | ok pp =>
            rw [hf] at HC5
            simp only [fieldV] at HC5
            refine region_ext (by kernel_rfl) (by kernel_rfl) ?_
            repeat (go_big_quiet_step (exact HC5 _))
            refine wpQuiet_nil ?_
            intro wq hq
            obtain ⟨xq, rfl⟩ := hq
            have hEq := xq.property
            clear d0 d1 d2 HC5
            have hH6 := hH5.ext LL hEq
            replace e2 := (hEq.cell _ _ (World.block_lt_of_cell? w5 _ e2)).trans e2
            replace e5 := (hEq.frozen _ _ (World.block_lt_of_cell? w5 _ e3)).trans e5
            replace e6 := (hEq.frozen _ _ (World.block_lt_of_cell? w5 _ e4)).trans e6
            replace e3 := (hEq.cell _ _ (World.block_lt_of_cell? w5 _ e3)).trans e3
            replace e4 := (hEq.cell _ _ (World.block_lt_of_cell? w5 _ e4)).trans e4
            clear hEq hH5 hE5
            generalize xq.val = w6 at *
            clear xq
            have hz : ((strOf y).toList == [42]) = (y == [42]) := by rw [strOf_toList]
            go_wp2_with fail
            have d2 : ∀ z : Of (fun X => X.cell? ⟨g, 1, none⟩ = some (.string (strOf y))), z.val.cell? ⟨g, 1, none⟩ = some (.string (strOf y)) := fun z => z.property
            have hFd := (show w6.drew.cell? ⟨g, 1, none⟩ = some (.string (strOf y)) from e2)
            have hne_ : Nonempty (Of ((fun X => X.cell? ⟨g, 1, none⟩ = some (.string (strOf y))))) := ⟨⟨_, hFd⟩⟩
            refine region_steps [0,1,2,3,4,5,6,10,11,14,15,7,8,9,12,13,16,17] [true,true,true,true,true,true,true,true,true,true,true,true,true,true,true,false,true,false] ((fun X => X.cell? ⟨g, 1, none⟩ = some (.string (strOf y)))) (by kernel_rfl) (by kernel_rfl) hFd ?_
            simp only [List.filterMap_cons, List.filterMap_nil, List.getElem?_cons_zero, List.getElem?_cons_succ]
            refine steps_quiet 15 (by kernel_rfl) ?_
            simp only [List.take_succ_cons, List.take_zero, List.drop_succ_cons, List.drop_zero]
            repeat (go_big_quiet_step (fail))
            refine wpQuiet_nil ?_
            have hH7 := hH6.ext LL (Ext.refl w6).drew
            replace e2 : w6.drew.cell? ⟨g, 1, none⟩ = some (.string (strOf y)) := e2
            replace e3 : w6.drew.cell? ⟨gp, 1, none⟩ = some v1 := e3
            replace e4 : w6.drew.cell? ⟨gp, 5 + 1, none⟩ = some v2 := e4
            replace e5 : w6.drew.frozen? ⟨gp, 1, none⟩ = false := e5
            replace e6 : w6.drew.frozen? ⟨gp, 5 + 1, none⟩ = false := e6
            clear d2 hFd hH6
            generalize World.drew w6 = w7 at *
            refine steps_want rfl (fun K hK => ?_)
            go_simp
            have hH8 := hH7.set (.cons (tRow_loc _ _) .nil) 1 (.int .u64 (mask pp))
            have g2 : (w7.setCell ⟨gp, 1, none⟩ (.int .u64 (mask pp))).cell? ⟨g, 1, none⟩ = some (.string (strOf y)) := by
              rw [World.cell?_setCell_other (h := by intro h; injection h with h; exact hgp h.symm)]; exact e2
            refine hK _ _ (fun X => X.cell? ⟨g, 1, none⟩ = some (.string (strOf y))) g2 (fun _ h => h) ?_
            clear hK K
            try simp only [Act.put, List.setIfInBounds_toArray, List.set_cons_succ, List.set_cons_zero]
            refine steps_quiet 1 (by kernel_rfl) ?_
            simp only [List.take_succ_cons, List.take_zero, List.drop_succ_cons, List.drop_zero]
            repeat (go_big_quiet_step (fail))
            refine wpQuiet_nil ?_
            refine steps_want rfl (fun K hK => ?_)
            go_simp
            have hH9 := hH8.set (.cons (tRow_loc _ _) .nil) (5 + 1) (.bool (y == [42]))
            rw [HS.out pp] at hH9
            have g3 : ((w7.setCell ⟨gp, 1, none⟩ (.int .u64 (mask pp))).setCell ⟨gp, 5 + 1, none⟩ (.bool (y == [42]))).cell? ⟨g, 1, none⟩ = some (.string (strOf y)) := by
              rw [World.cell?_setCell_other (h := by intro h; injection h with h; exact hgp h.symm)]; exact g2
            refine hK _ _ (fun X => X.cell? ⟨g, 1, none⟩ = some (.string (strOf y))) g3 (fun _ h => h) ?_
            clear hK K e2 e3 e4 e5 e6 g2 g3 hH7 hH8
            refine steps_nil ?_
            try simp only [Act.put, List.setIfInBounds_toArray, List.set_cons_succ, List.set_cons_zero]
            go_wp2_with fail
            exact ⟨⟨1 + 1, q ++ [pp], by go_num, by omega, HO.out pp hf, by rw [HT.out]; exact hH9⟩, by simp [intOf]⟩
        · clear hlt hi5 hin
          go_wp2_with fail
          refine gen_world' (fun X => Ext wr X ∧ Has w X [blkA gp 74 (spC q (stars (ps.take 2)) x), tRow (.slice (some ⟨g, 0, none⟩) 5 c) ps] ∧ Blk X wr.heap.size 76 #[.int .i64 1, .int .i64 31]) ⟨ext_alloc wr _, hH.ext LL (ext_alloc wr _), Blk.new _ _ _⟩ ?_
          rintro w5 ⟨hE5, hH5, hbx⟩
          have e2 : w5.cell? ⟨g, 2, none⟩ = some (.string (strOf y)) := (hE5.cell _ _ (World.block_lt_of_cell? wr _ hc)).trans hc
          have e3 : w5.cell? ⟨gp, 2, none⟩ = some v1 := (hE5.cell _ _ (World.block_lt_of_cell? wr _ k1)).trans k1
          have e4 : w5.cell? ⟨gp, 5 + 2, none⟩ = some v2 := (hE5.cell _ _ (World.block_lt_of_cell? wr _ k2)).trans k2
          have e5 : w5.frozen? ⟨gp, 2, none⟩ = false := (hE5.frozen _ _ (World.block_lt_of_cell? wr _ k1)).trans f1
          have e6 : w5.frozen? ⟨gp, 5 + 2, none⟩ = false := (hE5.frozen _ _ (World.block_lt_of_cell? wr _ k2)).trans f2
          have d0 : ∀ z : ExtOf w5, z.val.cell? ⟨wr.heap.size, 0, none⟩ = some (.int .i64 1) := fun z => (z.property.cell _ _ hbx.lt).trans (cell_of_row _ _ 0 _ _ _ hbx)
          have d1 : ∀ z : ExtOf w5, z.val.cell? ⟨wr.heap.size, 1, none⟩ = some (.int .i64 31) := fun z => (z.property.cell _ _ hbx.lt).trans (cell_of_row _ _ 1 _ _ _ hbx)
          have d2 : ∀ z : ExtOf w5, z.val.cell? ⟨g, 2, none⟩ = some (.string (strOf y)) := fun z => (z.property.cell _ _ (World.block_lt_of_cell? w5 _ e2)).trans e2
          have HC5 : ∀ z : ExtOf w5, Calls Tryd.prog 21 #[.agg #[.int .i64 1, .int .i64 31], .string (strOf y)] z.val fun e W' => e = .returned (fieldV (fieldS 1 31 y)) ∧ ∃ z2 : ExtOf w5, W' = z2.val := fun z => HC z hH5.base
          clear hc k1 k2 f1 f2 hH HC hbx j0 j1 j2 j3 j4
          cases hf : fieldS 1 31 y with
          | error e' =>
            rw [hf] at HC5
            simp only [fieldV] at HC5
            have e1 := HB.out e' hf
            have e7 := HR.out
            rw [e1] at e7
            subst e7
            rcases fieldS_err hf with rfl | rfl
            · refine region_ext (by kernel_rfl) (by kernel_rfl) ?_
              repeat (go_big_quiet_step (exact HC5 _))
              refine wpQuiet_nil ?_
              intro wq hq
              obtain ⟨xq, rfl⟩ := hq
              have hEq := xq.property
              clear d0 d1 d2 HC5
              go_wp2_with fail
              go_ret2
              exact ⟨rfl, hH5.base.trans hEq⟩
            · refine region_ext (by kernel_rfl) (by kernel_rfl) ?_
              repeat (go_big_quiet_step (exact HC5 _))
              refine wpQuiet_nil ?_
              intro wq hq
              obtain ⟨xq, rfl⟩ := hq
              have hEq := xq.property
              clear d0 d1 d2 HC5
              go_wp2_with fail
              go_ret2
              exact ⟨rfl, hH5.base.trans hEq⟩
          | ok pp =>
            rw [hf] at HC5
            simp only [fieldV] at HC5
            refine region_ext (by kernel_rfl) (by kernel_rfl) ?_
            repeat (go_big_quiet_step (exact HC5 _))
            refine wpQuiet_nil ?_
            intro wq hq
            obtain ⟨xq, rfl⟩ := hq
            have hEq := xq.property
            clear d0 d1 d2 HC5
            have hH6 := hH5.ext LL hEq
            replace e2 := (hEq.cell _ _ (World.block_lt_of_cell? w5 _ e2)).trans e2
            replace e5 := (hEq.frozen _ _ (World.block_lt_of_cell? w5 _ e3)).trans e5
            replace e6 := (hEq.frozen _ _ (World.block_lt_of_cell? w5 _ e4)).trans e6
            replace e3 := (hEq.cell _ _ (World.block_lt_of_cell? w5 _ e3)).trans e3
            replace e4 := (hEq.cell _ _ (World.block_lt_of_cell? w5 _ e4)).trans e4
            clear hEq hH5 hE5
            generalize xq.val = w6 at *
            clear xq
            have hz : ((strOf y).toList == [42]) = (y == [42]) := by rw [strOf_toList]
            go_wp2_with fail
            have d2 : ∀ z : Of (fun X => X.cell? ⟨g, 2, none⟩ = some (.string (strOf y))), z.val.cell? ⟨g, 2, none⟩ = some (.string (strOf y)) := fun z => z.property
            have hFd := (show w6.drew.cell? ⟨g, 2, none⟩ = some (.string (strOf y)) from e2)
            have hne_ : Nonempty (Of ((fun X => X.cell? ⟨g, 2, none⟩ = some (.string (strOf y))))) := ⟨⟨_, hFd⟩⟩
            refine region_steps [0,1,2,3,4,5,6,10,11,14,15,7,8,9,12,13,16,17] [true,true,true,true,true,true,true,true,true,true,true,true,true,true,true,false,true,false] ((fun X => X.cell? ⟨g, 2, none⟩ = some (.string (strOf y)))) (by kernel_rfl) (by kernel_rfl) hFd ?_
            simp only [List.filterMap_cons, List.filterMap_nil, List.getElem?_cons_zero, List.getElem?_cons_succ]
            refine steps_quiet 15 (by kernel_rfl) ?_
            simp only [List.take_succ_cons, List.take_zero, List.drop_succ_cons, List.drop_zero]
            repeat (go_big_quiet_step (fail))
            refine wpQuiet_nil ?_
            have hH7 := hH6.ext LL (Ext.refl w6).drew
            replace e2 : w6.drew.cell? ⟨g, 2, none⟩ = some (.string (strOf y)) := e2
            replace e3 : w6.drew.cell? ⟨gp, 2, none⟩ = some v1 := e3
            replace e4 : w6.drew.cell? ⟨gp, 5 + 2, none⟩ = some v2 := e4
            replace e5 : w6.drew.frozen? ⟨gp, 2, none⟩ = false := e5
            replace e6 : w6.drew.frozen? ⟨gp, 5 + 2, none⟩ = false := e6
            clear d2 hFd hH6
            generalize World.drew w6 = w7 at *
            refine steps_want rfl (fun K hK => ?_)
            go_simp
            have hH8 := hH7.set (.cons (tRow_loc _ _) .nil) 2 (.int .u64 (mask pp))
            have g2 : (w7.setCell ⟨gp, 2, none⟩ (.int .u64 (mask pp))).cell? ⟨g, 2, none⟩ = some (.string (strOf y)) := by
              rw [World.cell?_setCell_other (h := by intro h; injection h with h; exact hgp h.symm)]; exact e2
            refine hK _ _ (fun X => X.cell? ⟨g, 2, none⟩ = some (.string (strOf y))) g2 (fun _ h => h) ?_
            clear hK K
            try simp only [Act.put, List.setIfInBounds_toArray, List.set_cons_succ, List.set_cons_zero]
            refine steps_quiet 1 (by kernel_rfl) ?_
            simp only [List.take_succ_cons, List.take_zero, List.drop_succ_cons, List.drop_zero]
            repeat (go_big_quiet_step (fail))
            refine wpQuiet_nil ?_
            refine steps_want rfl (fun K hK => ?_)
            go_simp
            have hH9 := hH8.set (.cons (tRow_loc _ _) .nil) (5 + 2) (.bool (y == [42]))
            rw [HS.out pp] at hH9
            have g3 : ((w7.setCell ⟨gp, 2, none⟩ (.int .u64 (mask pp))).setCell ⟨gp, 5 + 2, none⟩ (.bool (y == [42]))).cell? ⟨g, 2, none⟩ = some (.string (strOf y)) := by
              rw [World.cell?_setCell_other (h := by intro h; injection h with h; exact hgp h.symm)]; exact g2
            refine hK _ _ (fun X => X.cell? ⟨g, 2, none⟩ = some (.string (strOf y))) g3 (fun _ h => h) ?_
            clear hK K e2 e3 e4 e5 e6 g2 g3 hH7 hH8
            refine steps_nil ?_
            try simp only [Act.put, List.setIfInBounds_toArray, List.set_cons_succ, List.set_cons_zero]
            go_wp2_with fail
            exact ⟨⟨2 + 1, q ++ [pp], by go_num, by omega, HO.out pp hf, by rw [HT.out]; exact hH9⟩, by simp [intOf]⟩
        · clear hlt hi5 hin
          go_wp2_with fail
          refine gen_world' (fun X => Ext wr X ∧ Has w X [blkA gp 74 (spC q (stars (ps.take 3)) x), tRow (.slice (some ⟨g, 0, none⟩) 5 c) ps] ∧ Blk X wr.heap.size 76 #[.int .i64 1, .int .i64 12]) ⟨ext_alloc wr _, hH.ext LL (ext_alloc wr _), Blk.new _ _ _⟩ ?_
          rintro w5 ⟨hE5, hH5, hbx⟩
          have e2 : w5.cell? ⟨g, 3, none⟩ = some (.string (strOf y)) := (hE5.cell _ _ (World.block_lt_of_cell? wr _ hc)).trans hc
          have e3 : w5.cell? ⟨gp, 3, none⟩ = some v1 := (hE5.cell _ _ (World.block_lt_of_cell? wr _ k1)).trans k1
          have e4 : w5.cell? ⟨gp, 5 + 3, none⟩ = some v2 := (hE5.cell _ _ (World.block_lt_of_cell? wr _ k2)).trans k2
          have e5 : w5.frozen? ⟨gp, 3, none⟩ = false := (hE5.frozen _ _ (World.block_lt_of_cell? wr _ k1)).trans f1
          have e6 : w5.frozen? ⟨gp, 5 + 3, none⟩ = false := (hE5.frozen _ _ (World.block_lt_of_cell? wr _ k2)).trans f2
          have d0 : ∀ z : ExtOf w5, z.val.cell? ⟨wr.heap.size, 0, none⟩ = some (.int .i64 1) := fun z => (z.property.cell _ _ hbx.lt).trans (cell_of_row _ _ 0 _ _ _ hbx)
          have d1 : ∀ z : ExtOf w5, z.val.cell? ⟨wr.heap.size, 1, none⟩ = some (.int .i64 12) := fun z => (z.property.cell _ _ hbx.lt).trans (cell_of_row _ _ 1 _ _ _ hbx)
          have d2 : ∀ z : ExtOf w5, z.val.cell? ⟨g, 3, none⟩ = some (.string (strOf y)) := fun z => (z.property.cell _ _ (World.block_lt_of_cell? w5 _ e2)).trans e2
          have HC5 : ∀ z : ExtOf w5, Calls Tryd.prog 21 #[.agg #[.int .i64 1, .int .i64 12], .string (strOf y)] z.val fun e W' => e = .returned (fieldV (fieldS 1 12 y)) ∧ ∃ z2 : ExtOf w5, W' = z2.val := fun z => HC z hH5.base
          clear hc k1 k2 f1 f2 hH HC hbx j0 j1 j2 j3 j4
          cases hf : fieldS 1 12 y with
          | error e' =>
            rw [hf] at HC5
            simp only [fieldV] at HC5
            have e1 := HB.out e' hf
            have e7 := HR.out
            rw [e1] at e7
            subst e7
            rcases fieldS_err hf with rfl | rfl
            · refine region_ext (by kernel_rfl) (by kernel_rfl) ?_
              repeat (go_big_quiet_step (exact HC5 _))
              refine wpQuiet_nil ?_
              intro wq hq
              obtain ⟨xq, rfl⟩ := hq
              have hEq := xq.property
              clear d0 d1 d2 HC5
              go_wp2_with fail
              go_ret2
              exact ⟨rfl, hH5.base.trans hEq⟩
            · refine region_ext (by kernel_rfl) (by kernel_rfl) ?_
              repeat (go_big_quiet_step (exact HC5 _))
              refine wpQuiet_nil ?_
              intro wq hq
              obtain ⟨xq, rfl⟩ := hq
              have hEq := xq.property
              clear d0 d1 d2 HC5
              go_wp2_with fail
              go_ret2
              exact ⟨rfl, hH5.base.trans hEq⟩
          | ok pp =>
            rw [hf] at HC5
            simp only [fieldV] at HC5
            refine region_ext (by kernel_rfl) (by kernel_rfl) ?_
            repeat (go_big_quiet_step (exact HC5 _))
            refine wpQuiet_nil ?_
            intro wq hq
            obtain ⟨xq, rfl⟩ := hq
            have hEq := xq.property
            clear d0 d1 d2 HC5
            have hH6 := hH5.ext LL hEq
            replace e2 := (hEq.cell _ _ (World.block_lt_of_cell? w5 _ e2)).trans e2
            replace e5 := (hEq.frozen _ _ (World.block_lt_of_cell? w5 _ e3)).trans e5
            replace e6 := (hEq.frozen _ _ (World.block_lt_of_cell? w5 _ e4)).trans e6
            replace e3 := (hEq.cell _ _ (World.block_lt_of_cell? w5 _ e3)).trans e3
            replace e4 := (hEq.cell _ _ (World.block_lt_of_cell? w5 _ e4)).trans e4
            clear hEq hH5 hE5
            generalize xq.val = w6 at *
            clear xq
            have hz : ((strOf y).toList == [42]) = (y == [42]) := by rw [strOf_toList]
            go_wp2_with fail
            have d2 : ∀ z : Of (fun X => X.cell? ⟨g, 3, none⟩ = some (.string (strOf y))), z.val.cell? ⟨g, 3, none⟩ = some (.string (strOf y)) := fun z => z.property
            have hFd := (show w6.drew.cell? ⟨g, 3, none⟩ = some (.string (strOf y)) from e2)
            have hne_ : Nonempty (Of ((fun X => X.cell? ⟨g, 3, none⟩ = some (.string (strOf y))))) := ⟨⟨_, hFd⟩⟩
            refine region_steps [0,1,2,3,4,5,6,10,11,14,15,7,8,9,12,13,16,17] [true,true,true,true,true,true,true,true,true,true,true,true,true,true,true,false,true,false] ((fun X => X.cell? ⟨g, 3, none⟩ = some (.string (strOf y)))) (by kernel_rfl) (by kernel_rfl) hFd ?_
            simp only [List.filterMap_cons, List.filterMap_nil, List.getElem?_cons_zero, List.getElem?_cons_succ]
            refine steps_quiet 15 (by kernel_rfl) ?_
            simp only [List.take_succ_cons, List.take_zero, List.drop_succ_cons, List.drop_zero]
            repeat (go_big_quiet_step (fail))
            refine wpQuiet_nil ?_
            have hH7 := hH6.ext LL (Ext.refl w6).drew
            replace e2 : w6.drew.cell? ⟨g, 3, none⟩ = some (.string (strOf y)) := e2
            replace e3 : w6.drew.cell? ⟨gp, 3, none⟩ = some v1 := e3
            replace e4 : w6.drew.cell? ⟨gp, 5 + 3, none⟩ = some v2 := e4
            replace e5 : w6.drew.frozen? ⟨gp, 3, none⟩ = false := e5
            replace e6 : w6.drew.frozen? ⟨gp, 5 + 3, none⟩ = false := e6
            clear d2 hFd hH6
            generalize World.drew w6 = w7 at *
            refine steps_want rfl (fun K hK => ?_)
            go_simp
            have hH8 := hH7.set (.cons (tRow_loc _ _) .nil) 3 (.int .u64 (mask pp))
            have g2 : (w7.setCell ⟨gp, 3, none⟩ (.int .u64 (mask pp))).cell? ⟨g, 3, none⟩ = some (.string (strOf y)) := by
              rw [World.cell?_setCell_other (h := by intro h; injection h with h; exact hgp h.symm)]; exact e2
            refine hK _ _ (fun X => X.cell? ⟨g, 3, none⟩ = some (.string (strOf y))) g2 (fun _ h => h) ?_
            clear hK K
            try simp only [Act.put, List.setIfInBounds_toArray, List.set_cons_succ, List.set_cons_zero]
            refine steps_quiet 1 (by kernel_rfl) ?_
            simp only [List.take_succ_cons, List.take_zero, List.drop_succ_cons, List.drop_zero]
            repeat (go_big_quiet_step (fail))
            refine wpQuiet_nil ?_
            refine steps_want rfl (fun K hK => ?_)
            go_simp
            have hH9 := hH8.set (.cons (tRow_loc _ _) .nil) (5 + 3) (.bool (y == [42]))
            rw [HS.out pp] at hH9
            have g3 : ((w7.setCell ⟨gp, 3, none⟩ (.int .u64 (mask pp))).setCell ⟨gp, 5 + 3, none⟩ (.bool (y == [42]))).cell? ⟨g, 3, none⟩ = some (.string (strOf y)) := by
              rw [World.cell?_setCell_other (h := by intro h; injection h with h; exact hgp h.symm)]; exact g2
            refine hK _ _ (fun X => X.cell? ⟨g, 3, none⟩ = some (.string (strOf y))) g3 (fun _ h => h) ?_
            clear hK K e2 e3 e4 e5 e6 g2 g3 hH7 hH8
            refine steps_nil ?_
            try simp only [Act.put, List.setIfInBounds_toArray, List.set_cons_succ, List.set_cons_zero]
            go_wp2_with fail
            exact ⟨⟨3 + 1, q ++ [pp], by go_num, by omega, HO.out pp hf, by rw [HT.out]; exact hH9⟩, by simp [intOf]⟩
        · clear hlt hi5 hin
          go_wp2_with fail
          refine gen_world' (fun X => Ext wr X ∧ Has w X [blkA gp 74 (spC q (stars (ps.take 4)) x), tRow (.slice (some ⟨g, 0, none⟩) 5 c) ps] ∧ Blk X wr.heap.size 76 #[.int .i64 0, .int .i64 6]) ⟨ext_alloc wr _, hH.ext LL (ext_alloc wr _), Blk.new _ _ _⟩ ?_
          rintro w5 ⟨hE5, hH5, hbx⟩
          have e2 : w5.cell? ⟨g, 4, none⟩ = some (.string (strOf y)) := (hE5.cell _ _ (World.block_lt_of_cell? wr _ hc)).trans hc
          have e3 : w5.cell? ⟨gp, 4, none⟩ = some v1 := (hE5.cell _ _ (World.block_lt_of_cell? wr _ k1)).trans k1
          have e4 : w5.cell? ⟨gp, 5 + 4, none⟩ = some v2 := (hE5.cell _ _ (World.block_lt_of_cell? wr _ k2)).trans k2
          have e5 : w5.frozen? ⟨gp, 4, none⟩ = false := (hE5.frozen _ _ (World.block_lt_of_cell? wr _ k1)).trans f1
          have e6 : w5.frozen? ⟨gp, 5 + 4, none⟩ = false := (hE5.frozen _ _ (World.block_lt_of_cell? wr _ k2)).trans f2
          have d0 : ∀ z : ExtOf w5, z.val.cell? ⟨wr.heap.size, 0, none⟩ = some (.int .i64 0) := fun z => (z.property.cell _ _ hbx.lt).trans (cell_of_row _ _ 0 _ _ _ hbx)
          have d1 : ∀ z : ExtOf w5, z.val.cell? ⟨wr.heap.size, 1, none⟩ = some (.int .i64 6) := fun z => (z.property.cell _ _ hbx.lt).trans (cell_of_row _ _ 1 _ _ _ hbx)
          have d2 : ∀ z : ExtOf w5, z.val.cell? ⟨g, 4, none⟩ = some (.string (strOf y)) := fun z => (z.property.cell _ _ (World.block_lt_of_cell? w5 _ e2)).trans e2
          have HC5 : ∀ z : ExtOf w5, Calls Tryd.prog 21 #[.agg #[.int .i64 0, .int .i64 6], .string (strOf y)] z.val fun e W' => e = .returned (fieldV (fieldS 0 6 y)) ∧ ∃ z2 : ExtOf w5, W' = z2.val := fun z => HC z hH5.base
          clear hc k1 k2 f1 f2 hH HC hbx j0 j1 j2 j3 j4
          cases hf : fieldS 0 6 y with
          | error e' =>
            rw [hf] at HC5
            simp only [fieldV] at HC5
            have e1 := HB.out e' hf
            have e7 := HR.out
            rw [e1] at e7
            subst e7
            rcases fieldS_err hf with rfl | rfl
            · refine region_ext (by kernel_rfl) (by kernel_rfl) ?_
              repeat (go_big_quiet_step (exact HC5 _))
              refine wpQuiet_nil ?_
              intro wq hq
              obtain ⟨xq, rfl⟩ := hq
              have hEq := xq.property
              clear d0 d1 d2 HC5
              go_wp2_with fail
              go_ret2
              exact ⟨rfl, hH5.base.trans hEq⟩
            · refine region_ext (by kernel_rfl) (by kernel_rfl) ?_
              repeat (go_big_quiet_step (exact HC5 _))
              refine wpQuiet_nil ?_
              intro wq hq
              obtain ⟨xq, rfl⟩ := hq
              have hEq := xq.property
              clear d0 d1 d2 HC5
              go_wp2_with fail
              go_ret2
              exact ⟨rfl, hH5.base.trans hEq⟩
          | ok pp =>
            rw [hf] at HC5
            simp only [fieldV] at HC5
            refine region_ext (by kernel_rfl) (by kernel_rfl) ?_
            repeat (go_big_quiet_step (exact HC5 _))
            refine wpQuiet_nil ?_
            intro wq hq
            obtain ⟨xq, rfl⟩ := hq
            have hEq := xq.property
            clear d0 d1 d2 HC5
            have hH6 := hH5.ext LL hEq
            replace e2 := (hEq.cell _ _ (World.block_lt_of_cell? w5 _ e2)).trans e2
            replace e5 := (hEq.frozen _ _ (World.block_lt_of_cell? w5 _ e3)).trans e5
            replace e6 := (hEq.frozen _ _ (World.block_lt_of_cell? w5 _ e4)).trans e6
            replace e3 := (hEq.cell _ _ (World.block_lt_of_cell? w5 _ e3)).trans e3
            replace e4 := (hEq.cell _ _ (World.block_lt_of_cell? w5 _ e4)).trans e4
            clear hEq hH5 hE5
            generalize xq.val = w6 at *
            clear xq
            have hz : ((strOf y).toList == [42]) = (y == [42]) := by rw [strOf_toList]
            go_wp2_with fail
            have d2 : ∀ z : Of (fun X => X.cell? ⟨g, 4, none⟩ = some (.string (strOf y))), z.val.cell? ⟨g, 4, none⟩ = some (.string (strOf y)) := fun z => z.property
            have hFd := (show w6.drew.cell? ⟨g, 4, none⟩ = some (.string (strOf y)) from e2)
            have hne_ : Nonempty (Of ((fun X => X.cell? ⟨g, 4, none⟩ = some (.string (strOf y))))) := ⟨⟨_, hFd⟩⟩
            refine region_steps [0,1,2,3,4,5,6,10,11,14,15,7,8,9,12,13,16,17] [true,true,true,true,true,true,true,true,true,true,true,true,true,true,true,false,true,false] ((fun X => X.cell? ⟨g, 4, none⟩ = some (.string (strOf y)))) (by kernel_rfl) (by kernel_rfl) hFd ?_
            simp only [List.filterMap_cons, List.filterMap_nil, List.getElem?_cons_zero, List.getElem?_cons_succ]
            refine steps_quiet 15 (by kernel_rfl) ?_
            simp only [List.take_succ_cons, List.take_zero, List.drop_succ_cons, List.drop_zero]
            repeat (go_big_quiet_step (fail))
            refine wpQuiet_nil ?_
            have hH7 := hH6.ext LL (Ext.refl w6).drew
            replace e2 : w6.drew.cell? ⟨g, 4, none⟩ = some (.string (strOf y)) := e2
            replace e3 : w6.drew.cell? ⟨gp, 4, none⟩ = some v1 := e3
            replace e4 : w6.drew.cell? ⟨gp, 5 + 4, none⟩ = some v2 := e4
            replace e5 : w6.drew.frozen? ⟨gp, 4, none⟩ = false := e5
            replace e6 : w6.drew.frozen? ⟨gp, 5 + 4, none⟩ = false := e6
            clear d2 hFd hH6
            generalize World.drew w6 = w7 at *
            refine steps_want rfl (fun K hK => ?_)
            go_simp
            have hH8 := hH7.set (.cons (tRow_loc _ _) .nil) 4 (.int .u64 (mask pp))
            have g2 : (w7.setCell ⟨gp, 4, none⟩ (.int .u64 (mask pp))).cell? ⟨g, 4, none⟩ = some (.string (strOf y)) := by
              rw [World.cell?_setCell_other (h := by intro h; injection h with h; exact hgp h.symm)]; exact e2
            refine hK _ _ (fun X => X.cell? ⟨g, 4, none⟩ = some (.string (strOf y))) g2 (fun _ h => h) ?_
            clear hK K
            try simp only [Act.put, List.setIfInBounds_toArray, List.set_cons_succ, List.set_cons_zero]
            refine steps_quiet 1 (by kernel_rfl) ?_
            simp only [List.take_succ_cons, List.take_zero, List.drop_succ_cons, List.drop_zero]
            repeat (go_big_quiet_step (fail))
            refine wpQuiet_nil ?_
            refine steps_want rfl (fun K hK => ?_)
            go_simp
            have hH9 := hH8.set (.cons (tRow_loc _ _) .nil) (5 + 4) (.bool (y == [42]))
            rw [HS.out pp] at hH9
            have g3 : ((w7.setCell ⟨gp, 4, none⟩ (.int .u64 (mask pp))).setCell ⟨gp, 5 + 4, none⟩ (.bool (y == [42]))).cell? ⟨g, 4, none⟩ = some (.string (strOf y)) := by
              rw [World.cell?_setCell_other (h := by intro h; injection h with h; exact hgp h.symm)]; exact g2
            refine hK _ _ (fun X => X.cell? ⟨g, 4, none⟩ = some (.string (strOf y))) g3 (fun _ h => h) ?_
            clear hK K e2 e3 e4 e5 e6 g2 g3 hH7 hH8
            refine steps_nil ?_
            try simp only [Act.put, List.setIfInBounds_toArray, List.set_cons_succ, List.set_cons_zero]
            go_wp2_with fail
            exact ⟨⟨4 + 1, q ++ [pp], by go_num, by omega, HO.out pp hf, by rw [HT.out]; exact hH9⟩, by simp [intOf]⟩
      · have hi' : i = 5 := by omega
        subst hi'
        rw [List.take_of_length_le (by omega)] at hq hH
        have e := HR.out
        rw [hq] at e
        simp only [] at e
        subst e
        go_wp2_with fail
        go_ret2
        exact ⟨gp, rfl, hH.swap.drop⟩
  · rw [if_pos h2] at hR
    subst hR
    have hl5 : ((ps.length : Int) == 5) = false := by rw [beq_eq_false_iff_ne]; omega
    go_enter Tryd.func7, Tryd.ntmps7
    rw [show strV x = .string (strOf x) from rfl]
    go_wp2_with fail
    refine hsp.mono ?_
    rintro e w2 ⟨v, rfl, hown, hE⟩
    clear hsp
    obtain ⟨p, c, rfl⟩ := ownsRow_slice hown
    go_wp2_with fail
    go_ret2
    exact ⟨rfl, hE⟩
end Go.Proofs.YtnbdcdeidhhgoaaDoor
