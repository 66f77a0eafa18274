/- A disk's Flush and Up. -/
import Derived.Test.YthghflfgldcmbaaDTurn
namespace Go.Proofs.Ythghflfgldcmbaa
set_option maxRecDepth 4000
set_option linter.unusedVariables false
set_option linter.unusedSimpArgs false
open Go Go.RowKit Go.MapKept Go.ChangeMaps
def resF : Int → List UInt8 → List UInt8 → List UInt8 := fun _ b _ => b
def DS.flushed (s : DS) : DS := { s with sure := fun i => (s.pend i).getD (s.sure i), pend := fun _ => none }
theorem turned_flush (s : DS) : s.turned resF = s.flushed := by
  unfold DS.turned DS.flushed resF
  congr 1
  funext i
  cases s.pend i <;> rfl
def DS.flushE (s : DS) : Int := if s.down = true then 50 else if s.burns = true then 0 else 50
def DS.flushS (s : DS) : DS := if s.down = true then s else if s.burns = true then s.burnt.flushed else s.burnt
def FlRel (w : World) (d : Nat) (s : DS) (r : DR) (it : Nat) (ps : List Asr) (wr : World) : Prop :=
  ∃ seen X, XOk resF s r.P seen X ∧ TM w wr d s.down s.fuse s.n r it seen X (leftP r.P seen) ps
theorem TM.left_eq {w wr : World} {d n it : Nat} {dn : Bool} {fu : Int} {r : DR} {seen : Array Nat} {X : List (Value × List UInt8)} {L : List Pe} {ps : List Asr} (h : TM w wr d dn fu n r it seen X L ps) : wr.rangeLeft r.mb it = (leftP r.P seen).length := by
  simp only [World.rangeLeft, h.map, h.iter]
  rw [← Array.length_toList, leftOf_ents, List.length_map]
theorem leftP_nil (ps : List Pe) : leftP ps #[] = ps := by simp [leftP]
set_option maxHeartbeats 1000000 in
theorem flush_any {w W : World} {d : Nat} {s : DS} {ps : List Asr} (h : dkH w W d s ps) (hl : Locs ps) :
    Calls Try.prog 36 #[.pointer (some ⟨d, 0, none⟩)] W fun e W' => e = .returned (.int .i64 s.flushE) ∧ dkH w W' d s.flushS ps := by
  obtain ⟨wr0, fl0, sv0, mb0, hb0⟩ := h.blkD
  have c0 := Blk.cell hb0 0
  have c1 := Blk.cell hb0 1
  have c2 := Blk.cell hb0 2
  have c3 := Blk.cell hb0 3
  have c4 := Blk.cell hb0 4
  have c5 := Blk.cell hb0 5
  have f0 := Blk.frozen hb0 0
  have f1 := Blk.frozen hb0 1
  have f4 := Blk.frozen hb0 4
  have f5 := Blk.frozen hb0 5
  have hdl := Blk.lt hb0
  simp only [DR.cells, List.getElem?_toArray, List.getElem?_cons_zero, List.getElem?_cons_succ] at c0 c1 c2 c3 c4 c5
  unfold DS.flushE DS.flushS
  cases hdn : s.down with
  | true =>
    rw [hdn] at c4
    simp only [if_true]
    clear hdn hb0
    go_enter Try.func36, Try.ntmps36
    go_wp2_with fail
    go_ret
    exact ⟨rfl, h⟩
  | false =>
    rw [hdn] at c4
    simp only [Bool.false_eq_true, if_false]
    clear hdn hb0
    have hbu := burn_any h hl
    cases hbs : s.burns with
    | false =>
      rw [hbs] at hbu
      simp only [Bool.false_eq_true, if_false]
      clear hbs
      go_enter Try.func36, Try.ntmps36
      go_wp2_with fail
      refine hbu.mono ?_
      rintro e w1 ⟨rfl, hD⟩
      clear h c0 c1 c2 c3 c4 c5 f0 f1 f4 f5
      go_wp2_with fail
      go_ret
      exact ⟨rfl, hD⟩
    | true =>
      rw [hbs] at hbu
      simp only [if_true]
      clear hbs
      go_enter Try.func36, Try.ntmps36
      go_wp2_with fail
      refine hbu.mono ?_
      rintro e w1 ⟨rfl, hD⟩
      clear h hbu c0 c1 c2 c3 c4 c5 f0 f1 f4 f5
      obtain ⟨s1, hs1⟩ : ∃ s1, s.burnt = s1 := ⟨_, rfl⟩
      rw [hs1] at hD
      have HS := Lib.hid hs1
      clear hs1 hdl
      go_wp2_with fail
      refine (count1_dk hD hl).mono ?_
      rintro e w2 ⟨z, rfl, hD2⟩
      clear hD
      obtain ⟨k0, r, k1, k2⟩ := hD2
      have c3 := k2.blk0.cell 3
      simp only [DR.cells, List.getElem?_toArray, List.getElem?_cons_zero, List.getElem?_cons_succ] at c3
      have hmap : w2.heap[r.mb]? = some (.map (ents r.P) r.clock) := Has.obj k2 (by simp [DR.things, DR.rest, DR.mapS])
      have hrg := run_range_map (P := Try.prog) w2 45 3 36 r.mb (ents r.P) r.clock Try.underlying45 hmap
      have hT := TM.start k2 hl
      have hX := XOk.start (res := resF) k1
      clear hmap k2
      go_upto_block 0 with fail
      clear hrg c3
      generalize World.alloc w2 _ = w3 at *
      generalize w2.heap.size = it at *
      generalize r.X = X0 at *
      go_wp2_with fail
      go_loopw [] (fun wr => FlRel w d s1 r it ps wr) (fun wr => wr.rangeLeft r.mb it)
      case atStart => exact ⟨#[], X0, hX, by rw [leftP_nil]; exact hT⟩
      case round =>
        clear hX hT
        obtain ⟨seen, X, hX, hT⟩ := hrel
        rcases run_nextP (P := Try.prog) it seen hT.iter hT.map k1.ok 0 with ⟨hL, hrun⟩ | ⟨p, hp, w4, hw4, hrun⟩
        · have hXe := Lib.hid (hX.end_ k1 hL)
          have hXl := Lib.hid hX.len
          have hclr := fun ty => run_clearP (P := Try.prog) hT.map Try.underlying45 ty
          have c3 := hT.blk.cell 3
          simp only [DR.cells, List.getElem?_toArray, List.getElem?_cons_zero, List.getElem?_cons_succ] at c3
          rw [hL] at hT
          clear hL hX
          go_wp2_with fail
          go_ret
          refine ⟨rfl, ?_⟩
          rw [HS.out, ← turned_flush]
          exact hT.done hl ⟨k0.n, k0.f1, k0.f2⟩ rfl rfl rfl hXl.out hXe.out rfl
        · obtain ⟨A, B, hAB⟩ := List.append_of_mem hp
          have hml := Lib.hid hT.left_eq
          rw [hAB] at hT
          obtain ⟨X1, x, X2, rfl, hk, hlt, -, hL', hX'⟩ := hX.round k1.ok k1.key hAB
          have hpm : p ∈ r.P := (List.mem_filter.1 hp).1
          have hT2 := hT.next hl (seen.push p.born) hw4
          have hent := run_entryP (P := Try.prog) it seen hT2.iter hT2.map k1.ok hpm
          obtain ⟨p1, cv, hsv⟩ := ownsRow_slice hT2.row
          have hrow := hT2.row
          rw [hsv] at hrow
          obtain ⟨g, rfl, hcell⟩ := row_at (i := X1.length) (x := x.1) hrow (by simp)
          have hfz := hrow.frozenAt X1.length
          have c2 := hT2.blk.cell 2
          simp only [DR.cells, List.getElem?_toArray, List.getElem?_cons_zero, List.getElem?_cons_succ, hsv] at c2
          have hT3 := hT2.put hl hsv
          obtain ⟨pp, cp, hpv⟩ := ownsRow_slice (hT2.left (p := p) (by simp))
          rw [hk, hpv] at hrun hent
          rw [hpv] at hT3
          have hlt2 : (X1.length : Int) < s1.n := by omega
          have HX := Lib.hid (hX' (.slice pp 128 cp))
          have HL := Lib.hid hL'
          have HA := Lib.hid hAB
          have HSV := Lib.hid hsv
          have HPV := Lib.hid hpv
          clear hX' hL' hAB hsv hX hT hT2 hk hp hpm hrow hpv
          generalize setBlock w4 it _ = w5 at *
          generalize X1.length = i at *
          go_wp2_with fail
          refine ⟨⟨seen.push p.born, _, HX.out, by rw [HL.out]; exact hT3⟩, ?_⟩
          rw [hT3.left_eq, HL.out, hml.out, HA.out]
          simp
/-- the map is cleared -/
theorem clear_dk {w W : World} {d : Nat} {s : DS} {r : DR} {ps : List Asr} (h0 : s.Ok) (h1 : r.Fits s) (h2 : Has w W (r.things d s ++ ps)) (hl : Locs ps) : dkH w (setBlock W r.mb (.map (ents []) r.clock)) d { s with pend := fun _ => none } ps := by
  have h3 := map_turn h2 hl (.map (ents []) r.clock)
  refine ⟨⟨h0.n, h0.f1, h0.f2⟩, { r with P := [] }, ⟨h1.n, h1.sure, PeOk.nil _, (fun p hp => by cases hp), (fun i => rfl)⟩, ?_⟩
  rw [things_eq]
  have h4 : Has w (setBlock W r.mb (.map (ents []) r.clock)) (secsA r.P ++ (r.head d s :: r.rowS s.n :: objA r.mb (.map (ents []) r.clock) :: ((r.X.map secA) ++ ps))) := by
    refine h3.perm ?_
    have : (r.head d s :: r.rowS s.n :: objA r.mb (.map (ents []) r.clock) :: ((r.X.map secA) ++ (secsA r.P ++ ps))) = (r.head d s :: r.rowS s.n :: objA r.mb (.map (ents []) r.clock) :: (r.X.map secA)) ++ (secsA r.P ++ ps) := by simp
    rw [this, ← List.append_assoc]
    refine (List.Perm.append_right ps List.perm_append_comm).trans (List.Perm.of_eq (by simp))
  exact h4.dropA
def DS.upS (s : DS) : DS := if s.down = true then { s with down := false, pend := fun _ => none } else s
theorem up_any {w W : World} {d : Nat} {s : DS} {ps : List Asr} (h : dkH w W d s ps) (hl : Locs ps) :
    Calls Try.prog 12 #[.pointer (some ⟨d, 0, none⟩)] W fun e W' => e = .returned (.tuple #[]) ∧ dkH w W' d s.upS ps := by
  have hh := h
  obtain ⟨h0, r, h1, h2⟩ := h
  have hb := h2.blk0
  have c0 := Blk.cell hb 0
  have c1 := Blk.cell hb 1
  have c2 := Blk.cell hb 2
  have c3 := Blk.cell hb 3
  have c4 := Blk.cell hb 4
  have c5 := Blk.cell hb 5
  have f0 := Blk.frozen hb 0
  have f1 := Blk.frozen hb 1
  have f4 := Blk.frozen hb 4
  have f5 := Blk.frozen hb 5
  have hdl := Blk.lt hb
  simp only [DR.cells, List.getElem?_toArray, List.getElem?_cons_zero, List.getElem?_cons_succ] at c0 c1 c2 c3 c4 c5
  have hmap : W.heap[r.mb]? = some (.map (ents r.P) r.clock) := Has.obj h2 (by simp [DR.things, DR.rest, DR.mapS])
  unfold DS.upS
  cases hdn : s.down with
  | false =>
    rw [hdn] at c4
    simp only [Bool.false_eq_true, if_false]
    have h3 := dkH.head_ r.wr r.fl false s.fuse (h0.setF false h0.f1 h0.f2) h1 (h2.set ((r.rest_locs _).append hl) 4 (.bool false))
    rw [show s.setF false s.fuse = s by unfold DS.setF; rw [← hdn]] at h3
    clear hdn hh hb hmap
    go_enter Try.func12, Try.ntmps12
    go_wp2_with fail
    go_end0
    exact ⟨rfl, h3⟩
  | true =>
    rw [hdn] at c4
    simp only [if_true]
    have hclr := fun ty => run_clearP (P := Try.prog) hmap Try.underlying45 ty
    have hc := clear_dk h0 h1 h2 hl
    have hmb : d ≠ r.mb := by
      rintro rfl
      have := hb
      unfold Blk at this
      rw [hmap] at this
      cases this
    have hb2 : Blk (setBlock W r.mb (.map (ents []) r.clock)) d 55 (r.cells s.down s.fuse) := by
      refine hb.of_eq ?_
      simp [setBlock, Array.getElem?_setIfInBounds, Ne.symm hmb]
    have f4' := hb2.frozen 4
    have c4' := hb2.cell 4
    simp only [DR.cells, List.getElem?_toArray, List.getElem?_cons_zero, List.getElem?_cons_succ, hdn] at c4'
    generalize setBlock W r.mb _ = W2 at *
    clear hdn hh hb hmap hb2
    go_enter Try.func12, Try.ntmps12
    go_wp2_with fail
    go_end0
    obtain ⟨k0, r2, k1, k2⟩ := hc
    exact ⟨rfl, dkH.head_ (s := { s with pend := fun _ => none }) r2.wr r2.fl false s.fuse ⟨h0.n, h0.f1, h0.f2⟩ k1 (k2.set ((r2.rest_locs _).append hl) 4 (.bool false))⟩
end Go.Proofs.Ythghflfgldcmbaa
