/- A disk's Crash. -/
import Derived.Test.YthghflfgldcmbaaDFlush
import Derived.Laws.Slices
namespace Go.Proofs.Ythghflfgldcmbaa
set_option maxRecDepth 4000
set_option linter.unusedVariables false
set_option linter.unusedSimpArgs false
open Go Go.RowKit Go.MapKept Go.ChangeMaps
def atc (z : Int) : Nat := (max 0 (min z 128)).toNat
def resC (keep : List Int) (tear z : Int) : Int → List UInt8 → List UInt8 → List UInt8 := fun k b old => if keep.contains k = true then b else if k = tear then b.take (atc z) ++ old.drop (atc z) else old
def DS.crashS (s : DS) (keep : List Int) (tear z : Int) : DS := (s.setF true (-1)).turned (resC keep tear z)
theorem u8Size : (Try.prog.info? 5).map (·.size) = some 1 := by kernel_rfl
/-- bytes copied over a row's first ones -/
theorem copy_own {W : World} {v : Value} {n : Nat} {l : List UInt8} (h : W.ownsRow 0 5 1 v n (u8s l)) {a : Addr} {k cap c : Nat} {p : Option Addr} (hv : v = .slice p n c) {cs : List UInt8} (hcs : cs.length = k) (hk : k ≤ n) (hp : p ≠ none) (hsrc : ∀ j u, (u8s cs)[j]? = some u → W.cell? (a.add j) = some u) :
    ∃ W', (∀ ty, (Builtin.copy_ #[36, 36] ty #[v, .slice (some a) k cap]).run Try.prog W = .ok (goInt k) W') ∧ W'.ownsRow 0 5 1 v n (u8s (cs ++ l.drop k)) ∧ W.grownBy W' v.ownBlock := by
  have hl : l.length = n := by have := h.1; rw [u8s_length] at this; omega
  rcases h.2 with ⟨hv2, _⟩ | ⟨g, cap2, cur, hv2, h0, hg, hnc, hcm, hcz, htk⟩
  · rw [hv] at hv2; injection hv2 with e; exact absurd e hp
  · subst hv2
    have hlen : (u8s cs).length = k := by rw [u8s_length]; exact hcs
    refine ⟨W.setRow g (cur.toList.take 0 ++ u8s cs ++ cur.toList.drop (0 + (u8s cs).length)).toArray, fun ty => ?_, ?_, ?_⟩
    · have := run_copy_row (P := Try.prog) W 36 36 ty 5 g 0 n cap2 a k cap cur 5 (u8s cs) Try.underlying36 u8Size hg (by rw [hlen]; exact (Nat.min_eq_left hk).symm) hsrc (by rw [hlen, hcz]; omega) (u8s_one cs)
      rw [hlen] at this ⊢
      exact this
    · refine ⟨by rw [u8s_length, List.length_append, List.length_drop, hcs, hl]; omega, .inr ⟨g, cap2, _, rfl, Nat.zero_le _, setRow_heap W g cur _ 5 _ hg, hnc, hcm, ?_, ?_⟩⟩
      · simp only [List.size_toArray, List.length_append, List.length_take, List.length_drop, hlen, Array.length_toList]
        omega
      · simp only [Nat.mul_one] at htk ⊢
        rw [hlen, List.take_zero, List.nil_append, Nat.zero_add]
        have hcur : cur.toList.take n = u8s l := htk
        show (u8s cs ++ cur.toList.drop k).take n = _
        rw [List.take_append, hlen, u8s_append, List.take_of_length_le (by rw [hlen]; exact hk), ← u8s_drop, ← hcur, List.drop_take]
    · exact ⟨rfl, rfl, rfl, by simp, fun j hj hne => setRow_other W g j _ (fun e => hne (by rw [e]; rfl))⟩
theorem TM.rest {w wr : World} {d n it : Nat} {dn : Bool} {fu : Int} {r : DR} {seen : Array Nat} {X : List (Value × List UInt8)} {L : List Pe} {ps : List Asr} (h : TM w wr d dn fu n r it seen X L ps) : Has w wr ps := by
  have : Has w wr ((blkA d 55 (r.cells dn fu) :: rowA 36 1 r.sv n (X.map (·.1)) :: r.mapS :: objA it (.mapIter (some r.mb) r.clock seen r.clock) :: (X.map secA ++ secsA L)) ++ ps) := by
    have h2 := h
    unfold TM at h2
    simpa using h2
  exact this.dropA
theorem slice_to (X : World) (p : Option Addr) (n c k : Nat) (z : Int) (hz : z = k) (h : k ≤ c) : (Instr.sliceAt 36 (.slice p n c) none (some (.int .i64 z)) none).run Try.prog X = .ok (.slice p k c) X := by
  subst hz
  have ht : Try.prog.underlying 36 = some (.slice (Try.prog.elem 36)) := by kernel_rfl
  have hs : (sizeOf (Try.prog.elem 36)).run Try.prog X = .ok 1 X := by kernel_rfl
  rw [run_sliceAt_slice (w := X) _ _ _ _ _ ht, run_slice_h (w := X) _ p n c ht .i64 k (by omega) (by omega), hs]
  have h0 : p.map (·.add (0 * 1)) = p := by cases p <;> simp [Addr.add]
  simp [sliced, h0, Result.andThen]
def CrRel (w : World) (d : Nat) (s : DS) (r : DR) (it : Nat) (keep : List Int) (tear z : Int) (ps : List Asr) (wr : World) : Prop :=
  ∃ seen X, XOk (resC keep tear z) s r.P seen X ∧ TM w wr d s.down s.fuse s.n r it seen X (leftP r.P seen) ps
set_option maxHeartbeats 4000000 in
theorem crash_any {w W : World} {d : Nat} {s : DS} {ps : List Asr} (h : dkH w W d s ps) (hl : Locs ps) (p : Option Addr) (c : Nat) (keep : List Int) (tear z : Int) (hK : ∀ X, Has w X ps → NumsAt .i64 X p keep) (hkl : keep.length ≤ maxLen) :
    Calls Try.prog 11 #[.pointer (some ⟨d, 0, none⟩), .slice p keep.length c, .int .i64 tear, .int .i64 z] W fun e W' => e = .returned (.tuple #[]) ∧ dkH w W' d (s.crashS keep tear z) ps := by
  obtain ⟨h0, r, h1, h2⟩ := h
  have hb := h2.blk0
  have c0 := Blk.cell hb 0
  have c1 := Blk.cell hb 1
  have c2 := Blk.cell hb 2
  have c3 := Blk.cell hb 3
  have c4 := Blk.cell hb 4
  have c5 := Blk.cell hb 5
  have f0 := Blk.frozen hb 0
  have f1 := Blk.frozen hb 1
  have f4 := Blk.frozen hb 4
  have f5 := Blk.frozen hb 5
  have hdl := Blk.lt hb
  simp only [DR.cells, List.getElem?_toArray, List.getElem?_cons_zero, List.getElem?_cons_succ] at c0 c1 c2 c3 c4 c5
  have h3 := (h2.set ((r.rest_locs _).append hl) 4 (.bool true)).set ((r.rest_locs _).append hl) 5 (.int .i64 (-1))
  have k1 : r.Fits (s.setF true (-1)) := ⟨h1.n, h1.sure, h1.ok, h1.key, h1.pend⟩
  have k2 : Has w ((W.setCell ⟨d, 4, none⟩ (.bool true)).setCell ⟨d, 5, none⟩ (.int .i64 (-1))) (r.things d (s.setF true (-1)) ++ ps) := h3
  have k0 : (s.setF true (-1)).Ok := h0.setF true (by omega) (by omega)
  clear h3 h1 h2 hb h0
  unfold DS.crashS
  obtain ⟨s1, hs1⟩ : ∃ s1, s.setF true (-1) = s1 := ⟨_, rfl⟩
  rw [hs1] at k0 k1 k2 ⊢
  clear hs1
  have HKL := Lib.hid hkl
  clear hkl
  go_enter Try.func11, Try.ntmps11
  go_upto_region 1 with fail
  clear c0 c1 c2 c3 c4 c5 f0 f1 f4 f5 hdl
  generalize World.setCell _ _ _ = w2 at *
  have c3 := k2.blk0.cell 3
  simp only [DR.cells, List.getElem?_toArray, List.getElem?_cons_zero, List.getElem?_cons_succ] at c3
  have hmap : w2.heap[r.mb]? = some (.map (ents r.P) r.clock) := Has.obj k2 (by simp [DR.things, DR.rest, DR.mapS])
  have hrg := run_range_map (P := Try.prog) w2 45 3 36 r.mb (ents r.P) r.clock Try.underlying45 hmap
  have hT := TM.start k2 hl
  have hX := XOk.start (res := resC keep tear z) k1
  clear hmap k2
  go_upto_block 0 with fail
  clear hrg c3
  generalize World.alloc w2 _ = w3 at *
  generalize w2.heap.size = it at *
  generalize r.X = X0 at *
  go_wp2_with fail
  go_loopw [] (fun wr => CrRel w d s1 r it keep tear z ps wr) (fun wr => wr.rangeLeft r.mb it)
  case atStart => exact ⟨#[], X0, hX, by rw [leftP_nil]; exact hT⟩
  case round =>
    clear hX hT
    obtain ⟨seen, X, hX, hT⟩ := hrel
    rcases run_nextP (P := Try.prog) it seen hT.iter hT.map k1.ok 0 with ⟨hL, hrun⟩ | ⟨q, hp, w4, hw4, hrun⟩
    · have hXe := Lib.hid (hX.end_ k1 hL)
      have hXl := Lib.hid hX.len
      have hclr := fun ty => run_clearP (P := Try.prog) hT.map Try.underlying45 ty
      have c3 := hT.blk.cell 3
      simp only [DR.cells, List.getElem?_toArray, List.getElem?_cons_zero, List.getElem?_cons_succ] at c3
      rw [hL] at hT
      clear hL hX
      go_wp2_with fail
      go_end0
      exact ⟨rfl, hT.done hl ⟨k0.n, k0.f1, k0.f2⟩ rfl rfl rfl hXl.out hXe.out rfl⟩
    · obtain ⟨A, B, hAB⟩ := List.append_of_mem hp
      have hml := Lib.hid hT.left_eq
      rw [hAB] at hT
      obtain ⟨X1, x, X2, rfl, hk, hlt, hx2, hL', hX'⟩ := hX.round k1.ok k1.key hAB
      have hpm : q ∈ r.P := (List.mem_filter.1 hp).1
      have hT2 := hT.next hl (seen.push q.born) hw4
      have hent := run_entryP (P := Try.prog) it seen hT2.iter hT2.map k1.ok hpm
      obtain ⟨p1, cv, hsv⟩ := ownsRow_slice hT2.row
      have hrow := hT2.row
      rw [hsv] at hrow
      obtain ⟨g, rfl, hcell⟩ := row_at (i := X1.length) (x := x.1) hrow (by simp)
      have hfz := hrow.frozenAt X1.length
      have c2 := hT2.blk.cell 2
      simp only [DR.cells, List.getElem?_toArray, List.getElem?_cons_zero, List.getElem?_cons_succ, hsv] at c2
      have hlo := hT2.left (p := q) (by simp)
      have hso := hT2.sec (x := x) (by simp)
      obtain ⟨pp, cp, hpv⟩ := ownsRow_slice hlo
      obtain ⟨px, cx, hxv⟩ := ownsRow_slice hso
      have hN := hK _ hT2.rest
      obtain ⟨pp, rfl⟩ : ∃ q', pp = some q' := by
        cases pp with
        | none => have := (row_nil (hpv ▸ hlo) rfl).1; omega
        | some q => exact ⟨q, rfl⟩
      rw [hk, hpv] at hrun hent
      have hlt2 : (X1.length : Int) < s1.n := by omega
      have HL := Lib.hid hL'
      have HA := Lib.hid hAB
      have HSV := Lib.hid hsv
      have HXV := Lib.hid hxv
      have HPV := Lib.hid hpv
      have hpv2 := HPV
      have HX := Lib.hid hX'
      have HX2 := Lib.hid hx2
      have HK2 := Lib.hid hk
      clear hX' hL' hAB hsv hX hT hp hpm hrow hpv hx2 hk
      have hpv := hpv2.out
      clear hpv2
      generalize setBlock w4 it _ = w5 at *
      have hct := contains_any w5 p c keep X1.length hN HKL.out
      by_cases g1 : keep.contains (X1.length : Int) = true
      · rw [g1] at hct
        have hT3 := hT2.put hl HSV.out
        rw [HPV.out] at hT3
        have hr : resC keep tear z q.k q.l (s1.sure X1.length) = q.l := by unfold resC; rw [HK2.out, if_pos g1]
        have HR := Lib.hid hr
        clear hr g1 hlo hso hN hT2
        obtain ⟨i, hi⟩ : ∃ i, X1.length = i := ⟨_, rfl⟩
        rw [hi] at hrun hent hcell hfz hlt hlt2 hct hT3
        have HI := Lib.hid hi
        clear hi
        go_upto_region 4 with fail
        go_wp2_with fail
        refine hct.mono ?_
        rintro e w6 ⟨rfl, rfl⟩
        clear hct hrun hent
        go_wp2_with fail
        refine ⟨⟨seen.push q.born, X1 ++ (.slice (some pp) 128 cp, q.l) :: X2, ?_, by rw [HL.out]; exact hT3⟩, ?_⟩
        · have := HX.out (.slice (some pp) 128 cp)
          rwa [HR.out] at this
        · rw [hT3.left_eq, HL.out, hml.out, HA.out]
          simp
      · rw [Bool.not_eq_true] at g1
        rw [g1] at hct
        obtain ⟨i, hi⟩ : ∃ i, X1.length = i := ⟨_, rfl⟩
        by_cases g2 : (X1.length : Int) = tear
        · have g3 : ((X1.length : Int) == tear) = true := by simpa using g2
          rw [hi] at hrun hent hcell hfz hlt hlt2 hct g3
          have HI := Lib.hid hi
          have G2 := Lib.hid g2
          have G1 := Lib.hid g1
          clear hi g1 g2
          rw [hxv] at hcell
          obtain ⟨px, rfl⟩ : ∃ q', px = some q' := by
            cases px with
            | none => have := (row_nil (hxv ▸ hso) rfl).1; omega
            | some q => exact ⟨q, rfl⟩
          rcases (show z ≤ 0 ∨ 0 < z ∧ z ≤ 128 ∨ 128 < z by omega) with hz | hz | hz
          · have hat : atc z = 0 := by unfold atc; omega
            have hv : (0 : Int) = ((0 : Nat) : Int) := rfl
            have hcp : 128 ≤ cp := by
              rcases hlo.2 with ⟨hv1, _⟩ | ⟨g1, cap1, cur1, hv1, _, _, hn1, _⟩
              · rw [hpv] at hv1; cases hv1
              · rw [hpv] at hv1; injection hv1 with _ _ e; omega
            have hk1 : 0 ≤ 128 := by omega
            have hsl := fun a => slice_to (w5.drewN a) (some pp) 128 cp (0) ((0 : Int)) hv (by omega)
            have HAT := Lib.hid hat
            clear hat hv
            go_upto_region 4 with fail
            go_wp2_with fail
            refine hct.mono ?_
            rintro e w6 ⟨rfl, rfl⟩
            clear hct hrun hent
            go_upto_region 7 with fail
            refine region_drew_tail 12 (by kernel_rfl) (by kernel_rfl) ?_
            simp only [List.take_succ_cons, List.take_zero, List.drop_succ_cons, List.drop_zero]
            repeat (first | go_big_quiet_step (fail) | (refine wpQuiet_step (fun K hK => ?_); go_simp; refine hK _ ?_; clear hK K))
            refine wpQuiet_nil ?_
            intro _ hw'
            obtain ⟨nq, hw''⟩ := hw'
            subst hw''
            have hE5 : Ext w5 (w5.drewN nq) := Ext.drewN (Ext.refl _) nq
            have hT4 := hT2.ext hl hE5
            have hso4 := ownsRow_ext hso hE5
            have hlo4 := ownsRow_ext hlo hE5
            clear hT2 hso hlo hE5 hsl c2 hcell hfz hN
            generalize World.drewN w5 nq = w6 at *
            rw [hxv] at hso4
            have hll := sec_len hlo4
            rw [hpv] at hlo4
            obtain ⟨hN4, hab4⟩ := own_read hlo4
            obtain ⟨w7, hcopy, hown7, hg7⟩ := copy_own hso4 (a := pp) (k := 0) (cap := cp) (c := cx) (p := some px) rfl (cs := q.l.take (0)) (by rw [List.length_take]; omega) hk1 (by simp) (fun j u hj => hN4 j u (by
              rw [← u8s_take, List.getElem?_take] at hj
              split at hj
              · exact hj
              · cases hj))
            have hT5 := hT4.tear hl (w1 := w7) (l' := q.l.take (0) ++ x.2.drop (0)) (by rw [hxv]; exact hown7) (by rw [hxv]; exact hg7)
            have hr : resC keep tear z q.k q.l (s1.sure X1.length) = q.l.take (0) ++ x.2.drop (0) := by
              unfold resC
              rw [HK2.out, if_neg (by rw [G1.out]; decide), if_pos G2.out, HAT.out, HX2.out]
            have HR := Lib.hid hr
            have HXV2 := HXV
            clear hr hT4 hso4 hlo4 hll hN4 hab4 hown7 hg7 hk1 hcp hpv hxv
            go_wp2_with fail
            refine ⟨⟨seen.push q.born, _, ?_, by rw [HL.out]; exact hT5⟩, ?_⟩
            · have := HX.out x.1
              rwa [HR.out] at this
            · rw [hT5.left_eq, HL.out, hml.out, HA.out]
              simp
          · have hat : atc z = z.toNat := by unfold atc; omega
            have hv : z = ((z.toNat : Nat) : Int) := by omega
            have hcp : 128 ≤ cp := by
              rcases hlo.2 with ⟨hv1, _⟩ | ⟨g1, cap1, cur1, hv1, _, _, hn1, _⟩
              · rw [hpv] at hv1; cases hv1
              · rw [hpv] at hv1; injection hv1 with _ _ e; omega
            have hk1 : z.toNat ≤ 128 := by omega
            have hsl := fun a => slice_to (w5.drewN a) (some pp) 128 cp (z.toNat) (z) hv (by omega)
            have HAT := Lib.hid hat
            clear hat hv
            go_upto_region 4 with fail
            go_wp2_with fail
            refine hct.mono ?_
            rintro e w6 ⟨rfl, rfl⟩
            clear hct hrun hent
            go_upto_region 7 with fail
            refine region_drew_tail 12 (by kernel_rfl) (by kernel_rfl) ?_
            simp only [List.take_succ_cons, List.take_zero, List.drop_succ_cons, List.drop_zero]
            repeat (first | go_big_quiet_step (fail) | (refine wpQuiet_step (fun K hK => ?_); go_simp; refine hK _ ?_; clear hK K))
            refine wpQuiet_nil ?_
            intro _ hw'
            obtain ⟨nq, hw''⟩ := hw'
            subst hw''
            have hE5 : Ext w5 (w5.drewN nq) := Ext.drewN (Ext.refl _) nq
            have hT4 := hT2.ext hl hE5
            have hso4 := ownsRow_ext hso hE5
            have hlo4 := ownsRow_ext hlo hE5
            clear hT2 hso hlo hE5 hsl c2 hcell hfz hN
            generalize World.drewN w5 nq = w6 at *
            rw [hxv] at hso4
            have hll := sec_len hlo4
            rw [hpv] at hlo4
            obtain ⟨hN4, hab4⟩ := own_read hlo4
            obtain ⟨w7, hcopy, hown7, hg7⟩ := copy_own hso4 (a := pp) (k := z.toNat) (cap := cp) (c := cx) (p := some px) rfl (cs := q.l.take (z.toNat)) (by rw [List.length_take]; omega) hk1 (by simp) (fun j u hj => hN4 j u (by
              rw [← u8s_take, List.getElem?_take] at hj
              split at hj
              · exact hj
              · cases hj))
            have hT5 := hT4.tear hl (w1 := w7) (l' := q.l.take (z.toNat) ++ x.2.drop (z.toNat)) (by rw [hxv]; exact hown7) (by rw [hxv]; exact hg7)
            have hr : resC keep tear z q.k q.l (s1.sure X1.length) = q.l.take (z.toNat) ++ x.2.drop (z.toNat) := by
              unfold resC
              rw [HK2.out, if_neg (by rw [G1.out]; decide), if_pos G2.out, HAT.out, HX2.out]
            have HR := Lib.hid hr
            have HXV2 := HXV
            clear hr hT4 hso4 hlo4 hll hN4 hab4 hown7 hg7 hk1 hcp hpv hxv
            go_wp2_with fail
            refine ⟨⟨seen.push q.born, _, ?_, by rw [HL.out]; exact hT5⟩, ?_⟩
            · have := HX.out x.1
              rwa [HR.out] at this
            · rw [hT5.left_eq, HL.out, hml.out, HA.out]
              simp
          · have hat : atc z = 128 := by unfold atc; omega
            have hv : (128 : Int) = ((128 : Nat) : Int) := rfl
            have hcp : 128 ≤ cp := by
              rcases hlo.2 with ⟨hv1, _⟩ | ⟨g1, cap1, cur1, hv1, _, _, hn1, _⟩
              · rw [hpv] at hv1; cases hv1
              · rw [hpv] at hv1; injection hv1 with _ _ e; omega
            have hk1 : 128 ≤ 128 := by omega
            have hsl := fun a => slice_to (w5.drewN a) (some pp) 128 cp (128) ((128 : Int)) hv (by omega)
            have HAT := Lib.hid hat
            clear hat hv
            go_upto_region 4 with fail
            go_wp2_with fail
            refine hct.mono ?_
            rintro e w6 ⟨rfl, rfl⟩
            clear hct hrun hent
            go_upto_region 7 with fail
            refine region_drew_tail 12 (by kernel_rfl) (by kernel_rfl) ?_
            simp only [List.take_succ_cons, List.take_zero, List.drop_succ_cons, List.drop_zero]
            repeat (first | go_big_quiet_step (fail) | (refine wpQuiet_step (fun K hK => ?_); go_simp; refine hK _ ?_; clear hK K))
            refine wpQuiet_nil ?_
            intro _ hw'
            obtain ⟨nq, hw''⟩ := hw'
            subst hw''
            have hE5 : Ext w5 (w5.drewN nq) := Ext.drewN (Ext.refl _) nq
            have hT4 := hT2.ext hl hE5
            have hso4 := ownsRow_ext hso hE5
            have hlo4 := ownsRow_ext hlo hE5
            clear hT2 hso hlo hE5 hsl c2 hcell hfz hN
            generalize World.drewN w5 nq = w6 at *
            rw [hxv] at hso4
            have hll := sec_len hlo4
            rw [hpv] at hlo4
            obtain ⟨hN4, hab4⟩ := own_read hlo4
            obtain ⟨w7, hcopy, hown7, hg7⟩ := copy_own hso4 (a := pp) (k := 128) (cap := cp) (c := cx) (p := some px) rfl (cs := q.l.take (128)) (by rw [List.length_take]; omega) hk1 (by simp) (fun j u hj => hN4 j u (by
              rw [← u8s_take, List.getElem?_take] at hj
              split at hj
              · exact hj
              · cases hj))
            have hT5 := hT4.tear hl (w1 := w7) (l' := q.l.take (128) ++ x.2.drop (128)) (by rw [hxv]; exact hown7) (by rw [hxv]; exact hg7)
            have hr : resC keep tear z q.k q.l (s1.sure X1.length) = q.l.take (128) ++ x.2.drop (128) := by
              unfold resC
              rw [HK2.out, if_neg (by rw [G1.out]; decide), if_pos G2.out, HAT.out, HX2.out]
            have HR := Lib.hid hr
            have HXV2 := HXV
            clear hr hT4 hso4 hlo4 hll hN4 hab4 hown7 hg7 hk1 hcp hpv hxv
            go_wp2_with fail
            refine ⟨⟨seen.push q.born, _, ?_, by rw [HL.out]; exact hT5⟩, ?_⟩
            · have := HX.out x.1
              rwa [HR.out] at this
            · rw [hT5.left_eq, HL.out, hml.out, HA.out]
              simp
        · have g3 : ((X1.length : Int) == tear) = false := by simpa using g2
          have hT5 := hT2.skip
          have hX5 := HX.out x.1
          have hr : resC keep tear z q.k q.l (s1.sure X1.length) = x.2 := by
            unfold resC
            rw [HK2.out, if_neg (by rw [g1]; decide), if_neg g2, HX2.out]
          rw [hr] at hX5
          rw [hi] at hrun hent hcell hfz hlt hlt2 hct g3
          have HI := Lib.hid hi
          have HX5 := Lib.hid hX5
          clear hi g1 g2 hr hX5 hso hlo hN hT2
          go_upto_region 4 with fail
          go_wp2_with fail
          refine hct.mono ?_
          rintro e w6 ⟨rfl, rfl⟩
          clear hct hrun hent
          go_wp2_with fail
          refine ⟨⟨seen.push q.born, _, HX5.out, by rw [HL.out]; exact hT5⟩, ?_⟩
          rw [hT5.left_eq, HL.out, hml.out, HA.out]
          simp
end Go.Proofs.Ythghflfgldcmbaa
