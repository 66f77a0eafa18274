/- mark.read: the mark of a sector. -/
import Derived.Test.YthghflfgldcmbaaMNum
import Derived.Test.YthghflfgldcmbaaConv
import Derived.Deep.LoopGhost
namespace Go.Proofs.Ythghflfgldcmbaa
set_option maxRecDepth 4000
set_option linter.unusedVariables false
set_option linter.unusedSimpArgs false
open Go Go.RowKit Go.MapKept Go.ChangeMaps
theorem results_cell2 {P : Program} {fn : Func} {p q : Tmp} {ty : TypeId} (h : fn.results = #[.cell p ty, .tmp q]) (tmps : Array Value) (w : World) (g : Nat) (t : TypeId) (cs : Array Value) (fr : Nat × Nat) (d : TypeDesc)
    (hp : tmps.getD p undef = .pointer (some ⟨g, 0, none⟩)) (hg : w.heap[g]? = some (.cells cs t fr))
    (hu : P.underlying ty = some d) (hd : (match d with | .struct _ | .array _ _ => true | _ => false) = true) (hi : (P.info? ty).map (·.size) = some cs.size) :
    (results fn tmps).run P w = .ok (.tuple #[.agg cs, tmps.getD q undef]) w := by
  have hp' : tmps[p]?.getD undef = .pointer (some ⟨g, 0, none⟩) := by simpa using hp
  simp [results, h, hp', asAddr, run_loadVar_row w g t ty cs fr d hg hu hd hi]
/-- a mark: its number and its six words -/
def mkA (M : Nat → Nat) : Array Value := #[.int .u64 (M 0), .int .u64 (M 1), .int .u64 (M 2), .int .u64 (M 3), .int .u64 (M 4), .int .u64 (M 5), .int .u64 (M 6)]
theorem mkA_all (M : Nat → Nat) : (mkA M).all (·.oneCell') = true := by simp [mkA, Value.oneCell']
theorem markInfo : (Try.prog.info? 60).map (·.size) = some 7 := by kernel_rfl
def putM (M : Nat → Nat) (i n : Nat) : Nat → Nat := fun j => if j = i then n else M j
theorem mkA_set (M : Nat → Nat) (i n : Nat) (hi : i < 7) : (mkA M).setIfInBounds i (.int .u64 (n : Int)) = mkA (putM M i n) := by
  rcases (show i = 0 ∨ i = 1 ∨ i = 2 ∨ i = 3 ∨ i = 4 ∨ i = 5 ∨ i = 6 by omega) with rfl | rfl | rfl | rfl | rfl | rfl | rfl <;> rfl
theorem mkA_congr {M N : Nat → Nat} (h : ∀ i, i < 7 → M i = N i) : mkA M = mkA N := by
  unfold mkA
  rw [h 0 (by omega), h 1 (by omega), h 2 (by omega), h 3 (by omega), h 4 (by omega), h 5 (by omega), h 6 (by omega)]
def zeroM : Nat → Nat := fun _ => 0
def halvesB (b : List UInt8) : Bool := b.take 56 == (b.drop 56).take 56
def restB (b : List UInt8) : Bool := (b.drop 112).all (· == 0)
def numsM (b : List UInt8) : Nat → Nat := fun i => numU b (8 * i) 8
def readM (b : List UInt8) : (Nat → Nat) × Bool := if halvesB b && restB b then (numsM b, decide (0 < numU b 0 8)) else (zeroM, false)
theorem strOf_beq (x y : List UInt8) : ((strOf x).toList == (strOf y).toList) = (x == y) := by
  rw [ByteArray.toList_eq, ByteArray.toList_eq]
  simp [strOf]
theorem mark_build (X : World) : (Instr.build 60 #[]).run Try.prog X = .ok (.agg (mkA zeroM)) X := by kernel_rfl
theorem slice_lh (X : World) (a : Addr) (n c l h : Nat) (zl zh : Int) (hzl : zl = l) (hzh : zh = h) (hlh : l ≤ h) (hh : h ≤ c) (hl : l < c) : (Instr.sliceAt 36 (.slice (some a) n c) (some (.int .i64 zl)) (some (.int .i64 zh)) none).run Try.prog X = .ok (.slice (some (a.add l)) (h - l) (c - l)) X := by
  subst hzl hzh
  have ht : Try.prog.underlying 36 = some (.slice (Try.prog.elem 36)) := by kernel_rfl
  have hs : (sizeOf (Try.prog.elem 36)).run Try.prog X = .ok 1 X := by kernel_rfl
  rw [run_sliceAt_slice (w := X) _ _ _ _ _ ht, run_slice_lh (w := X) _ (some a) n c ht .i64 .i64 l h (by omega) (by omega) (by omega), hs]
  simp only [sliced, Result.andThen, Int.toNat_natCast, Nat.mul_one]
  rw [if_neg (by omega)]; rfl
theorem slice_from (X : World) (a : Addr) (n c l : Nat) (zl : Int) (hzl : zl = l) (hln : l ≤ n) (hl : l < c) : (Instr.sliceAt 36 (.slice (some a) n c) (some (.int .i64 zl)) none none).run Try.prog X = .ok (.slice (some (a.add l)) (n - l) (c - l)) X := by
  subst hzl
  have ht : Try.prog.underlying 36 = some (.slice (Try.prog.elem 36)) := by kernel_rfl
  have hs : (sizeOf (Try.prog.elem 36)).run Try.prog X = .ok 1 X := by kernel_rfl
  rw [run_sliceAt_slice (w := X) _ _ _ _ _ ht, run_slice_l (w := X) _ (some a) n c ht .i64 l (by omega) (by omega), hs]
  simp only [sliced, Result.andThen, Int.toNat_natCast, Nat.mul_one]
  rw [if_neg (by omega)]; rfl
/-- bytes that lie in a world -/
def BytesAt (W : World) (g o : Nat) (b : List UInt8) : Prop := g < W.heap.size ∧ ∀ i, i < b.length → W.cell? ⟨g, o + i, none⟩ = some (.int .u8 ((b.getD i 0).toNat : Int))
theorem BytesAt.ext {W W' : World} {g o : Nat} {b : List UInt8} (h : BytesAt W g o b) (hE : Ext W W') : BytesAt W' g o b := ⟨Nat.lt_of_lt_of_le h.1 hE.le, fun i hi => (hE.cell g _ h.1).trans (h.2 i hi)⟩
theorem BytesAt.drop {W : World} {g o : Nat} {b : List UInt8} (h : BytesAt W g o b) (k : Nat) : BytesAt W g (o + k) (b.drop k) := ⟨h.1, fun i hi => by
  rw [List.length_drop] at hi
  have := h.2 (k + i) (by omega)
  rw [← Nat.add_assoc] at this
  rw [this]
  congr 4
  simp [List.getD_eq_getElem?_getD]⟩
theorem BytesAt.take {W : World} {g o : Nat} {b : List UInt8} (h : BytesAt W g o b) (k : Nat) : BytesAt W g o (b.take k) := ⟨h.1, fun i hi => by
  rw [List.length_take] at hi
  rw [h.2 i (by omega)]
  congr 4
  simp [List.getD_eq_getElem?_getD, List.getElem?_take, show i < k by omega]⟩
theorem BytesAt.conv {W : World} {g o c : Nat} {b : List UInt8} (h : BytesAt W g o b) : (convert 36 9 (.slice (some ⟨g, o, none⟩) b.length c)).run Try.prog W = .ok (.string (strOf b)) W :=
  conv_str Try.underlying36 Try.underlying5 Try.underlying9 W g o c b h.2
theorem BytesAt.of_own {W : World} {g n c : Nat} {b : List UInt8} (h : W.ownsRow 0 5 1 (.slice (some ⟨g, 0, none⟩) n c) n (u8s b)) : BytesAt W g 0 b := by
  obtain ⟨h1, h2⟩ := own_read h
  refine ⟨h2, fun i hi => ?_⟩
  have := h1 i _ (u8s_get b i hi)
  rwa [Go.WideShapes.add_plain] at this
def RdOut (W : World) (b : List UInt8) (e : Ending) (W' : World) : Prop := e = .returned (.tuple #[.agg (mkA (readM b).1), .bool (readM b).2]) ∧ Ext W W'
def R1Rel (W : World) (b : List UInt8) (v : Value) (wr : World) : Prop :=
  ∃ i : Nat, i ≤ 16 ∧ v = .int .i64 i ∧ (∀ j, j < i → b.getD (112 + j) 0 = 0) ∧ wr = W
def upto (M : Nat → Nat) (i : Nat) : Nat → Nat := fun j => if j < i then M j else 0
def R2Rel (w : World) (g2 g6 : Nat) (b : List UInt8) (v : Value) (wr : World) : Prop :=
  ∃ i : Nat, i ≤ 7 ∧ v = .int .i64 i ∧ Has w wr [blkA g6 60 (mkA (upto (numsM b) i)), blkA g2 60 (mkA zeroM)]
def R3Rel (b : List UInt8) (i : Nat) (w : World) (v k : Value) (wr : World) : Prop :=
  ∃ j : Nat, j ≤ 8 ∧ k = .int .i64 j ∧ v = .int .u64 (numU b (8 * i) j) ∧ wr = w
set_option maxHeartbeats 1000000 in
theorem mread_any (W : World) (g c : Nat) (b : List UInt8) (hlen : b.length = 128) (hc : 128 ≤ c) (hB : BytesAt W g 0 b) :
    Calls Try.prog 42 #[.slice (some ⟨g, 0, none⟩) 128 c] W fun e W' => RdOut W b e W' := by
  have heq : ((strOf (b.take 56)).toList == (strOf ((b.drop 56).take 56)).toList) = halvesB b := strOf_beq _ _
  cases hh : halvesB b with
  | false =>
    rw [hh] at heq
    have HR := Lib.hid (show readM b = (zeroM, false) by unfold readM; rw [hh]; rfl)
    clear hh
    have hH := (Has.nil (Ext.refl W)).new .nil 60 (mkA zeroM)
    go_enter Try.func42, Try.ntmps42
    go_upto_region 1 with fail
    refine gen_world' (fun X => Has W X [blkA W.heap.size 60 (mkA zeroM)]) hH ?_
    clear hH
    generalize W.heap.size = g2 at *
    intro W1 H1
    have hsl1 := fun X => slice_to X (some ⟨g, 0, none⟩) 128 c 56 56 rfl (by omega)
    have hsl2 : ∀ X, (Instr.sliceAt 36 (.slice (some ⟨g, 0, none⟩) 128 c) (some (.int .i64 56)) (some (.int .i64 112)) none).run Try.prog X = .ok (.slice (some ⟨g, 56, none⟩) 56 (c - 56)) X := fun X => slice_lh X ⟨g, 0, none⟩ 128 c 56 112 56 112 rfl rfl (by omega) (by omega) (by omega)
    have hB1 := hB.ext H1.base
    have ht1 : (b.take 56).length = 56 := by rw [List.length_take]; omega
    have ht2 : ((b.drop 56).take 56).length = 56 := by rw [List.length_take, List.length_drop]; omega
    have hcv1 : ∀ k, (convert 36 9 (.slice (some ⟨g, 0, none⟩) 56 c)).run Try.prog (W1.drewN k) = .ok (.string (strOf (b.take 56))) (W1.drewN k) := fun k => by
      have := ((hB1.ext (Ext.drewN (Ext.refl _) k)).take 56).conv (c := c)
      rwa [ht1] at this
    have hcv2 : ∀ k, (convert 36 9 (.slice (some ⟨g, 56, none⟩) 56 (c - 56))).run Try.prog (W1.drewN k) = .ok (.string (strOf ((b.drop 56).take 56))) (W1.drewN k) := fun k => by
      have := (((hB1.ext (Ext.drewN (Ext.refl _) k)).drop 56).take 56).conv (c := c - 56)
      rwa [ht2, Nat.zero_add] at this
    have HH := Lib.hid hlen
    clear ht1 ht2 hlen
    generalize strOf (b.take 56) = s1 at *
    generalize strOf ((b.drop 56).take 56) = s2 at *
    go_quiet (fail)
    clear hcv1 hcv2 hsl1 hsl2
    have hE2 : Ext W1 (W1.drewN nq) := Ext.drewN (Ext.refl _) nq
    have H2 := H1.ext (.cons (blkA_loc _ _ _) .nil) hE2
    clear H1 hB1 hE2
    generalize World.drewN W1 nq = W2 at *
    have hb := H2.blk0
    have hbd := mark_build
    go_wp2_with (refine wpList_store_row rfl _ _ _ rfl g2 (mkA zeroM) rfl rfl _ _ hb markInfo rfl (mkA_all _) ?_)
    have hb3 := setRow_blk (cs := mkA zeroM) hb
    refine bodyPost_ret (v := .tuple #[.agg (mkA zeroM), .bool false]) (results_cell2 Try.results42 _ _ g2 60 (mkA zeroM) _ _ rfl hb3 Try.underlying60 rfl markInfo) rfl ⟨?_, (H2.row .nil).base⟩
    rw [HR.out]
  | true =>
    rw [hh] at heq
    have HHV := Lib.hid hh
    clear hh
    have hH := (Has.nil (Ext.refl W)).new .nil 60 (mkA zeroM)
    go_enter Try.func42, Try.ntmps42
    go_upto_region 1 with fail
    refine gen_world' (fun X => Has W X [blkA W.heap.size 60 (mkA zeroM)]) hH ?_
    clear hH
    generalize W.heap.size = g2 at *
    intro W1 H1
    have hsl1 := fun X => slice_to X (some ⟨g, 0, none⟩) 128 c 56 56 rfl (by omega)
    have hsl2 : ∀ X, (Instr.sliceAt 36 (.slice (some ⟨g, 0, none⟩) 128 c) (some (.int .i64 56)) (some (.int .i64 112)) none).run Try.prog X = .ok (.slice (some ⟨g, 56, none⟩) 56 (c - 56)) X := fun X => slice_lh X ⟨g, 0, none⟩ 128 c 56 112 56 112 rfl rfl (by omega) (by omega) (by omega)
    have hB1 := hB.ext H1.base
    have ht1 : (b.take 56).length = 56 := by rw [List.length_take]; omega
    have ht2 : ((b.drop 56).take 56).length = 56 := by rw [List.length_take, List.length_drop]; omega
    have hcv1 : ∀ k, (convert 36 9 (.slice (some ⟨g, 0, none⟩) 56 c)).run Try.prog (W1.drewN k) = .ok (.string (strOf (b.take 56))) (W1.drewN k) := fun k => by
      have := ((hB1.ext (Ext.drewN (Ext.refl _) k)).take 56).conv (c := c)
      rwa [ht1] at this
    have hcv2 : ∀ k, (convert 36 9 (.slice (some ⟨g, 56, none⟩) 56 (c - 56))).run Try.prog (W1.drewN k) = .ok (.string (strOf ((b.drop 56).take 56))) (W1.drewN k) := fun k => by
      have := (((hB1.ext (Ext.drewN (Ext.refl _) k)).drop 56).take 56).conv (c := c - 56)
      rwa [ht2, Nat.zero_add] at this
    have HH := Lib.hid hlen
    clear ht1 ht2 hlen
    generalize strOf (b.take 56) = s1 at *
    generalize strOf ((b.drop 56).take 56) = s2 at *
    go_quiet (fail)
    clear hcv1 hcv2 hsl1 hsl2 heq
    have hE2 : Ext W1 (W1.drewN nq) := Ext.drewN (Ext.refl _) nq
    have H2 := H1.ext (.cons (blkA_loc _ _ _) .nil) hE2
    clear H1 hB1 hE2
    generalize World.drewN W1 nq = W2 at *
    have hsl3 : ∀ X, (Instr.sliceAt 36 (.slice (some ⟨g, 0, none⟩) 128 c) (some (.int .i64 112)) none none).run Try.prog X = .ok (.slice (some ⟨g, 112, none⟩) 16 (c - 112)) X := fun X => slice_from X ⟨g, 0, none⟩ 128 c 112 112 rfl (by omega) (by omega)
    have hB2 := hB.ext H2.base
    go_upto_block 0 with fail
    go_cut [] (fun wx => restB b = true ∧ wx = W2)
    case first =>
      go_wp2_with fail
      go_loopw [26] (fun v wr => R1Rel W2 b v wr) (fun v _ => (17 - intOf v).toNat)
      case atStart => exact ⟨0, by omega, rfl, (fun j hj => by omega), rfl⟩
      case round =>
        obtain ⟨i, hi, rfl, hz, rfl⟩ := hrel
        by_cases gi : (i : Int) < 16
        · have hcell := hB2.2 (112 + i) (by rw [HH.out]; omega)
          rw [Nat.zero_add] at hcell
          by_cases hx : b.getD (112 + i) 0 = 0
          · have HX := Lib.hid hx
            rw [hx] at hcell
            have hcell2 : wr.cell? ⟨g, 112 + i, none⟩ = some (.int .u8 0) := hcell
            have HZ := Lib.hid hz
            clear hx hcell hz
            go_wp2_with fail
            refine ⟨⟨i + 1, by omega, by go_num, fun j hj => ?_, rfl⟩, by simp [intOf]; omega⟩
            rcases Nat.lt_or_ge j i with h | h
            · exact HZ.out j h
            · rw [show j = i by omega]; exact HX.out
          · have hne : (((b.getD (112 + i) 0).toNat : Int) == 0) = false := by
              have : (b.getD (112 + i) 0).toNat ≠ 0 := fun e => hx (UInt8.toNat_inj.1 e)
              simpa using this
            have HR := Lib.hid (show readM b = (zeroM, false) by
              have : restB b = false := by
                unfold restB
                rw [Bool.eq_false_iff]
                intro h
                have h2 := List.all_eq_true.1 h (b.getD (112 + i) 0) (by
                  have hl : i < (b.drop 112).length := by rw [List.length_drop, HH.out]; omega
                  have : b.getD (112 + i) 0 = (b.drop 112)[i] := by
                    rw [List.getD_eq_getElem?_getD, List.getElem_drop, List.getElem?_eq_getElem (by rw [HH.out]; omega)]; rfl
                  rw [this]; exact List.getElem_mem hl)
                exact hx (by simpa using h2)
              unfold readM; rw [this, Bool.and_false]; rfl)
            clear hx hz
            generalize (b.getD (112 + i) 0).toNat = x at *
            have hb := H2.blk0
            have hbd := mark_build
            go_wp2_with (refine wpList_store_row rfl _ _ _ rfl g2 (mkA zeroM) rfl rfl _ _ hb markInfo rfl (mkA_all _) ?_)
            have hb3 := setRow_blk (cs := mkA zeroM) hb
            refine bodyPost_ret (v := .tuple #[.agg (mkA zeroM), .bool false]) (results_cell2 Try.results42 _ _ g2 60 (mkA zeroM) _ _ rfl hb3 Try.underlying60 rfl markInfo) rfl ⟨?_, (H2.row .nil).base⟩
            rw [HR.out]
        · have HR := Lib.hid (show restB b = true by
            unfold restB
            rw [List.all_eq_true]
            intro x hx
            obtain ⟨k, hk, rfl⟩ := List.mem_iff_getElem.1 hx
            rw [List.length_drop, HH.out] at hk
            have := hz k (by omega)
            rw [List.getD_eq_getElem?_getD, List.getElem?_eq_getElem (by rw [HH.out]; omega)] at this
            rw [List.getElem_drop]
            simpa using this)
          clear hz
          go_wp2_with fail
          go_meet
          exact ⟨HR.out, rfl⟩
    case rest =>
      obtain ⟨hrest, rfl⟩ := hcut
      have HR := Lib.hid (show readM b = (numsM b, decide (0 < numU b 0 8)) by unfold readM; rw [hrest, HHV.out]; rfl)
      clear hrest hsl3
      have H3 := H2.new (.cons (blkA_loc _ _ _) .nil) 60 (mkA zeroM)
      clear H2 hB2
      go_upto_region 10 with fail
      refine gen_world' (fun X => Has W X [blkA wc.heap.size 60 (mkA zeroM), blkA g2 60 (mkA zeroM)]) H3 ?_
      clear H3
      generalize wc.heap.size = g6 at *
      intro W4 H4
      go_wp2_with fail
      go_loopw [34] (fun v wr => R2Rel W g2 g6 b v wr) (fun v _ => (8 - intOf v).toNat)
      case atStart => exact ⟨0, by omega, rfl, H4⟩
      case round =>
        clear H4
        obtain ⟨i, hi, rfl, H4⟩ := hrel
        by_cases gi : (i : Int) < 7
        · have hB4 := hB.ext H4.base
          go_wp2_with fail
          go_loopw [8, 37] (fun n k wx => R3Rel b i wr n k wx) (fun _ k _ => (9 - intOf k).toNat)
          case atStart => exact ⟨0, by omega, rfl, rfl, rfl⟩
          case round =>
            obtain ⟨j, hj, rfl, rfl, rfl⟩ := hrel
            by_cases gj : (j : Int) < 8
            · have hcell := hB4.2 (8 * i + j) (by rw [HH.out]; omega)
              rw [Nat.zero_add] at hcell
              have hxb := (b.getD (8 * i + j) 0).toNat_lt
              have hlt := numU_lt b (8 * i) j
              have HS := Lib.hid (show numU b (8 * i) (j + 1) = numU b (8 * i) j + (b.getD (8 * i + j) 0).toNat * 2 ^ (8 * j) from rfl)
              generalize b.getD (8 * i + j) 0 = x at *
              generalize numU b (8 * i) j = y at *
              go_wp2_with fail
              rw [or_byte y x.toNat j (by omega) (by omega) hlt]
              exact ⟨⟨j + 1, by omega, by go_num, by rw [HS.out], rfl⟩, by simp [intOf]; omega⟩
            · have hj' : j = 8 := by omega
              subst hj'
              have hn : numU b (8 * i) 8 = numsM b i := rfl
              rw [hn] at *
              have hup : ∀ j, j < 7 → putM (upto (numsM b) i) i (numsM b i) j = upto (numsM b) (i + 1) j := by
                intro j hj
                unfold putM upto
                by_cases h1 : j = i
                · subst h1; rw [if_pos rfl, if_pos (by omega)]
                · rw [if_neg h1]
                  by_cases h2 : j < i
                  · rw [if_pos h2, if_pos (by omega)]
                  · rw [if_neg h2, if_neg (by omega)]
              have H5 := H4.set (.cons (blkA_loc _ _ _) .nil) i (.int .u64 (numsM b i : Int))
              rw [mkA_set _ _ _ (by omega), mkA_congr hup] at H5
              have hb := H4.blk0
              generalize numsM b i = y at *
              clear hup hB4 hn
              rcases (show i = 0 ∨ ∃ k, i = k + 1 by cases i with | zero => exact Or.inl rfl | succ k => exact Or.inr ⟨k, rfl⟩) with hi0 | ⟨k, hi0⟩
              · have c0 := hb.cell 0
                have f0 := hb.frozen 0
                have hz : ((i : Int) == 0) = true := by simpa using hi0
                rw [hi0] at H5
                simp only [mkA, List.getElem?_toArray, List.getElem?_cons_zero] at c0
                have HI := Lib.hid hi0
                clear hi0 hb H4
                go_wp2_with fail
                refine ⟨⟨i + 1, by omega, by go_num, ?_⟩, by simp [intOf]; omega⟩
                rw [HI.out]; exact H5
              · subst hi0
                have hk6 : (k : Int) < 6 := by omega
                have hz : ((k : Int) + 1 == 0) = false := by simp; omega
                have ck := hb.cell (1 + k)
                have fk := hb.frozen (1 + k)
                have hck : (mkA (upto (numsM b) (k + 1)))[1 + k]? = some (.int .u64 ((upto (numsM b) (k + 1) (1 + k) : Nat) : Int)) := by
                  rcases (show k = 0 ∨ k = 1 ∨ k = 2 ∨ k = 3 ∨ k = 4 ∨ k = 5 by omega) with rfl | rfl | rfl | rfl | rfl | rfl <;> rfl
                rw [hck] at ck
                clear hck hb H4
                go_wp2_with fail
                have H6 : Has W (wr.setCell ⟨g6, 1 + k, none⟩ (.int .u64 (y : Int))) [blkA g6 60 (mkA (upto (numsM b) (k + 1 + 1))), blkA g2 60 (mkA zeroM)] := by rw [Nat.add_comm 1 k]; exact H5
                exact ⟨⟨k + 1 + 1, by omega, by go_num, H6⟩, by simp [intOf]; omega⟩
        · have hi' : i = 7 := by omega
          subst hi'
          rw [mkA_congr (M := upto (numsM b) 7) (N := numsM b) (fun j hj => if_pos hj)] at H4
          have HN := Lib.hid (show numsM b 0 = numU b 0 8 from rfl)
          obtain ⟨M, hM⟩ : ∃ M, numsM b = M := ⟨_, rfl⟩
          rw [hM] at H4
          have HM := Lib.hid hM
          clear hM
          go_upto_region 23 with fail
          have hbq := H4.blk0
          have H5 := H4.ext (.cons (blkA_loc _ _ _) (.cons (blkA_loc _ _ _) .nil)) (Ext.refl wr).drew
          have d0 : ∀ x : Of (fun X => Blk X g6 60 (mkA M)), x.val.cell? ⟨g6, 0, none⟩ = some (.int .u64 (M 0)) := fun x => x.property.cell 0
          have d1 : ∀ x : Of (fun X => Blk X g6 60 (mkA M)), x.val.cell? ⟨g6, 1, none⟩ = some (.int .u64 (M 1)) := fun x => x.property.cell 1
          have d2 : ∀ x : Of (fun X => Blk X g6 60 (mkA M)), x.val.cell? ⟨g6, 2, none⟩ = some (.int .u64 (M 2)) := fun x => x.property.cell 2
          have d3 : ∀ x : Of (fun X => Blk X g6 60 (mkA M)), x.val.cell? ⟨g6, 3, none⟩ = some (.int .u64 (M 3)) := fun x => x.property.cell 3
          have d4 : ∀ x : Of (fun X => Blk X g6 60 (mkA M)), x.val.cell? ⟨g6, 4, none⟩ = some (.int .u64 (M 4)) := fun x => x.property.cell 4
          have d5 : ∀ x : Of (fun X => Blk X g6 60 (mkA M)), x.val.cell? ⟨g6, 5, none⟩ = some (.int .u64 (M 5)) := fun x => x.property.cell 5
          have d6 : ∀ x : Of (fun X => Blk X g6 60 (mkA M)), x.val.cell? ⟨g6, 6, none⟩ = some (.int .u64 (M 6)) := fun x => x.property.cell 6
          have hFd := (show Blk wr.drew g6 60 (mkA M) from hbq)
          have hne_ : Nonempty (Of ((fun X => Blk X g6 60 (mkA M)))) := ⟨⟨_, hFd⟩⟩
          refine region_steps [0,1,2,3,4,5] [true,true,true,true,false,true] ((fun X => Blk X g6 60 (mkA M))) (by kernel_rfl) (by kernel_rfl) hFd ?_
          simp only [List.filterMap_cons, List.filterMap_nil, List.getElem?_cons_zero, List.getElem?_cons_succ]
          refine steps_quiet 4 (by kernel_rfl) ?_
          simp only [List.take_succ_cons, List.take_zero, List.drop_succ_cons, List.drop_zero]
          repeat (go_big_quiet_step (fail))
          refine wpQuiet_nil ?_
          clear hbq H4 d0 d1 d2 d3 d4 d5 d6
          generalize World.drew wr = w5 at *
          have H6 := H5.swap
          have hb2 := H6.blk0
          have H7 := H6.row (.cons (blkA_loc _ _ _) .nil) (cs := mkA M)
          refine steps_want rfl (fun K hK => ?_)
          refine wp_store_row _ _ _ rfl g2 (mkA M) rfl rfl _ _ hb2 markInfo rfl (mkA_all _) ?_
          refine hK _ _ (fun X => Blk X g6 60 (mkA M)) H7.swap.blk0 (fun _ h => h) ?_
          clear hK K
          (try simp only [Act.put, List.setIfInBounds_toArray, List.set_cons_succ, List.set_cons_zero])
          refine steps_quiet 1 (by kernel_rfl) ?_
          simp only [List.take_succ_cons, List.take_zero, List.drop_succ_cons, List.drop_zero]
          repeat (go_big_quiet_step (fail))
          refine wpQuiet_nil ?_
          refine steps_nil ?_
          clear H5 H6 hb2 hFd
          generalize World.setRow w5 _ _ = w6 at *
          go_wp2_with fail
          refine bodyPost_ret (v := .tuple #[.agg (mkA M), .bool (decide (0 < M 0))]) (results_cell2 Try.results42 _ _ g2 60 (mkA M) _ _ rfl H7.blk0 Try.underlying60 rfl markInfo) rfl ⟨?_, H7.base⟩
          rw [HR.out, HM.out, ← HN.out, HM.out]
end Go.Proofs.Ythghflfgldcmbaa
