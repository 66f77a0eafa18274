/- begin and spread: what they compute. -/
import Derived.Test.YtkkhcpknldlpoaaSCrc
import Derived.Test.YtkkhcpknldlpoaaSep
import Derived.Deep.DeepCutAuto
import Derived.Deep.CutBlock
namespace Go.Proofs.Ytkkhcpknldlpoaa
set_option maxRecDepth 4000
set_option linter.unusedVariables false
set_option linter.unusedSimpArgs false
open Go Go.RowKit
/-- words as values -/
def u32s (l : List W32) : List Value := l.map fun x => .int .u32 (wv x)
theorem u32s_length (l : List W32) : (u32s l).length = l.length := by simp [u32s]
theorem u32s_get (l : List W32) (i : Nat) (h : i < l.length) : (u32s l)[i]? = some (.int .u32 (wv (l.getD i 0))) := by
  rw [u32s, List.getElem?_map, List.getElem?_eq_getElem h, List.getD_eq_getElem?_getD, List.getElem?_eq_getElem h]; rfl
theorem u32s_set (l : List W32) (i : Nat) (x : W32) : (u32s l).set i (.int .u32 (wv x)) = u32s (l.set i x) := by simp [u32s, List.map_set]
theorem u32s_one (l : List W32) : (u32s l).toArray.all (·.oneCell') = true := by
  rw [List.all_toArray, List.all_eq_true]
  intro u hu; simp only [u32s, List.mem_map] at hu; obtain ⟨b, _, rfl⟩ := hu; rfl
def St.list (s : St) : List W32 := [s.a, s.b, s.c, s.d, s.e, s.f, s.g, s.h]
abbrev stV (s : St) : Value := .agg (u32s s.list).toArray
theorem Blk.loadAt {P : Program} {w : World} {g : Nat} {t ty : TypeId} {cs : Array Value} {d : TypeDesc} (h : Blk w g t cs) (hu : P.underlying ty = some d) (hd : (match d with | .struct _ | .array _ _ => true | _ => false) = true) (hi : (P.info? ty).map (·.size) = some cs.size) :
    (Instr.loadAt ty (.pointer (some ⟨g, 0, none⟩))).run P w = .ok (.agg cs) w := by
  simp only [Instr.loadAt, Instr.sureAddr, Sem.run_bind, Sem.run_pure, Result.andThen]
  exact run_loadVar_row w g t ty cs (0, 0) d h hu hd hi
theorem Blk.storeAt {P : Program} {w : World} {g : Nat} {t ty : TypeId} {old cs : Array Value} (h : Blk w g t old) (hi : (P.info? ty).map (·.size) = some cs.size) (ho : old.size = cs.size) (h1 : cs.all (·.oneCell') = true) :
    (Instr.storeAt ty (.pointer (some ⟨g, 0, none⟩)) (.agg cs)).run P w = .ok () (w.setRow g cs) := by
  simp only [Instr.storeAt, Instr.sureAddr, Sem.run_bind, Sem.run_pure, Result.andThen]
  rw [run_storeVar_row w g t ty old cs h hi ho h1]
theorem stInfo : (Try.prog.info? 137).map (·.size) = some 8 := by kernel_rfl
theorem begin_any (w : World) : Calls Try.prog 85 #[] w fun e w' => e = .returned (stV St.begin) ∧ Ext w w' := by
  go_enter Try.func85, Try.ntmps85
  go_wp2_with fail
  have hb : Blk (w.alloc (.cells (u32s St.begin.list).toArray 137)) w.heap.size 137 (u32s St.begin.list).toArray := Blk.new _ _ _
  refine bodyPost_ret (v := stV St.begin) (results_cell_row Try.results85 _ _ _ _ _ _ _ rfl hb Try.underlying137 rfl stInfo) rfl ⟨rfl, ext_alloc _ _⟩
def zw : Nat → List W32 := fun n => List.replicate n 0
theorem w64Info : (Try.prog.info? 152).map (·.size) = some 64 := by kernel_rfl
theorem w64Size {l : List W32} (h : l.length = 64) : (Try.prog.info? 152).map (·.size) = some (u32s l).toArray.size := by
  rw [w64Info]; simp [u32s, h]
def WdA (t g : Nat) (l : List W32) : Asr := blkA g t (u32s l).toArray
theorem WdA_loc (t g : Nat) (l : List W32) : Loc (WdA t g l) := blkA_loc _ _ _
abbrev ScA (g : Nat) (l : List W32) : Asr := WdA 152 g l
theorem ScA_loc (g : Nat) (l : List W32) : Loc (ScA g l) := blkA_loc _ _ _
theorem WdA_cell {w W : World} {t g : Nat} {l : List W32} {ps : List Asr} (h : Has w W (WdA t g l :: ps)) (i : Nat) (hi : i < l.length) : W.cell? ⟨g, i, none⟩ = some (.int .u32 (wv (l.getD i 0))) ∧ W.frozen? ⟨g, i, none⟩ = false := by
  obtain ⟨F, hF⟩ := h.head
  refine ⟨?_, hF.1.frozen i⟩
  rw [hF.1.cell i, List.getElem?_toArray, u32s_get l i hi]
theorem WdA_put {w W : World} {t g : Nat} {l : List W32} {ps : List Asr} (h : Has w W (WdA t g l :: ps)) (hl : Locs ps) (i : Nat) (x : W32) : Has w (W.setCell ⟨g, i, none⟩ (.int .u32 (wv x))) (WdA t g (l.set i x) :: ps) := by
  refine h.next hl fun F hF => ?_
  have hb := hF.1.set_ i (.int .u32 (wv x))
  have e : (u32s l).toArray.setIfInBounds i (.int .u32 (wv x)) = (u32s (l.set i x)).toArray := by
    rw [List.setIfInBounds_toArray, u32s_set]
  rw [e] at hb
  have hF2 := hF.2
  exact Next.mk (F' := fun k => k = g) ⟨hb, rfl⟩ ((Tch.refl _ _).setCell (fun _ => by rw [hF2]) _) (fun k hk => Or.inl (by rw [hF2]; exact hk))
theorem WdA_row {w W : World} {t g : Nat} {l l' : List W32} {ps : List Asr} (h : Has w W (WdA t g l :: ps)) (hl : Locs ps) : Has w (W.setRow g (u32s l').toArray) (WdA t g l' :: ps) := by
  refine h.next hl fun F hF => ?_
  have hF2 := hF.2
  refine Next.mk (F' := fun k => k = g) ⟨setRow_blk hF.1, rfl⟩ ⟨rfl, rfl, rfl, by simp, fun k hk hn => ?_⟩ (fun k hk => Or.inl (by rw [hF2]; exact hk))
  exact setRow_other W g k _ (fun e => hn (by rw [hF2]; first | exact e | exact e.symm))
theorem set_mid {a : List W32} {n i : Nat} {x : W32} (h : a.length = i) (hn : 0 < n) : (a ++ zw n).set i x = a ++ [x] ++ zw (n - 1) := by
  obtain ⟨m, rfl⟩ : ∃ m, n = m + 1 := ⟨n - 1, by omega⟩
  subst h
  simp [zw, List.replicate_succ]
def SpRel1 (w : World) (r g : Nat) (b : List UInt8) (k : Value) (wr : World) : Prop :=
  ∃ i : Nat, i ≤ 16 ∧ k = .int .i64 i ∧ Has w wr [ScA g ((words b).take i ++ zw (64 - i)), ScA r (zw 64)]
def SpRel2 (w : World) (r g : Nat) (b : List UInt8) (k : Value) (wr : World) : Prop :=
  ∃ i : Nat, i ≤ 48 ∧ k = .int .i64 ((16 + i : Nat) : Int) ∧ Has w wr [ScA g (wGrow i (words b) ++ zw (48 - i)), ScA r (zw 64)]
set_option maxRecDepth 100000 in
theorem spread_any (l : List UInt8) (hl : l.length = 64) (w : World) :
    Calls Try.prog 92 #[.string (strOf l)] w fun e w' => e = .returned (.agg (u32s (spread l)).toArray) ∧ Ext w w' := by
  go_enter Try.func92, Try.ntmps92
  go_wp2_with fail
  have hH : Has w ((w.alloc (.cells (u32s (zw 64)).toArray 152)).alloc (.cells (u32s (zw 64)).toArray 152)) [ScA (w.heap.size + 1) (zw 64), ScA w.heap.size (zw 64)] := by
    have h1 := (Has.nil (Ext.refl w)).add .nil (ext_alloc w (.cells (u32s (zw 64)).toArray 152)) (p := ScA w.heap.size (zw 64)) (F := fun k => k = w.heap.size) ⟨Blk.new _ _ _, rfl⟩ (fun k hk => by omega)
    have h2 := h1.add (.cons (ScA_loc _ _) .nil) (ext_alloc _ (.cells (u32s (zw 64)).toArray 152)) (p := ScA (w.heap.size + 1) (zw 64)) (F := fun k => k = w.heap.size + 1) ⟨by have := Blk.new (w.alloc (.cells (u32s (zw 64)).toArray 152)) 152 (u32s (zw 64)).toArray; simpa using this, rfl⟩ (fun k hk => by simp; omega)
    exact h2
  refine gen_world' (fun X => Has w X [ScA (w.heap.size + 1) (zw 64), ScA w.heap.size (zw 64)]) hH ?_
  clear hH
  intro W hH
  generalize w.heap.size + 1 = g at *
  generalize w.heap.size = r at *
  go_loopw [10] (fun k wr => SpRel1 w r g l k wr) (fun k _ => (17 - intOf k).toNat)
  case atStart => exact ⟨0, by omega, rfl, by simpa using hH⟩
  case round =>
    clear hH
    obtain ⟨i, hi, rfl, hH⟩ := hrel
    by_cases gi : (i : Int) < 16
    · go_wp2_with fail
      refine (four_any l (4 * (i : Int)) (4 * i) (by omega) _ (by omega) (by unfold maxLen; omega)).mono ?_
      rintro e w2 ⟨rfl, n, rfl⟩
      have hH2 := hH.ext (.cons (ScA_loc _ _) (.cons (ScA_loc _ _) .nil)) ((Ext.refl wr).drewN n)
      clear hH
      generalize wr.drewN n = w2 at *
      have hwl := words_len 16 l hl
      obtain ⟨c1, c2⟩ := WdA_cell hH2 i (by simp [hwl, zw]; omega)
      have hS := words_snoc 16 l hl i (by omega)
      have hH3 := WdA_put hH2 (.cons (ScA_loc _ _) .nil) i (fourAt l (4 * i))
      rw [set_mid (by simp [hwl]; omega) (by omega)] at hH3
      rw [show fourAt l (4 * i) = fourB (l.getD (4 * i) 0) (l.getD (4 * i + 1) 0) (l.getD (4 * i + 2) 0) (l.getD (4 * i + 3) 0) from rfl, ← hS] at hH3
      rw [show fourAt l (4 * i) = fourB (l.getD (4 * i) 0) (l.getD (4 * i + 1) 0) (l.getD (4 * i + 2) 0) (l.getD (4 * i + 3) 0) from rfl]
      generalize fourB _ _ _ _ = x at *
      clear hS hH2
      go_wp2_with fail
      exact ⟨⟨i + 1, by omega, by go_num, by rw [show 64 - (i + 1) = 64 - i - 1 by omega]; exact hH3⟩, by simp [intOf]; omega⟩
    · have hi' : i = 16 := by omega
      subst hi'
      have hH1 : Has w wr [ScA g (wGrow 0 (words l) ++ zw (48 - 0)), ScA r (zw 64)] := by
        have hwl := words_len 16 l hl
        rw [List.take_of_length_le (by omega)] at hH
        exact hH
      clear hH
      go_wp2_with fail
      go_loopw [5] (fun k wr => SpRel2 w r g l k wr) (fun k _ => (65 - intOf k).toNat)
      case atStart => exact ⟨0, by omega, rfl, hH1⟩
      case round =>
        clear hH1
        obtain ⟨i, hi, rfl, hH⟩ := hrel
        by_cases gi : (i : Int) < 48
        · have hwl : (wGrow i (words l)).length = 16 + i := by rw [wGrow_len, words_len 16 l hl]
          have hfl : (wGrow i (words l) ++ zw (48 - i)).length = 64 := by simp [hwl, zw]; omega
          have hgd : ∀ j, j < 16 + i → (wGrow i (words l) ++ zw (48 - i)).getD j 0 = (wGrow i (words l)).getD j 0 := fun j hj => by
            rw [List.getD_eq_getElem?_getD, List.getD_eq_getElem?_getD, List.getElem?_append_left (by omega)]
          have c1 := (WdA_cell hH (16 + i - 15) (by omega)).1
          have c14 := (WdA_cell hH (16 + i - 2) (by omega)).1
          have c0 := (WdA_cell hH i (by omega)).1
          have c9 := (WdA_cell hH (16 + i - 7) (by omega)).1
          rw [hgd _ (by omega)] at c1 c14 c0 c9
          have HN := Lib.hid (show wNext (wGrow i (words l)) (16 + i) = (wGrow i (words l)).getD i 0 + (ror ((wGrow i (words l)).getD (16 + i - 15) 0) 7 ^^^ ror ((wGrow i (words l)).getD (16 + i - 15) 0) 18 ^^^ (wGrow i (words l)).getD (16 + i - 15) 0 >>> 3) + (wGrow i (words l)).getD (16 + i - 7) 0 + (ror ((wGrow i (words l)).getD (16 + i - 2) 0) 17 ^^^ ror ((wGrow i (words l)).getD (16 + i - 2) 0) 19 ^^^ (wGrow i (words l)).getD (16 + i - 2) 0 >>> 10) by
            show wNext _ _ = _
            unfold wNext
            rw [show 16 + i - 16 = i by omega])
          have HW := Lib.hid hwl
          have HF := Lib.hid hfl
          clear hgd hwl hfl
          generalize (wGrow i (words l)).getD (16 + i - 15) 0 = x at *
          generalize (wGrow i (words l)).getD (16 + i - 2) 0 = y at *
          generalize (wGrow i (words l)).getD i 0 = m0 at *
          generalize (wGrow i (words l)).getD (16 + i - 7) 0 = m9 at *
          go_wp2_with fail
          go_big_quiet (fail)
          have hH2 := hH.ext (.cons (ScA_loc _ _) (.cons (ScA_loc _ _) .nil)) ((Ext.refl wr).drewN nq)
          clear hH c1 c14
          have d0 : (wr.drewN nq).cell? ⟨g, i, none⟩ = some (.int .u32 (wv m0)) := c0
          have d9 : (wr.drewN nq).cell? ⟨g, 16 + i - 7, none⟩ = some (.int .u32 (wv m9)) := c9
          clear c0 c9
          generalize wr.drewN nq = w2 at *
          have x3 : wv x / (8 : Int) = wv (x >>> 3) := wv_shr x 3
          have y10 : wv y / (1024 : Int) = wv (y >>> 10) := wv_shr y 10
          have fx := wv_xor
          have fa := wv_add
          go_wp2_with fail
          refine (rotl_lit x (-7) 7 (by omega) (by omega) _).mono ?_
          rintro e w3 ⟨rfl, rfl⟩
          go_wp2_with fail
          refine (rotl_lit x (-18) 18 (by omega) (by omega) _).mono ?_
          rintro e w3 ⟨rfl, rfl⟩
          go_wp2_with fail
          refine (rotl_lit y (-17) 17 (by omega) (by omega) _).mono ?_
          rintro e w3 ⟨rfl, rfl⟩
          go_wp2_with fail
          refine (rotl_lit y (-19) 19 (by omega) (by omega) _).mono ?_
          rintro e w3 ⟨rfl, rfl⟩
          go_wp2_with fail
          refine region_drew_tail 14 (by kernel_rfl) (by kernel_rfl) ?_
          simp only [List.take_succ_cons, List.take_zero, List.drop_succ_cons, List.drop_zero]
          repeat (go_big_quiet_step (fail))
          refine wpQuiet_nil ?_
          intro _ hw'
          obtain ⟨nq, hw''⟩ := hw'
          subst hw''
          have hH3 := hH2.ext (.cons (ScA_loc _ _) (.cons (ScA_loc _ _) .nil)) ((Ext.refl w3).drewN nq)
          clear hH2 d0 d9 x3 y10 fx fa
          generalize w3.drewN nq = w4 at *
          rw [← HN.out]
          obtain ⟨e1, e2⟩ := WdA_cell hH3 (16 + i) (by rw [HF.out]; omega)
          have hH4 := WdA_put hH3 (.cons (ScA_loc _ _) .nil) (16 + i) (wNext (wGrow i (words l)) (16 + i))
          rw [set_mid HW.out (by omega)] at hH4
          have hsu : wGrow (i + 1) (words l) = wGrow i (words l) ++ [wNext (wGrow i (words l)) (16 + i)] := by
            rw [wGrow_succ, words_len 16 l hl]
          rw [← hsu] at hH4
          clear hsu hH3
          generalize wNext (wGrow i (words l)) (16 + i) = z at *
          go_wp2_with fail
          exact ⟨⟨i + 1, by omega, by go_num, by rw [show 48 - (i + 1) = 48 - i - 1 by omega]; exact hH4⟩, by simp [intOf]; omega⟩
        · have hi' : i = 48 := by omega
          subst hi'
          have hs : wGrow 48 (words l) ++ zw (48 - 48) = spread l := by simp [zw, spread]
          rw [hs] at hH
          clear hs
          have hsl := spread_len l hl
          obtain ⟨Fg, hFg⟩ := hH.head
          obtain ⟨Fr, hFr⟩ := hH.swap.head
          have hB := hFg.1
          have hA := hFr.1
          have hH2 := WdA_row (l' := spread l) hH.swap (.cons (ScA_loc _ _) .nil)
          go_wp2_with (first
            | (refine wpList_load_row rfl _ _ rfl _ rfl _ _ _ _ hB Try.underlying152 rfl (w64Size hsl) ?_)
            | (refine wpList_store_row rfl _ _ _ rfl _ _ rfl rfl _ _ hA (w64Size hsl) (by simp [zw, u32s, hsl]) (u32s_one _) ?_))
          obtain ⟨F2, hF2⟩ := hH2.head
          exact bodyPost_ret (v := .agg (u32s (spread l)).toArray) (results_cell_row Try.results92 _ _ _ _ _ _ _ rfl hF2.1 Try.underlying152 rfl (w64Size hsl)) rfl ⟨rfl, hH2.base⟩
end Go.Proofs.Ytkkhcpknldlpoaa
