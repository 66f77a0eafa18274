/- bytes: what it computes. -/
import Derived.Test.YtkkhcpknldlpoaaSBlock
namespace Go.Proofs.Ytkkhcpknldlpoaa
set_option maxRecDepth 4000
set_option linter.unusedVariables false
set_option linter.unusedSimpArgs false
open Go Go.RowKit
def BdA (t g : Nat) (l : List UInt8) : Asr := blkA g t (u8s l).toArray
theorem BdA_loc (t g : Nat) (l : List UInt8) : Loc (BdA t g l) := blkA_loc _ _ _
theorem u8s_get (l : List UInt8) (i : Nat) (h : i < l.length) : (u8s l)[i]? = some (.int .u8 ((l.getD i 0).toNat : Int)) := by
  rw [u8s, List.getElem?_map, List.getElem?_eq_getElem h, List.getD_eq_getElem?_getD, List.getElem?_eq_getElem h]; rfl
theorem u8s_set (l : List UInt8) (i : Nat) (x : UInt8) : (u8s l).set i (.int .u8 (x.toNat : Int)) = u8s (l.set i x) := by simp [u8s, List.map_set]
theorem u8s_oneAll (l : List UInt8) : (u8s l).toArray.all (·.oneCell') = true := by
  rw [List.all_toArray, List.all_eq_true]
  exact u8s_one l
theorem BdA_cell {w W : World} {t g : Nat} {l : List UInt8} {ps : List Asr} (h : Has w W (BdA t g l :: ps)) (i : Nat) (hi : i < l.length) : W.cell? ⟨g, i, none⟩ = some (.int .u8 ((l.getD i 0).toNat : Int)) ∧ W.frozen? ⟨g, i, none⟩ = false := by
  obtain ⟨F, hF⟩ := h.head
  refine ⟨?_, hF.1.frozen i⟩
  rw [hF.1.cell i, List.getElem?_toArray, u8s_get l i hi]
theorem BdA_put {w W : World} {t g : Nat} {l : List UInt8} {ps : List Asr} (h : Has w W (BdA t g l :: ps)) (hl : Locs ps) (i : Nat) (x : UInt8) : Has w (W.setCell ⟨g, i, none⟩ (.int .u8 (x.toNat : Int))) (BdA t g (l.set i x) :: ps) := by
  refine h.next hl fun F hF => ?_
  have hb := hF.1.set_ i (.int .u8 (x.toNat : Int))
  have e : (u8s l).toArray.setIfInBounds i (.int .u8 (x.toNat : Int)) = (u8s (l.set i x)).toArray := by
    rw [List.setIfInBounds_toArray, u8s_set]
  rw [e] at hb
  have hF2 := hF.2
  exact Next.mk (F' := fun k => k = g) ⟨hb, rfl⟩ ((Tch.refl _ _).setCell (fun _ => by rw [hF2]) _) (fun k hk => Or.inl (by rw [hF2]; exact hk))
theorem BdA_row {w W : World} {t g : Nat} {l l' : List UInt8} {ps : List Asr} (h : Has w W (BdA t g l :: ps)) (hl : Locs ps) : Has w (W.setRow g (u8s l').toArray) (BdA t g l' :: ps) := by
  refine h.next hl fun F hF => ?_
  have hF2 := hF.2
  refine Next.mk (F' := fun k => k = g) ⟨setRow_blk hF.1, rfl⟩ ⟨rfl, rfl, rfl, by simp, fun k hk hn => ?_⟩ (fun k hk => Or.inl (by rw [hF2]; exact hk))
  exact setRow_other W g k _ (fun e => hn (by rw [hF2]; first | exact e | exact e.symm))
abbrev SmA (g : Nat) (l : List UInt8) : Asr := BdA 66 g l
theorem SmA_loc (g : Nat) (l : List UInt8) : Loc (SmA g l) := blkA_loc _ _ _
theorem smInfo : (Try.prog.info? 66).map (·.size) = some 32 := by kernel_rfl
theorem smSize {l : List UInt8} (h : l.length = 32) : (Try.prog.info? 66).map (·.size) = some (u8s l).toArray.size := by
  rw [smInfo]; simp [u8s, h]
def zb (n : Nat) : List UInt8 := List.replicate n 0
abbrev smV (l : List UInt8) : Value := .agg (u8s l).toArray
def bytesTo (s : St) (i : Nat) : List UInt8 := s.bytes.take (4 * i) ++ zb (32 - 4 * i)
def byteOf (x : W32) (k : Nat) : UInt8 := (b4 x).getD k 0
theorem cases8 {i : Nat} (h : i < 8) : i = 0 ∨ i = 1 ∨ i = 2 ∨ i = 3 ∨ i = 4 ∨ i = 5 ∨ i = 6 ∨ i = 7 := by omega
theorem bytesTo_set (s : St) (i : Nat) (h : i < 8) : ((((bytesTo s i).set (4 * i) (byteOf (s.list.getD i 0) 0)).set (4 * i + 1) (byteOf (s.list.getD i 0) 1)).set (4 * i + 2) (byteOf (s.list.getD i 0) 2)).set (4 * i + 3) (byteOf (s.list.getD i 0) 3) = bytesTo s (i + 1) := by
  rcases cases8 h with rfl | rfl | rfl | rfl | rfl | rfl | rfl | rfl <;> rfl
theorem bytesTo_len (s : St) (i : Nat) (h : i ≤ 8) : (bytesTo s i).length = 32 := by
  simp [bytesTo, zb, St.bytes, b4]; omega
theorem byte24 (x : W32) : wv x / (16777216 : Int) % (256 : Int) = ((byteOf x 0).toNat : Int) := by
  have := wv_shr x 24
  rw [show (2 : Int) ^ 24 = 16777216 from rfl] at this
  rw [this, wv_byte]; rfl
theorem byte16 (x : W32) : wv x / (65536 : Int) % (256 : Int) = ((byteOf x 1).toNat : Int) := by
  have := wv_shr x 16
  rw [show (2 : Int) ^ 16 = 65536 from rfl] at this
  rw [this, wv_byte]; rfl
theorem byte8 (x : W32) : wv x / (256 : Int) % (256 : Int) = ((byteOf x 2).toNat : Int) := by
  have := wv_shr x 8
  rw [show (2 : Int) ^ 8 = 256 from rfl] at this
  rw [this, wv_byte]; rfl
theorem byte0 (x : W32) : wv x % (256 : Int) = ((byteOf x 3).toNat : Int) := wv_byte x
theorem index_state {W : World} (S : List W32) (i : Nat) (z : Int) (hz : z = i) (hi : i < 8) (hS : S.length = 8) :
    (Instr.index 137 (.agg (u32s S).toArray) (.int .i64 z)).run Try.prog W = .ok (.int .u32 (wv (S.getD i 0))) W := by
  subst hz
  have h2 : (0 : Int) ≤ i ∧ (i : Int) < ((8 : Nat) : Int) := by omega
  have hu := u32Info
  have hg := u32s_get S i (by omega)
  cases hq : Try.prog.info? 103 with
  | none => rw [hq] at hu; cases hu
  | some t =>
    have ht : t.size = 1 := by rw [hq] at hu; simpa using hu
    simp only [Instr.index, asIntOf, Sem.run_bind, Sem.run_pure, Result.andThen_ok, run_underlying Try.underlying137]
    rw [if_pos h2]
    simp [sizeOf, typeInfo, hq, ht, part, Sem.run_bind, Result.andThen, hi]
    rw [hg]
    simp
def ByRel (w : World) (s : St) (g r bx : Nat) (k : Value) (wr : World) : Prop :=
  ∃ i : Nat, i ≤ 8 ∧ k = .int .i64 i ∧ Has w wr [SmA g (bytesTo s i), SmA r (zb 32), StA bx s.list]
set_option maxRecDepth 100000 in
set_option maxHeartbeats 4000000 in
theorem bytes_any (s : St) (w : World) :
    Calls Try.prog 87 #[stV s] w fun e w' => e = .returned (smV s.bytes) ∧ Ext w w' := by
  go_enter Try.func87, Try.ntmps87
  go_upto_region 2 with fail
  have hH : Has w (((w.alloc (.cells (u32s s.list).toArray 137)).alloc (.cells (u8s (zb 32)).toArray 66)).alloc (.cells (u8s (zb 32)).toArray 66)) [SmA (w.heap.size + 2) (zb 32), SmA (w.heap.size + 1) (zb 32), StA w.heap.size s.list] := by
    have h1 := (Has.nil (Ext.refl w)).add .nil (ext_alloc w (.cells (u32s s.list).toArray 137)) (p := StA w.heap.size s.list) (F := fun k => k = w.heap.size) ⟨Blk.new _ _ _, rfl⟩ (fun k hk => by omega)
    have h2 := h1.add (.cons (StA_loc _ _) .nil) (ext_alloc _ (.cells (u8s (zb 32)).toArray 66)) (p := SmA (w.heap.size + 1) (zb 32)) (F := fun k => k = w.heap.size + 1) ⟨by have := Blk.new (w.alloc (.cells (u32s s.list).toArray 137)) 66 (u8s (zb 32)).toArray; simpa using this, rfl⟩ (fun k hk => by simp; omega)
    have h3 := h2.add (.cons (SmA_loc _ _) (.cons (StA_loc _ _) .nil)) (ext_alloc _ (.cells (u8s (zb 32)).toArray 66)) (p := SmA (w.heap.size + 2) (zb 32)) (F := fun k => k = w.heap.size + 2) ⟨by have := Blk.new ((w.alloc (.cells (u32s s.list).toArray 137)).alloc (.cells (u8s (zb 32)).toArray 66)) 66 (u8s (zb 32)).toArray; simpa using this, rfl⟩ (fun k hk => by simp; omega)
    exact h3
  refine gen_world' (fun X => Has w X [SmA (w.heap.size + 2) (zb 32), SmA (w.heap.size + 1) (zb 32), StA w.heap.size s.list]) hH ?_
  clear hH
  intro W hH
  generalize w.heap.size + 2 = g at *
  generalize w.heap.size + 1 = r at *
  generalize w.heap.size = bx at *
  obtain ⟨Fa, hFa⟩ := Has.head (hH.third)
  have hba := hFa.1
  go_wp2_with (refine wpList_load_row rfl _ _ rfl bx rfl _ _ _ _ hba Try.underlying137 rfl (stSize rfl) ?_)
  clear hba hFa Fa
  go_loopw [7] (fun k wr => ByRel w s g r bx k wr) (fun k _ => (9 - intOf k).toNat)
  case atStart => exact ⟨0, by omega, rfl, hH⟩
  case round =>
    clear hH
    obtain ⟨i, hi, rfl, hH⟩ := hrel
    by_cases gi : (i : Int) < 8
    · have hi8 : i < 8 := by omega
      have hix := fun X => index_state (W := X) s.list i (i : Int) rfl hi8 rfl
      have hset := bytesTo_set s i hi8
      generalize s.list.getD i 0 = x at hix hset
      have f0 := byte24 x
      have f1 := byte16 x
      have f2 := byte8 x
      have f3 := byte0 x
      have hlen := bytesTo_len s i (by omega)
      obtain ⟨c0, d0⟩ := BdA_cell hH (4 * i) (by omega)
      obtain ⟨c1, d1⟩ := BdA_cell hH (4 * i + 1) (by omega)
      obtain ⟨c2, d2⟩ := BdA_cell hH (4 * i + 2) (by omega)
      obtain ⟨c3, d3⟩ := BdA_cell hH (4 * i + 3) (by omega)
      generalize byteOf x 0 = y0 at *
      generalize byteOf x 1 = y1 at *
      generalize byteOf x 2 = y2 at *
      generalize byteOf x 3 = y3 at *
      have LR : Locs [SmA r (zb 32), StA bx s.list] := .cons (SmA_loc _ _) (.cons (StA_loc _ _) .nil)
      have hH4 := BdA_put (BdA_put (BdA_put (BdA_put hH LR (4 * i) y0) LR (4 * i + 1) y1) LR (4 * i + 2) y2) LR (4 * i + 3) y3
      rw [hset] at hH4
      clear hset hH
      go_upto_region 5 with fail
      go_wp2_with fail
      exact ⟨⟨i + 1, by omega, by go_num, hH4⟩, by simp [intOf]; omega⟩
    · have hi' : i = 8 := by omega
      subst hi'
      have h8 : bytesTo s 8 = s.bytes := by rfl
      rw [h8] at hH
      clear h8
      have hl := (rfl : s.bytes.length = 32)
      obtain ⟨F1, hF1⟩ := hH.head
      have hB := hF1.1
      obtain ⟨F2, hF2⟩ := hH.swap.head
      have hA := hF2.1
      have hH2 := BdA_row (l' := s.bytes) hH.swap (.cons (SmA_loc _ _) (.cons (StA_loc _ _) .nil))
      go_wp2_with (first
        | (refine wpList_load_row rfl _ _ rfl g rfl _ _ _ _ hB Try.underlying66 rfl (smSize rfl) ?_)
        | (refine wpList_store_row rfl _ _ _ rfl r (u8s s.bytes).toArray rfl rfl _ _ hA (smSize rfl) rfl (u8s_oneAll _) ?_))
      obtain ⟨F3, hF3⟩ := hH2.head
      exact bodyPost_ret (v := smV s.bytes) (results_cell_row Try.results87 _ _ _ _ _ _ _ rfl hF3.1 Try.underlying66 rfl (smSize rfl)) rfl ⟨rfl, hH2.base⟩
end Go.Proofs.Ytkkhcpknldlpoaa
