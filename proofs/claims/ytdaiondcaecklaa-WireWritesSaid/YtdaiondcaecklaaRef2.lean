/- The walk of the reference's Number. -/
import Derived.Test.YtdaiondcaecklaaRef1
namespace Go.Proofs.Ytdaiondcaecklaa
set_option linter.unusedVariables false
set_option linter.unusedSimpArgs false
open Go Go.RowKit
/-- a number off a list of bytes: the number, what is left, what went wrong -/
def goL : Nat → Nat → Nat → List UInt8 → Nat × List UInt8 × Int
  | 0, _, _, _ => (0, [], 6)
  | _ + 1, _, _, [] => (0, [], 6)
  | f + 1, k, n, b :: l =>
    if (k = 9 ∧ 1 < b.toNat) ∨ (0 < k ∧ b.toNat = 0) then (0, [], 8)
    else if b.toNat < 128 then (n + b.toNat % 128 * 2 ^ (7 * k), l, 0)
    else goL f (k + 1) (n + b.toNat % 128 * 2 ^ (7 * k)) l
def numL (most : Nat) (l : List UInt8) (c : Int) : Nat × List UInt8 × Int :=
  if c ≠ 0 then (0, [], c) else if (goL 10 0 0 l).2.2 ≠ 0 then (0, [], (goL 10 0 0 l).2.2) else if most < (goL 10 0 0 l).1 then (0, [], 2) else goL 10 0 0 l
def val : List Nat → Nat
  | [] => 0
  | d :: ds => d + 128 * val ds
theorem val_snoc : ∀ (ds : List Nat) (d : Nat), val (ds ++ [d]) = val ds + d * 2 ^ (7 * ds.length)
  | [], d => by simp [val]
  | x :: ds, d => by
    simp only [List.cons_append, val, val_snoc ds d, List.length_cons]
    rw [show 7 * (ds.length + 1) = 7 + 7 * ds.length by omega, Nat.pow_add]
    have : d * (2 ^ 7 * 2 ^ (7 * ds.length)) = 128 * (d * 2 ^ (7 * ds.length)) := by
      rw [← Nat.mul_assoc, Nat.mul_comm d, Nat.mul_assoc]
    rw [this]; omega
theorem val_drop_le : ∀ (ds : List Nat) (i : Nat), val (ds.drop i) ≤ val ds
  | [], i => by simp
  | x :: ds, 0 => by simp
  | x :: ds, i + 1 => by
    have := val_drop_le ds i
    simp only [List.drop_succ_cons, val]; omega
theorem val_at (ds : List Nat) (i : Nat) (hi : i < ds.length) : val (ds.drop i) = ds.getD i 0 + 128 * val (ds.drop (i + 1)) := by
  rw [drop_cons ds 0 i hi]; rfl
theorem goL_succ (f k n : Nat) (b : UInt8) (l : List UInt8) : goL (f + 1) k n (b :: l) = if (k = 9 ∧ 1 < b.toNat) ∨ (0 < k ∧ b.toNat = 0) then (0, [], 8)
    else if b.toNat < 128 then (n + b.toNat % 128 * 2 ^ (7 * k), l, 0)
    else goL f (k + 1) (n + b.toNat % 128 * 2 ^ (7 * k)) l := rfl
def numV (r : Nat × List UInt8 × Int) : Value := .tuple #[.int .u64 r.1, stV r.2.1 r.2.2]
theorem u64Info : (Try.prog.info? 27).map (fun i => (i.zero, i.size, i.bytes)) = some (some (.int .u64 0), 1, 8) := by kernel_rfl
structure NumSt (w : World) (l0 : List UInt8) (v : Value) (wr : World) (ds : List Nat) (l : List UInt8) : Prop where
  ext : Ext w wr
  s : Blk wr w.heap.size 50 #[.string (strOf l), .int .i64 0]
  res : Blk wr (w.heap.size + 1) 50 #[.string ⟨#[]⟩, .int .i64 0]
  own : wr.ownsRow w.heap.size 27 1 v ds.length (ds.map fun (d : Nat) => Value.int .u64 (d : Int))
  k : ds.length ≤ 9
  lt : val ds < 2 ^ (7 * ds.length)
  go : goL 10 0 0 l0 = goL (10 - ds.length) ds.length (val ds) l
  len : l.length ≤ 70368744177664
def NumRel3 (w : World) (l0 : List UInt8) (v : Value) (wr : World) : Prop := ∃ ds l, NumSt w l0 v wr ds l
theorem lit_at (w : World) (o : Obj) (v : Value) (t : TypeId) : ∀ j u, [v][j]? = some u → ((w.alloc o).alloc (.cells #[v] t)).cell? ((⟨w.heap.size + 1, 0, none⟩ : Addr).add j) = some u := by
  have := cell_one_new (w.alloc o) v t
  simp only [World.size_alloc] at this
  exact this
set_option maxRecDepth 100000 in
set_option maxHeartbeats 4000000 in
theorem rnumber_ok (w : World) (l0 : List UInt8) (most : Nat) (hl : l0.length ≤ 70368744177664) (hm : most < 18446744073709551616) : Calls Try.prog 27 #[stV l0 0, .int .u64 most] w fun x w' => x = .returned (numV (numL most l0 0)) ∧ Ext w w' := by
  obtain ⟨i0, hi0, hz0, hz1, hz2⟩ := info_parts u64Info
  unfold stV
  go_enter Try.func27, Try.ntmps27
  go_wp2_with fail
  have hS : NumSt w l0 (.slice none 0 0) ((w.alloc (.cells #[.string (strOf l0), .int .i64 0] 50)).alloc (.cells #[.string ⟨#[]⟩, .int .i64 0] 50)) [] l0 := by
    refine ⟨((Ext.refl w).alloc _).alloc _, (Blk.new _ _ _).alloc _, ?_, World.ownsRow_nil _ _ _ _, by simp, by simp [val], rfl, hl⟩
    have := Blk.new (w.alloc (.cells #[.string (strOf l0), .int .i64 0] 50)) 50 #[.string ⟨#[]⟩, .int .i64 0]
    simp only [World.size_alloc] at this
    exact this
  generalize World.alloc _ _ = W at *
  go_loopw [6] (fun v wr => NumRel3 w l0 v wr) (fun v _ => match v with | .slice _ n _ => 10 - n | _ => 0)
  case atStart => exact ⟨[], l0, hS⟩
  case round =>
    clear hS
    obtain ⟨ds, l, hS⟩ := hrel
    obtain ⟨pd, cd, rfl⟩ := ownsRow_slice hS.own
    have a0 := hS.s.cell 0
    have a1 := hS.s.cell 1
    simp only [List.getElem?_toArray, List.getElem?_cons_zero, List.getElem?_cons_succ] at a0 a1
    have hk := hS.k
    go_wp2_with fail
    have hT := rtake2_any wr l 0 1 hS.len (by omega)
    cases l with
    | nil =>
      have hv : takeV [] 0 1 = .tuple #[.string ⟨#[]⟩, .agg #[.string ⟨#[]⟩, .int .i64 6]] := rfl
      rw [hv] at hT
      refine hT.mono ?_
      rintro x w2 ⟨rfl, hE2⟩
      have hres : numL most l0 0 = (0, [], 6) := by
        unfold numL
        rw [if_neg (by simp), hS.go]
        have : goL (10 - ds.length) ds.length (val ds) [] = (0, [], 6) := by
          rw [show 10 - ds.length = (9 - ds.length) + 1 by omega]; rfl
        rw [this]; rfl
      have HR := Lib.hid hres
      have hB := hS.res.of_eq (hE2.block _ hS.res.lt)
      have hE3 := hS.ext.trans hE2
      have hsl := hS.s.lt
      have hbl := hS.res.lt
      have hww := hE2.le
      clear hT hv hres a0 a1 hS hE2
      go_wp2_with fail
      refine gen_world' (fun X => Ext w X ∧ Blk X (w.heap.size + 1) 50 #[.string ⟨#[]⟩, .int .i64 0] ∧ Blk X w2.heap.size 50 #[.string ⟨#[]⟩, .int .i64 6]) ⟨hE3.alloc _, hB.alloc _, Blk.new _ _ _⟩ ?_
      clear hE3 hB
      rintro W3 ⟨hE3, hB, hC⟩
      have hne : w2.heap.size ≠ w.heap.size + 1 := by omega
      have b0 := hB.cell 0
      have b1 := hB.cell 1
      have f0 := hB.frozen 0
      have f1 := hB.frozen 1
      have d0 := hC.cell 0
      have d1 := hC.cell 1
      simp only [List.getElem?_toArray, List.getElem?_cons_zero, List.getElem?_cons_succ] at b0 b1 d0 d1
      have q0 : ∀ x : Of (fun X => Tch (fun k => k = w.heap.size + 1) W3 X), x.val.cell? ⟨w2.heap.size, 0, none⟩ = some (.string ⟨#[]⟩) := fun x => x.property.cell d0 hC.lt hne
      have q1 : ∀ x : Of (fun X => Tch (fun k => k = w.heap.size + 1) W3 X), x.val.cell? ⟨w2.heap.size, 1, none⟩ = some (.int .i64 6) := fun x => x.property.cell d1 hC.lt hne
      have hFd := (show Tch (fun k => k = w.heap.size + 1) W3 W3.drew from (Tch.refl _ _).drew)
      have hne_ : Nonempty (Of (fun X => Tch (fun k => k = w.heap.size + 1) W3 X)) := ⟨⟨_, hFd⟩⟩
      refine region_steps [0,1,2] [true,true,false] (fun X => Tch (fun k => k = w.heap.size + 1) W3 X) (by kernel_rfl) (by kernel_rfl) hFd ?_
      simp only [List.filterMap_cons, List.filterMap_nil, List.getElem?_cons_zero, List.getElem?_cons_succ]
      refine steps_quiet 2 (by kernel_rfl) ?_
      simp only [List.take_succ_cons, List.take_zero, List.drop_succ_cons, List.drop_zero]
      repeat (go_big_quiet_step (fail))
      refine wpQuiet_nil ?_
      refine steps_want rfl (fun K hK => ?_)
      go_simp
      refine hK _ _ (fun X => Tch (fun k => k = w.heap.size + 1) W3 X) ?_ (fun _ h => h) ?_
      · (repeat first
          | exact Tch.refl _ _
          | (fail)
          | refine Tch.drewN ?_ _
          | refine Tch.drew ?_
          | refine Tch.alloc ?_ _
          | refine Tch.setCell ?_ (by intro _; first | rfl | (simp; done) | omega) _)
      clear hK K q0 q1
      refine steps_nil ?_
      go_wp2_with fail
      refine bodyPost_ret (v := .tuple #[.int .u64 0, .agg #[.string ⟨#[]⟩, .int .i64 6]]) (by simp [results, Try.results27, go_sem, b0, b1, f0, f1]) rfl ⟨by rw [HR.out]; rfl, ?_⟩
      (repeat first
        | exact Ext.refl _
        | exact ext_alloc _ _
        | (exact hE3)
        | refine Ext.drewN ?_ _
        | refine Ext.drew ?_
        | refine Ext.alloc ?_ _
        | refine Ext.setCell ?_ (by first | (simp; done) | (simp; omega) | omega) _)
    | cons b l =>
      have hv : takeV (b :: l) 0 1 = .tuple #[.string ⟨#[b]⟩, .agg #[.string (strOf l), .int .i64 0]] := by
        unfold takeV; rw [if_pos rfl, if_pos (by simp)]; rfl
      rw [hv] at hT
      refine hT.mono ?_
      rintro x w2 ⟨rfl, hE2⟩
      have hgo := hS.go
      rw [show 10 - ds.length = (9 - ds.length) + 1 by omega, goL_succ] at hgo
      have hx := UInt8.toNat_lt b
      have HG := Lib.hid hgo
      have hA := hS.s.of_eq (hE2.block _ hS.s.lt)
      have hB := hS.res.of_eq (hE2.block _ hS.res.lt)
      have hown := ownsRow_ext hS.own hE2
      have hE3 := hS.ext.trans hE2
      have hsl := hS.s.lt
      have hbl := hS.res.lt
      have hww := hE2.le
      have hlt := hS.lt
      have hlen := hS.len
      have hgt : ((⟨#[b]⟩ : ByteArray)[0]'(show 0 < 1 from Nat.zero_lt_one)).toNat = b.toNat := rfl
      have a0 := hA.cell 0
      have a1 := hA.cell 1
      simp only [List.getElem?_toArray, List.getElem?_cons_zero, List.getElem?_cons_succ] at a0 a1
      generalize hxx : b.toNat = x at *
      have HXX := Lib.hid hxx
      clear hT hv hS hE2 hgo hxx
      by_cases hbad : (ds.length = 9 ∧ 1 < x) ∨ (0 < ds.length ∧ x = 0)
      · have hres : numL most l0 0 = (0, [], 8) := by
          have hgo := HG.out
          rw [if_pos hbad] at hgo
          unfold numL; rw [if_neg (by simp), hgo]; rfl
        have HR := Lib.hid hres
        have hB5 := hB.alloc (.cells #[.string (strOf l), .int .i64 0] 50)
        have hE5 := hE3.alloc (.cells #[.string (strOf l), .int .i64 0] 50)
        have hA5 := hA.alloc (.cells #[.string (strOf l), .int .i64 0] 50)
        have a50 := hA5.cell 0
        have a51 := hA5.cell 1
        simp only [List.getElem?_toArray, List.getElem?_cons_zero, List.getElem?_cons_succ] at a50 a51
        clear hres hB hE3
        by_cases hb1 : ds.length = 9 ∧ 1 < x
        · obtain ⟨hk9, hx1⟩ := hb1
          have f1 : ((ds.length : Int) == 9) = true := by simp; omega
          have f2 : (1 : Int) < x := by omega
          have HK := Lib.hid hk9
          clear hk9 hbad
          go_wp2_with fail
          refine (rfail2_any _ _ 0 8).mono ?_
          rintro x6 w6 ⟨rfl, hE6⟩
          rw [if_pos rfl]
          unfold stV
          rw [strOf_nil]
          have hE7 := hE5.trans hE6
          have hB6 := hB5.of_eq (hE6.block _ hB5.lt)
          have b0 := hB6.cell 0
          have b1 := hB6.cell 1
          have f0 := hB6.frozen 0
          have f1 := hB6.frozen 1
          simp only [List.getElem?_toArray, List.getElem?_cons_zero, List.getElem?_cons_succ] at b0 b1
          clear hE6 hE5 hB5
          go_wp2_with fail
          refine bodyPost_ret (v := .tuple #[.int .u64 0, .agg #[.string ⟨#[]⟩, .int .i64 8]]) (by simp [results, Try.results27, go_sem, b0, b1, f0, f1]) rfl ⟨by rw [HR.out]; rfl, ?_⟩
          (repeat first
            | exact Ext.refl _
            | exact ext_alloc _ _
            | (exact hE7)
            | refine Ext.drewN ?_ _
            | refine Ext.drew ?_
            | refine Ext.alloc ?_ _
            | refine Ext.setCell ?_ (by first | (simp; done) | (simp; omega) | omega) _)
        · have hb2 : 0 < ds.length ∧ x = 0 := hbad.resolve_left hb1
          obtain ⟨hk0, hx0⟩ := hb2
          subst hx0
          have f3 : 0 < (ds.length : Int) := by omega
          by_cases hk9 : ds.length = 9
          · have f1 : ((ds.length : Int) == 9) = true := by simp; omega
            have HK := Lib.hid hk9
            clear hk9 hbad hb1
            go_wp2_with fail
            refine (rfail2_any _ _ 0 8).mono ?_
            rintro x6 w6 ⟨rfl, hE6⟩
            rw [if_pos rfl]
            unfold stV
            rw [strOf_nil]
            have hE7 := hE5.trans hE6
            have hB6 := hB5.of_eq (hE6.block _ hB5.lt)
            have b0 := hB6.cell 0
            have b1 := hB6.cell 1
            have f0 := hB6.frozen 0
            have f1 := hB6.frozen 1
            simp only [List.getElem?_toArray, List.getElem?_cons_zero, List.getElem?_cons_succ] at b0 b1
            clear hE6 hE5 hB5
            go_wp2_with fail
            refine bodyPost_ret (v := .tuple #[.int .u64 0, .agg #[.string ⟨#[]⟩, .int .i64 8]]) (by simp [results, Try.results27, go_sem, b0, b1, f0, f1]) rfl ⟨by rw [HR.out]; rfl, ?_⟩
            (repeat first
              | exact Ext.refl _
              | exact ext_alloc _ _
              | (exact hE7)
              | refine Ext.drewN ?_ _
              | refine Ext.drew ?_
              | refine Ext.alloc ?_ _
              | refine Ext.setCell ?_ (by first | (simp; done) | (simp; omega) | omega) _)
          · have f1 : ((ds.length : Int) == 9) = false := by simp; omega
            clear hk9 hbad hb1
            go_wp2_with fail
            refine (rfail2_any _ _ 0 8).mono ?_
            rintro x6 w6 ⟨rfl, hE6⟩
            rw [if_pos rfl]
            unfold stV
            rw [strOf_nil]
            have hE7 := hE5.trans hE6
            have hB6 := hB5.of_eq (hE6.block _ hB5.lt)
            have b0 := hB6.cell 0
            have b1 := hB6.cell 1
            have f0 := hB6.frozen 0
            have f1 := hB6.frozen 1
            simp only [List.getElem?_toArray, List.getElem?_cons_zero, List.getElem?_cons_succ] at b0 b1
            clear hE6 hE5 hB5
            go_wp2_with fail
            refine bodyPost_ret (v := .tuple #[.int .u64 0, .agg #[.string ⟨#[]⟩, .int .i64 8]]) (by simp [results, Try.results27, go_sem, b0, b1, f0, f1]) rfl ⟨by rw [HR.out]; rfl, ?_⟩
            (repeat first
              | exact Ext.refl _
              | exact ext_alloc _ _
              | (exact hE7)
              | refine Ext.drewN ?_ _
              | refine Ext.drew ?_
              | refine Ext.alloc ?_ _
              | refine Ext.setCell ?_ (by first | (simp; done) | (simp; omega) | omega) _)
      · by_cases hx128 : x < 128
        · have hm1 : ds.length + 1 ≤ maxLen := by unfold maxLen; omega
          have hm2 : (ds.length + 1) * 8 ≤ 140737488355328 := by omega
          have hm3 : w.heap.size ≤ ((w2.alloc (.cells #[.string (strOf l), .int .i64 0] 50)).alloc (.cells #[.int .u64 ((x : Int) % 128)] 27)).heap.size := by have := hE3.le; simp; omega
          by_cases hk9 : ds.length = 9
          · have f1 : ((ds.length : Int) == 9) = true := by simp; omega
            have f2 : ¬ (1 : Int) < x := by
              have : ¬ 1 < x := fun h1 => hbad (Or.inl ⟨hk9, h1⟩)
              omega
            have f3 : 0 < (ds.length : Int) := by omega
            have f4 : ((x : Int) == 0) = false := by
              have : x ≠ 0 := fun h1 => hbad (Or.inr ⟨by omega, h1⟩)
              simp; omega
            have HK := Lib.hid hk9
            have HBad := Lib.hid hbad
            clear hk9 hbad
            go_wp2_with (at_builtin; refine wpList_append_own _ rfl _ _ 73 rfl w.heap.size 27 i0 (.int .u64 0) 1 8 Try.underlying73 hi0 hz0 hz1 hz2 rfl (by decide) _ _ _ rfl ((hown.alloc _).alloc _) ⟨w2.heap.size + 1, 0, none⟩ 1 1 [.int .u64 (x % 128)] rfl rfl (lit_at _ _ _ _) (oneC1 _ _) hm1 hm2 hm3 ?_)
            intro v' w4 hown4 hg4 _
            obtain ⟨pd4, cd4, rfl⟩ := ownsRow_slice hown4
            have hC0 : Blk (w2.alloc (.cells #[.string (strOf l), .int .i64 0] 50)) w2.heap.size 50 #[.string (strOf l), .int .i64 0] := Blk.new _ _ _
            have hA4 := ((hA.alloc (.cells #[.string (strOf l), .int .i64 0] 50)).alloc (.cells #[.int .u64 (x % 128)] 27)).of_eq (hg4.block _ (by simp; omega) (fun e => row_ne hA (by decide) hown e.symm))
            have hB4 := ((hB.alloc (.cells #[.string (strOf l), .int .i64 0] 50)).alloc (.cells #[.int .u64 (x % 128)] 27)).of_eq (hg4.block _ (by simp; omega) (fun e => row_ne hB (by decide) hown e.symm))
            have hC4 := (hC0.alloc (.cells #[.int .u64 (x % 128)] 27)).of_eq (hg4.block _ (by simp; omega) (fun e => by have := (hown.lt _ e.symm).2; omega))
            have hE4 : Ext w w4 := (((hE3.alloc _).alloc _).below).grown hg4 (by have := hE3.le; simp; omega) (fun k hk => (hown.lt k hk).1)
            have a40 := hA4.cell 0
            have a41 := hA4.cell 1
            have g40 := hA4.frozen 0
            have g41 := hA4.frozen 1
            have c40 := hC4.cell 0
            have c41 := hC4.cell 1
            simp only [List.getElem?_toArray, List.getElem?_cons_zero, List.getElem?_cons_succ] at a40 a41 c40 c41
            have hr4 := row_ne hA4 (by decide) hown4
            clear hg4 hC0 hA hB hown a0 a1
            go_wp2_with fail
            have hA5 := (hA4.set_ 0 (.string (strOf l))).set_ 1 (.int .i64 0)
            have hB5 := (hB4.far (p := ⟨w.heap.size, 0, none⟩) (by show w.heap.size + 1 ≠ w.heap.size; omega) (.string (strOf l))).far (p := ⟨w.heap.size, 1, none⟩) (by show w.heap.size + 1 ≠ w.heap.size; omega) (.int .i64 0)
            have hE5 := (hE4.setCell (p := ⟨w.heap.size, 0, none⟩) (Nat.le_refl _) (.string (strOf l))).setCell (p := ⟨w.heap.size, 1, none⟩) (Nat.le_refl _) (.int .i64 0)
            have hown5 : ((w4.setCell ⟨w.heap.size, 0, none⟩ (.string (strOf l))).setCell ⟨w.heap.size, 1, none⟩ (.int .i64 0)).ownsRow w.heap.size 27 1 (.slice pd4 (ds.length + 1) cd4) (ds.length + 1) ((ds.map fun (d : Nat) => Value.int .u64 (d : Int)) ++ [.int .u64 ((x : Int) % 128)]) :=
              ownsRow_same hown4 fun k hk => (Below.heap_setCell _ _ _ _ (fun e => hr4 (by rw [hk, e]))).trans (Below.heap_setCell _ _ _ _ (fun e => hr4 (by rw [hk, e])))
            simp at hA5
            generalize World.setCell (World.setCell _ _ _) _ _ = w5 at *
            clear hA4 hB4 hC4 hE4 hown4 hr4 a40 a41 g40 g41 c40 c41
            have hgo := HG.out
            rw [if_neg HBad.out, if_pos hx128] at hgo
            have hvs := val_snoc ds (x % 128)
            rw [← hvs] at hgo
            have hv64 : val (ds ++ [x % 128]) < 18446744073709551616 := by
              rw [hvs]
              refine sum_lt ds.length (val ds) x (by omega) hlt ?_
              rcases Nat.lt_or_ge ds.length 9 with h | h
              · exact Or.inl (by omega)
              · refine Or.inr ?_
                have : ¬ 1 < x := fun h1 => HBad.out (Or.inl ⟨by omega, h1⟩)
                omega
            have hL : (ds ++ [x % 128]).length = ds.length + 1 := by simp
            have hown6 : w5.ownsRow w.heap.size 27 1 (.slice pd4 (ds.length + 1) cd4) (ds.length + 1) ((ds ++ [x % 128]).map fun (d : Nat) => Value.int .u64 (d : Int)) := by simpa using hown5
            have hnum : goL 10 0 0 l0 = (val (ds ++ [x % 128]), l, 0) := hgo
            have HL := Lib.hid hL
            have HNU := Lib.hid hnum
            have hL10 : ds.length ≤ 9 := hk
            generalize ds ++ [x % 128] = es at *
            clear hown5 hgo hvs hL hnum
            go_loop [10, 11] (fun n i => ∃ (j : Nat) (i' : Int), j ≤ ds.length + 1 ∧ i' = (j : Int) - 1 ∧ i = .int .i64 i' ∧ n = .int .u64 (val (es.drop j) : Nat)) (fun _ i => (intOf i + 1).toNat)
            case atStart => exact ⟨ds.length + 1, ds.length, by omega, by omega, by simp, by rw [← HL.out, List.drop_length]; rfl⟩
            case round =>
              obtain ⟨j, i', hj, hi', rfl, rfl⟩ := hrel
              cases j with
              | zero =>
                have hi1 : i' = -1 := by omega
                subst hi1
                rw [List.drop_zero]
                by_cases hmost : most < val es
                · have hres : numL most l0 0 = (0, [], 2) := by
                    unfold numL; rw [if_neg (by simp), HNU.out, if_neg (by simp), if_pos hmost]
                  have HR := Lib.hid hres
                  generalize val es = vn at *
                  have c0 := hA5.cell 0
                  have c1 := hA5.cell 1
                  simp only [List.getElem?_toArray, List.getElem?_cons_zero, List.getElem?_cons_succ] at c0 c1
                  clear hres hi' hj hown6
                  go_wp2_with fail
                  refine (rfail2_any _ _ 0 2).mono ?_
                  rintro x6 w6 ⟨rfl, hE6⟩
                  rw [if_pos rfl]
                  unfold stV
                  rw [strOf_nil]
                  have hE7 := hE5.trans hE6
                  have hB6 := hB5.of_eq (hE6.block _ hB5.lt)
                  have b0 := hB6.cell 0
                  have b1 := hB6.cell 1
                  have f0 := hB6.frozen 0
                  have f1 := hB6.frozen 1
                  simp only [List.getElem?_toArray, List.getElem?_cons_zero, List.getElem?_cons_succ] at b0 b1
                  clear hE6 hE5 hB5
                  go_wp2_with fail
                  refine bodyPost_ret (v := .tuple #[.int .u64 0, .agg #[.string ⟨#[]⟩, .int .i64 2]]) (by simp [results, Try.results27, go_sem, b0, b1, f0, f1]) rfl ⟨by rw [HR.out]; rfl, ?_⟩
                  (repeat first
                    | exact Ext.refl _
                    | exact ext_alloc _ _
                    | (exact hE7)
                    | refine Ext.drewN ?_ _
                    | refine Ext.drew ?_
                    | refine Ext.alloc ?_ _
                    | refine Ext.setCell ?_ (by first | (simp; done) | (simp; omega) | omega) _)
                · have hres : numL most l0 0 = (val es, l, 0) := by
                    unfold numL; rw [if_neg (by simp), HNU.out, if_neg (by simp), if_neg hmost]
                  have HR := Lib.hid hres
                  generalize val es = vn at *
                  clear hres hi' hj hown6
                  go_wp2_with fail
                  refine gen_world' (fun X => X = w5) rfl ?_
                  rintro W3 rfl
                  have hne : w.heap.size ≠ w.heap.size + 1 := by omega
                  have hB := hB5
                  have hC := hA5
                  have hE3 := hE5
                  have b0 := hB.cell 0
                  have b1 := hB.cell 1
                  have f0 := hB.frozen 0
                  have f1 := hB.frozen 1
                  have d0 := hC.cell 0
                  have d1 := hC.cell 1
                  simp only [List.getElem?_toArray, List.getElem?_cons_zero, List.getElem?_cons_succ] at b0 b1 d0 d1
                  have q0 : ∀ x : Of (fun X => Tch (fun k => k = w.heap.size + 1) W3 X), x.val.cell? ⟨w.heap.size, 0, none⟩ = some (.string (strOf l)) := fun x => x.property.cell d0 hC.lt hne
                  have q1 : ∀ x : Of (fun X => Tch (fun k => k = w.heap.size + 1) W3 X), x.val.cell? ⟨w.heap.size, 1, none⟩ = some (.int .i64 0) := fun x => x.property.cell d1 hC.lt hne
                  clear hB5 hA5 hE5
                  have hFd := (show Tch (fun k => k = w.heap.size + 1) W3 W3.drew from (Tch.refl _ _).drew)
                  have hne_ : Nonempty (Of (fun X => Tch (fun k => k = w.heap.size + 1) W3 X)) := ⟨⟨_, hFd⟩⟩
                  refine region_steps [0,1,2,3] [true,true,true,false] (fun X => Tch (fun k => k = w.heap.size + 1) W3 X) (by kernel_rfl) (by kernel_rfl) hFd ?_
                  simp only [List.filterMap_cons, List.filterMap_nil, List.getElem?_cons_zero, List.getElem?_cons_succ]
                  refine steps_quiet 3 (by kernel_rfl) ?_
                  simp only [List.take_succ_cons, List.take_zero, List.drop_succ_cons, List.drop_zero]
                  repeat (go_big_quiet_step (fail))
                  refine wpQuiet_nil ?_
                  refine steps_want rfl (fun K hK => ?_)
                  go_simp
                  refine hK _ _ (fun X => Tch (fun k => k = w.heap.size + 1) W3 X) ?_ (fun _ h => h) ?_
                  · (repeat first
                      | exact Tch.refl _ _
                      | (fail)
                      | refine Tch.drewN ?_ _
                      | refine Tch.drew ?_
                      | refine Tch.alloc ?_ _
                      | refine Tch.setCell ?_ (by intro _; first | rfl | (simp; done) | omega) _)
                  clear hK K q0 q1
                  refine steps_nil ?_
                  go_wp2_with fail
                  refine bodyPost_ret (v := .tuple #[.int .u64 (vn : Int), .agg #[.string (strOf l), .int .i64 0]]) (by simp [results, Try.results27, go_sem, b0, b1, f0, f1]) rfl ⟨by rw [HR.out]; rfl, ?_⟩
                  (repeat first
                    | exact Ext.refl _
                    | exact ext_alloc _ _
                    | (exact hE3)
                    | refine Ext.drewN ?_ _
                    | refine Ext.drew ?_
                    | refine Ext.alloc ?_ _
                    | refine Ext.setCell ?_ (by first | (simp; done) | (simp; omega) | omega) _)
              | succ j =>
                have hi1 : i' = (j : Int) := by omega
                subst hi1
                have hva := val_at es j (by rw [HL.out]; omega)
                have hvl := val_drop_le es j
                obtain ⟨a, rfl, hcell⟩ := ownsRow_cell hown6 j (by omega)
                have hxd : ((es.map fun (d : Nat) => Value.int .u64 (d : Int)).getD j (.int .i64 0)) = .int .u64 (es.getD j 0 : Nat) := by
                  rw [List.getD_eq_getElem?_getD, List.getD_eq_getElem?_getD, List.getElem?_map, List.getElem?_eq_getElem (by rw [HL.out]; omega)]; rfl
                rw [hxd] at hcell
                have HV := Lib.hid hva
                have hbd : es.getD j 0 + 128 * val (es.drop (j + 1)) < 18446744073709551616 := by omega
                clear hxd hva hvl hown6 hi'
                generalize es.getD j 0 = d at *
                generalize val (es.drop (j + 1)) = vd at *
                go_wp2_with fail
                go_round
                case rel => exact ⟨j, (j : Int) - 1, by omega, rfl, rfl, by rw [HV.out]; first | done | (congr 1; omega)⟩
                case measure => (simp [intOf]; try omega)
          · by_cases hk0 : ds.length = 0
            · have f1 : ((ds.length : Int) == 9) = false := by simp; omega
              have f3 : ¬ 0 < (ds.length : Int) := by omega
              have HK := Lib.hid hk0
              have HBad := Lib.hid hbad
              clear hk9 hk0 hbad
              go_wp2_with (at_builtin; refine wpList_append_own _ rfl _ _ 73 rfl w.heap.size 27 i0 (.int .u64 0) 1 8 Try.underlying73 hi0 hz0 hz1 hz2 rfl (by decide) _ _ _ rfl ((hown.alloc _).alloc _) ⟨w2.heap.size + 1, 0, none⟩ 1 1 [.int .u64 (x % 128)] rfl rfl (lit_at _ _ _ _) (oneC1 _ _) hm1 hm2 hm3 ?_)
              intro v' w4 hown4 hg4 _
              obtain ⟨pd4, cd4, rfl⟩ := ownsRow_slice hown4
              have hC0 : Blk (w2.alloc (.cells #[.string (strOf l), .int .i64 0] 50)) w2.heap.size 50 #[.string (strOf l), .int .i64 0] := Blk.new _ _ _
              have hA4 := ((hA.alloc (.cells #[.string (strOf l), .int .i64 0] 50)).alloc (.cells #[.int .u64 (x % 128)] 27)).of_eq (hg4.block _ (by simp; omega) (fun e => row_ne hA (by decide) hown e.symm))
              have hB4 := ((hB.alloc (.cells #[.string (strOf l), .int .i64 0] 50)).alloc (.cells #[.int .u64 (x % 128)] 27)).of_eq (hg4.block _ (by simp; omega) (fun e => row_ne hB (by decide) hown e.symm))
              have hC4 := (hC0.alloc (.cells #[.int .u64 (x % 128)] 27)).of_eq (hg4.block _ (by simp; omega) (fun e => by have := (hown.lt _ e.symm).2; omega))
              have hE4 : Ext w w4 := (((hE3.alloc _).alloc _).below).grown hg4 (by have := hE3.le; simp; omega) (fun k hk => (hown.lt k hk).1)
              have a40 := hA4.cell 0
              have a41 := hA4.cell 1
              have g40 := hA4.frozen 0
              have g41 := hA4.frozen 1
              have c40 := hC4.cell 0
              have c41 := hC4.cell 1
              simp only [List.getElem?_toArray, List.getElem?_cons_zero, List.getElem?_cons_succ] at a40 a41 c40 c41
              have hr4 := row_ne hA4 (by decide) hown4
              clear hg4 hC0 hA hB hown a0 a1
              go_wp2_with fail
              have hA5 := (hA4.set_ 0 (.string (strOf l))).set_ 1 (.int .i64 0)
              have hB5 := (hB4.far (p := ⟨w.heap.size, 0, none⟩) (by show w.heap.size + 1 ≠ w.heap.size; omega) (.string (strOf l))).far (p := ⟨w.heap.size, 1, none⟩) (by show w.heap.size + 1 ≠ w.heap.size; omega) (.int .i64 0)
              have hE5 := (hE4.setCell (p := ⟨w.heap.size, 0, none⟩) (Nat.le_refl _) (.string (strOf l))).setCell (p := ⟨w.heap.size, 1, none⟩) (Nat.le_refl _) (.int .i64 0)
              have hown5 : ((w4.setCell ⟨w.heap.size, 0, none⟩ (.string (strOf l))).setCell ⟨w.heap.size, 1, none⟩ (.int .i64 0)).ownsRow w.heap.size 27 1 (.slice pd4 (ds.length + 1) cd4) (ds.length + 1) ((ds.map fun (d : Nat) => Value.int .u64 (d : Int)) ++ [.int .u64 ((x : Int) % 128)]) :=
                ownsRow_same hown4 fun k hk => (Below.heap_setCell _ _ _ _ (fun e => hr4 (by rw [hk, e]))).trans (Below.heap_setCell _ _ _ _ (fun e => hr4 (by rw [hk, e])))
              simp at hA5
              generalize World.setCell (World.setCell _ _ _) _ _ = w5 at *
              clear hA4 hB4 hC4 hE4 hown4 hr4 a40 a41 g40 g41 c40 c41
              have hgo := HG.out
              rw [if_neg HBad.out, if_pos hx128] at hgo
              have hvs := val_snoc ds (x % 128)
              rw [← hvs] at hgo
              have hv64 : val (ds ++ [x % 128]) < 18446744073709551616 := by
                rw [hvs]
                refine sum_lt ds.length (val ds) x (by omega) hlt ?_
                rcases Nat.lt_or_ge ds.length 9 with h | h
                · exact Or.inl (by omega)
                · refine Or.inr ?_
                  have : ¬ 1 < x := fun h1 => HBad.out (Or.inl ⟨by omega, h1⟩)
                  omega
              have hL : (ds ++ [x % 128]).length = ds.length + 1 := by simp
              have hown6 : w5.ownsRow w.heap.size 27 1 (.slice pd4 (ds.length + 1) cd4) (ds.length + 1) ((ds ++ [x % 128]).map fun (d : Nat) => Value.int .u64 (d : Int)) := by simpa using hown5
              have hnum : goL 10 0 0 l0 = (val (ds ++ [x % 128]), l, 0) := hgo
              have HL := Lib.hid hL
              have HNU := Lib.hid hnum
              have hL10 : ds.length ≤ 9 := hk
              generalize ds ++ [x % 128] = es at *
              clear hown5 hgo hvs hL hnum
              go_loop [10, 11] (fun n i => ∃ (j : Nat) (i' : Int), j ≤ ds.length + 1 ∧ i' = (j : Int) - 1 ∧ i = .int .i64 i' ∧ n = .int .u64 (val (es.drop j) : Nat)) (fun _ i => (intOf i + 1).toNat)
              case atStart => exact ⟨ds.length + 1, ds.length, by omega, by omega, by simp, by rw [← HL.out, List.drop_length]; rfl⟩
              case round =>
                obtain ⟨j, i', hj, hi', rfl, rfl⟩ := hrel
                cases j with
                | zero =>
                  have hi1 : i' = -1 := by omega
                  subst hi1
                  rw [List.drop_zero]
                  by_cases hmost : most < val es
                  · have hres : numL most l0 0 = (0, [], 2) := by
                      unfold numL; rw [if_neg (by simp), HNU.out, if_neg (by simp), if_pos hmost]
                    have HR := Lib.hid hres
                    generalize val es = vn at *
                    have c0 := hA5.cell 0
                    have c1 := hA5.cell 1
                    simp only [List.getElem?_toArray, List.getElem?_cons_zero, List.getElem?_cons_succ] at c0 c1
                    clear hres hi' hj hown6
                    go_wp2_with fail
                    refine (rfail2_any _ _ 0 2).mono ?_
                    rintro x6 w6 ⟨rfl, hE6⟩
                    rw [if_pos rfl]
                    unfold stV
                    rw [strOf_nil]
                    have hE7 := hE5.trans hE6
                    have hB6 := hB5.of_eq (hE6.block _ hB5.lt)
                    have b0 := hB6.cell 0
                    have b1 := hB6.cell 1
                    have f0 := hB6.frozen 0
                    have f1 := hB6.frozen 1
                    simp only [List.getElem?_toArray, List.getElem?_cons_zero, List.getElem?_cons_succ] at b0 b1
                    clear hE6 hE5 hB5
                    go_wp2_with fail
                    refine bodyPost_ret (v := .tuple #[.int .u64 0, .agg #[.string ⟨#[]⟩, .int .i64 2]]) (by simp [results, Try.results27, go_sem, b0, b1, f0, f1]) rfl ⟨by rw [HR.out]; rfl, ?_⟩
                    (repeat first
                      | exact Ext.refl _
                      | exact ext_alloc _ _
                      | (exact hE7)
                      | refine Ext.drewN ?_ _
                      | refine Ext.drew ?_
                      | refine Ext.alloc ?_ _
                      | refine Ext.setCell ?_ (by first | (simp; done) | (simp; omega) | omega) _)
                  · have hres : numL most l0 0 = (val es, l, 0) := by
                      unfold numL; rw [if_neg (by simp), HNU.out, if_neg (by simp), if_neg hmost]
                    have HR := Lib.hid hres
                    generalize val es = vn at *
                    clear hres hi' hj hown6
                    go_wp2_with fail
                    refine gen_world' (fun X => X = w5) rfl ?_
                    rintro W3 rfl
                    have hne : w.heap.size ≠ w.heap.size + 1 := by omega
                    have hB := hB5
                    have hC := hA5
                    have hE3 := hE5
                    have b0 := hB.cell 0
                    have b1 := hB.cell 1
                    have f0 := hB.frozen 0
                    have f1 := hB.frozen 1
                    have d0 := hC.cell 0
                    have d1 := hC.cell 1
                    simp only [List.getElem?_toArray, List.getElem?_cons_zero, List.getElem?_cons_succ] at b0 b1 d0 d1
                    have q0 : ∀ x : Of (fun X => Tch (fun k => k = w.heap.size + 1) W3 X), x.val.cell? ⟨w.heap.size, 0, none⟩ = some (.string (strOf l)) := fun x => x.property.cell d0 hC.lt hne
                    have q1 : ∀ x : Of (fun X => Tch (fun k => k = w.heap.size + 1) W3 X), x.val.cell? ⟨w.heap.size, 1, none⟩ = some (.int .i64 0) := fun x => x.property.cell d1 hC.lt hne
                    clear hB5 hA5 hE5
                    have hFd := (show Tch (fun k => k = w.heap.size + 1) W3 W3.drew from (Tch.refl _ _).drew)
                    have hne_ : Nonempty (Of (fun X => Tch (fun k => k = w.heap.size + 1) W3 X)) := ⟨⟨_, hFd⟩⟩
                    refine region_steps [0,1,2,3] [true,true,true,false] (fun X => Tch (fun k => k = w.heap.size + 1) W3 X) (by kernel_rfl) (by kernel_rfl) hFd ?_
                    simp only [List.filterMap_cons, List.filterMap_nil, List.getElem?_cons_zero, List.getElem?_cons_succ]
                    refine steps_quiet 3 (by kernel_rfl) ?_
                    simp only [List.take_succ_cons, List.take_zero, List.drop_succ_cons, List.drop_zero]
                    repeat (go_big_quiet_step (fail))
                    refine wpQuiet_nil ?_
                    refine steps_want rfl (fun K hK => ?_)
                    go_simp
                    refine hK _ _ (fun X => Tch (fun k => k = w.heap.size + 1) W3 X) ?_ (fun _ h => h) ?_
                    · (repeat first
                        | exact Tch.refl _ _
                        | (fail)
                        | refine Tch.drewN ?_ _
                        | refine Tch.drew ?_
                        | refine Tch.alloc ?_ _
                        | refine Tch.setCell ?_ (by intro _; first | rfl | (simp; done) | omega) _)
                    clear hK K q0 q1
                    refine steps_nil ?_
                    go_wp2_with fail
                    refine bodyPost_ret (v := .tuple #[.int .u64 (vn : Int), .agg #[.string (strOf l), .int .i64 0]]) (by simp [results, Try.results27, go_sem, b0, b1, f0, f1]) rfl ⟨by rw [HR.out]; rfl, ?_⟩
                    (repeat first
                      | exact Ext.refl _
                      | exact ext_alloc _ _
                      | (exact hE3)
                      | refine Ext.drewN ?_ _
                      | refine Ext.drew ?_
                      | refine Ext.alloc ?_ _
                      | refine Ext.setCell ?_ (by first | (simp; done) | (simp; omega) | omega) _)
                | succ j =>
                  have hi1 : i' = (j : Int) := by omega
                  subst hi1
                  have hva := val_at es j (by rw [HL.out]; omega)
                  have hvl := val_drop_le es j
                  obtain ⟨a, rfl, hcell⟩ := ownsRow_cell hown6 j (by omega)
                  have hxd : ((es.map fun (d : Nat) => Value.int .u64 (d : Int)).getD j (.int .i64 0)) = .int .u64 (es.getD j 0 : Nat) := by
                    rw [List.getD_eq_getElem?_getD, List.getD_eq_getElem?_getD, List.getElem?_map, List.getElem?_eq_getElem (by rw [HL.out]; omega)]; rfl
                  rw [hxd] at hcell
                  have HV := Lib.hid hva
                  have hbd : es.getD j 0 + 128 * val (es.drop (j + 1)) < 18446744073709551616 := by omega
                  clear hxd hva hvl hown6 hi'
                  generalize es.getD j 0 = d at *
                  generalize val (es.drop (j + 1)) = vd at *
                  go_wp2_with fail
                  go_round
                  case rel => exact ⟨j, (j : Int) - 1, by omega, rfl, rfl, by rw [HV.out]; first | done | (congr 1; omega)⟩
                  case measure => (simp [intOf]; try omega)
            · have f1 : ((ds.length : Int) == 9) = false := by simp; omega
              have f3 : 0 < (ds.length : Int) := by omega
              have f4 : ((x : Int) == 0) = false := by
                have : x ≠ 0 := fun h1 => hbad (Or.inr ⟨by omega, h1⟩)
                simp; omega
              have HBad := Lib.hid hbad
              clear hk9 hk0 hbad
              go_wp2_with (at_builtin; refine wpList_append_own _ rfl _ _ 73 rfl w.heap.size 27 i0 (.int .u64 0) 1 8 Try.underlying73 hi0 hz0 hz1 hz2 rfl (by decide) _ _ _ rfl ((hown.alloc _).alloc _) ⟨w2.heap.size + 1, 0, none⟩ 1 1 [.int .u64 (x % 128)] rfl rfl (lit_at _ _ _ _) (oneC1 _ _) hm1 hm2 hm3 ?_)
              intro v' w4 hown4 hg4 _
              obtain ⟨pd4, cd4, rfl⟩ := ownsRow_slice hown4
              have hC0 : Blk (w2.alloc (.cells #[.string (strOf l), .int .i64 0] 50)) w2.heap.size 50 #[.string (strOf l), .int .i64 0] := Blk.new _ _ _
              have hA4 := ((hA.alloc (.cells #[.string (strOf l), .int .i64 0] 50)).alloc (.cells #[.int .u64 (x % 128)] 27)).of_eq (hg4.block _ (by simp; omega) (fun e => row_ne hA (by decide) hown e.symm))
              have hB4 := ((hB.alloc (.cells #[.string (strOf l), .int .i64 0] 50)).alloc (.cells #[.int .u64 (x % 128)] 27)).of_eq (hg4.block _ (by simp; omega) (fun e => row_ne hB (by decide) hown e.symm))
              have hC4 := (hC0.alloc (.cells #[.int .u64 (x % 128)] 27)).of_eq (hg4.block _ (by simp; omega) (fun e => by have := (hown.lt _ e.symm).2; omega))
              have hE4 : Ext w w4 := (((hE3.alloc _).alloc _).below).grown hg4 (by have := hE3.le; simp; omega) (fun k hk => (hown.lt k hk).1)
              have a40 := hA4.cell 0
              have a41 := hA4.cell 1
              have g40 := hA4.frozen 0
              have g41 := hA4.frozen 1
              have c40 := hC4.cell 0
              have c41 := hC4.cell 1
              simp only [List.getElem?_toArray, List.getElem?_cons_zero, List.getElem?_cons_succ] at a40 a41 c40 c41
              have hr4 := row_ne hA4 (by decide) hown4
              clear hg4 hC0 hA hB hown a0 a1
              go_wp2_with fail
              have hA5 := (hA4.set_ 0 (.string (strOf l))).set_ 1 (.int .i64 0)
              have hB5 := (hB4.far (p := ⟨w.heap.size, 0, none⟩) (by show w.heap.size + 1 ≠ w.heap.size; omega) (.string (strOf l))).far (p := ⟨w.heap.size, 1, none⟩) (by show w.heap.size + 1 ≠ w.heap.size; omega) (.int .i64 0)
              have hE5 := (hE4.setCell (p := ⟨w.heap.size, 0, none⟩) (Nat.le_refl _) (.string (strOf l))).setCell (p := ⟨w.heap.size, 1, none⟩) (Nat.le_refl _) (.int .i64 0)
              have hown5 : ((w4.setCell ⟨w.heap.size, 0, none⟩ (.string (strOf l))).setCell ⟨w.heap.size, 1, none⟩ (.int .i64 0)).ownsRow w.heap.size 27 1 (.slice pd4 (ds.length + 1) cd4) (ds.length + 1) ((ds.map fun (d : Nat) => Value.int .u64 (d : Int)) ++ [.int .u64 ((x : Int) % 128)]) :=
                ownsRow_same hown4 fun k hk => (Below.heap_setCell _ _ _ _ (fun e => hr4 (by rw [hk, e]))).trans (Below.heap_setCell _ _ _ _ (fun e => hr4 (by rw [hk, e])))
              simp at hA5
              generalize World.setCell (World.setCell _ _ _) _ _ = w5 at *
              clear hA4 hB4 hC4 hE4 hown4 hr4 a40 a41 g40 g41 c40 c41
              have hgo := HG.out
              rw [if_neg HBad.out, if_pos hx128] at hgo
              have hvs := val_snoc ds (x % 128)
              rw [← hvs] at hgo
              have hv64 : val (ds ++ [x % 128]) < 18446744073709551616 := by
                rw [hvs]
                refine sum_lt ds.length (val ds) x (by omega) hlt ?_
                rcases Nat.lt_or_ge ds.length 9 with h | h
                · exact Or.inl (by omega)
                · refine Or.inr ?_
                  have : ¬ 1 < x := fun h1 => HBad.out (Or.inl ⟨by omega, h1⟩)
                  omega
              have hL : (ds ++ [x % 128]).length = ds.length + 1 := by simp
              have hown6 : w5.ownsRow w.heap.size 27 1 (.slice pd4 (ds.length + 1) cd4) (ds.length + 1) ((ds ++ [x % 128]).map fun (d : Nat) => Value.int .u64 (d : Int)) := by simpa using hown5
              have hnum : goL 10 0 0 l0 = (val (ds ++ [x % 128]), l, 0) := hgo
              have HL := Lib.hid hL
              have HNU := Lib.hid hnum
              have hL10 : ds.length ≤ 9 := hk
              generalize ds ++ [x % 128] = es at *
              clear hown5 hgo hvs hL hnum
              go_loop [10, 11] (fun n i => ∃ (j : Nat) (i' : Int), j ≤ ds.length + 1 ∧ i' = (j : Int) - 1 ∧ i = .int .i64 i' ∧ n = .int .u64 (val (es.drop j) : Nat)) (fun _ i => (intOf i + 1).toNat)
              case atStart => exact ⟨ds.length + 1, ds.length, by omega, by omega, by simp, by rw [← HL.out, List.drop_length]; rfl⟩
              case round =>
                obtain ⟨j, i', hj, hi', rfl, rfl⟩ := hrel
                cases j with
                | zero =>
                  have hi1 : i' = -1 := by omega
                  subst hi1
                  rw [List.drop_zero]
                  by_cases hmost : most < val es
                  · have hres : numL most l0 0 = (0, [], 2) := by
                      unfold numL; rw [if_neg (by simp), HNU.out, if_neg (by simp), if_pos hmost]
                    have HR := Lib.hid hres
                    generalize val es = vn at *
                    have c0 := hA5.cell 0
                    have c1 := hA5.cell 1
                    simp only [List.getElem?_toArray, List.getElem?_cons_zero, List.getElem?_cons_succ] at c0 c1
                    clear hres hi' hj hown6
                    go_wp2_with fail
                    refine (rfail2_any _ _ 0 2).mono ?_
                    rintro x6 w6 ⟨rfl, hE6⟩
                    rw [if_pos rfl]
                    unfold stV
                    rw [strOf_nil]
                    have hE7 := hE5.trans hE6
                    have hB6 := hB5.of_eq (hE6.block _ hB5.lt)
                    have b0 := hB6.cell 0
                    have b1 := hB6.cell 1
                    have f0 := hB6.frozen 0
                    have f1 := hB6.frozen 1
                    simp only [List.getElem?_toArray, List.getElem?_cons_zero, List.getElem?_cons_succ] at b0 b1
                    clear hE6 hE5 hB5
                    go_wp2_with fail
                    refine bodyPost_ret (v := .tuple #[.int .u64 0, .agg #[.string ⟨#[]⟩, .int .i64 2]]) (by simp [results, Try.results27, go_sem, b0, b1, f0, f1]) rfl ⟨by rw [HR.out]; rfl, ?_⟩
                    (repeat first
                      | exact Ext.refl _
                      | exact ext_alloc _ _
                      | (exact hE7)
                      | refine Ext.drewN ?_ _
                      | refine Ext.drew ?_
                      | refine Ext.alloc ?_ _
                      | refine Ext.setCell ?_ (by first | (simp; done) | (simp; omega) | omega) _)
                  · have hres : numL most l0 0 = (val es, l, 0) := by
                      unfold numL; rw [if_neg (by simp), HNU.out, if_neg (by simp), if_neg hmost]
                    have HR := Lib.hid hres
                    generalize val es = vn at *
                    clear hres hi' hj hown6
                    go_wp2_with fail
                    refine gen_world' (fun X => X = w5) rfl ?_
                    rintro W3 rfl
                    have hne : w.heap.size ≠ w.heap.size + 1 := by omega
                    have hB := hB5
                    have hC := hA5
                    have hE3 := hE5
                    have b0 := hB.cell 0
                    have b1 := hB.cell 1
                    have f0 := hB.frozen 0
                    have f1 := hB.frozen 1
                    have d0 := hC.cell 0
                    have d1 := hC.cell 1
                    simp only [List.getElem?_toArray, List.getElem?_cons_zero, List.getElem?_cons_succ] at b0 b1 d0 d1
                    have q0 : ∀ x : Of (fun X => Tch (fun k => k = w.heap.size + 1) W3 X), x.val.cell? ⟨w.heap.size, 0, none⟩ = some (.string (strOf l)) := fun x => x.property.cell d0 hC.lt hne
                    have q1 : ∀ x : Of (fun X => Tch (fun k => k = w.heap.size + 1) W3 X), x.val.cell? ⟨w.heap.size, 1, none⟩ = some (.int .i64 0) := fun x => x.property.cell d1 hC.lt hne
                    clear hB5 hA5 hE5
                    have hFd := (show Tch (fun k => k = w.heap.size + 1) W3 W3.drew from (Tch.refl _ _).drew)
                    have hne_ : Nonempty (Of (fun X => Tch (fun k => k = w.heap.size + 1) W3 X)) := ⟨⟨_, hFd⟩⟩
                    refine region_steps [0,1,2,3] [true,true,true,false] (fun X => Tch (fun k => k = w.heap.size + 1) W3 X) (by kernel_rfl) (by kernel_rfl) hFd ?_
                    simp only [List.filterMap_cons, List.filterMap_nil, List.getElem?_cons_zero, List.getElem?_cons_succ]
                    refine steps_quiet 3 (by kernel_rfl) ?_
                    simp only [List.take_succ_cons, List.take_zero, List.drop_succ_cons, List.drop_zero]
                    repeat (go_big_quiet_step (fail))
                    refine wpQuiet_nil ?_
                    refine steps_want rfl (fun K hK => ?_)
                    go_simp
                    refine hK _ _ (fun X => Tch (fun k => k = w.heap.size + 1) W3 X) ?_ (fun _ h => h) ?_
                    · (repeat first
                        | exact Tch.refl _ _
                        | (fail)
                        | refine Tch.drewN ?_ _
                        | refine Tch.drew ?_
                        | refine Tch.alloc ?_ _
                        | refine Tch.setCell ?_ (by intro _; first | rfl | (simp; done) | omega) _)
                    clear hK K q0 q1
                    refine steps_nil ?_
                    go_wp2_with fail
                    refine bodyPost_ret (v := .tuple #[.int .u64 (vn : Int), .agg #[.string (strOf l), .int .i64 0]]) (by simp [results, Try.results27, go_sem, b0, b1, f0, f1]) rfl ⟨by rw [HR.out]; rfl, ?_⟩
                    (repeat first
                      | exact Ext.refl _
                      | exact ext_alloc _ _
                      | (exact hE3)
                      | refine Ext.drewN ?_ _
                      | refine Ext.drew ?_
                      | refine Ext.alloc ?_ _
                      | refine Ext.setCell ?_ (by first | (simp; done) | (simp; omega) | omega) _)
                | succ j =>
                  have hi1 : i' = (j : Int) := by omega
                  subst hi1
                  have hva := val_at es j (by rw [HL.out]; omega)
                  have hvl := val_drop_le es j
                  obtain ⟨a, rfl, hcell⟩ := ownsRow_cell hown6 j (by omega)
                  have hxd : ((es.map fun (d : Nat) => Value.int .u64 (d : Int)).getD j (.int .i64 0)) = .int .u64 (es.getD j 0 : Nat) := by
                    rw [List.getD_eq_getElem?_getD, List.getD_eq_getElem?_getD, List.getElem?_map, List.getElem?_eq_getElem (by rw [HL.out]; omega)]; rfl
                  rw [hxd] at hcell
                  have HV := Lib.hid hva
                  have hbd : es.getD j 0 + 128 * val (es.drop (j + 1)) < 18446744073709551616 := by omega
                  clear hxd hva hvl hown6 hi'
                  generalize es.getD j 0 = d at *
                  generalize val (es.drop (j + 1)) = vd at *
                  go_wp2_with fail
                  go_round
                  case rel => exact ⟨j, (j : Int) - 1, by omega, rfl, rfl, by rw [HV.out]; first | done | (congr 1; omega)⟩
                  case measure => (simp [intOf]; try omega)
        · have hm1 : ds.length + 1 ≤ maxLen := by unfold maxLen; omega
          have hm2 : (ds.length + 1) * 8 ≤ 140737488355328 := by omega
          have hm3 : w.heap.size ≤ ((w2.alloc (.cells #[.string (strOf l), .int .i64 0] 50)).alloc (.cells #[.int .u64 ((x : Int) % 128)] 27)).heap.size := by have := hE3.le; simp; omega
          by_cases hk9 : ds.length = 9
          · have f1 : ((ds.length : Int) == 9) = true := by simp; omega
            have f2 : ¬ (1 : Int) < x := by
              have : ¬ 1 < x := fun h1 => hbad (Or.inl ⟨hk9, h1⟩)
              omega
            have f3 : 0 < (ds.length : Int) := by omega
            have f4 : ((x : Int) == 0) = false := by
              have : x ≠ 0 := fun h1 => hbad (Or.inr ⟨by omega, h1⟩)
              simp; omega
            have HK := Lib.hid hk9
            have HBad := Lib.hid hbad
            clear hk9 hbad
            first
              | (exfalso; have h9 := HK.out; exact HBad.out (Or.inl ⟨h9, by omega⟩))
              | (go_wp2_with (at_builtin; refine wpList_append_own _ rfl _ _ 73 rfl w.heap.size 27 i0 (.int .u64 0) 1 8 Try.underlying73 hi0 hz0 hz1 hz2 rfl (by decide) _ _ _ rfl ((hown.alloc _).alloc _) ⟨w2.heap.size + 1, 0, none⟩ 1 1 [.int .u64 (x % 128)] rfl rfl (lit_at _ _ _ _) (oneC1 _ _) hm1 hm2 hm3 ?_)
                 intro v' w4 hown4 hg4 _
                 obtain ⟨pd4, cd4, rfl⟩ := ownsRow_slice hown4
                 have hC0 : Blk (w2.alloc (.cells #[.string (strOf l), .int .i64 0] 50)) w2.heap.size 50 #[.string (strOf l), .int .i64 0] := Blk.new _ _ _
                 have hA4 := ((hA.alloc (.cells #[.string (strOf l), .int .i64 0] 50)).alloc (.cells #[.int .u64 (x % 128)] 27)).of_eq (hg4.block _ (by simp; omega) (fun e => row_ne hA (by decide) hown e.symm))
                 have hB4 := ((hB.alloc (.cells #[.string (strOf l), .int .i64 0] 50)).alloc (.cells #[.int .u64 (x % 128)] 27)).of_eq (hg4.block _ (by simp; omega) (fun e => row_ne hB (by decide) hown e.symm))
                 have hC4 := (hC0.alloc (.cells #[.int .u64 (x % 128)] 27)).of_eq (hg4.block _ (by simp; omega) (fun e => by have := (hown.lt _ e.symm).2; omega))
                 have hE4 : Ext w w4 := (((hE3.alloc _).alloc _).below).grown hg4 (by have := hE3.le; simp; omega) (fun k hk => (hown.lt k hk).1)
                 have a40 := hA4.cell 0
                 have a41 := hA4.cell 1
                 have g40 := hA4.frozen 0
                 have g41 := hA4.frozen 1
                 have c40 := hC4.cell 0
                 have c41 := hC4.cell 1
                 simp only [List.getElem?_toArray, List.getElem?_cons_zero, List.getElem?_cons_succ] at a40 a41 c40 c41
                 have hr4 := row_ne hA4 (by decide) hown4
                 clear hg4 hC0 hA hB hown a0 a1
                 go_wp2_with fail
                 have hA5 := (hA4.set_ 0 (.string (strOf l))).set_ 1 (.int .i64 0)
                 have hB5 := (hB4.far (p := ⟨w.heap.size, 0, none⟩) (by show w.heap.size + 1 ≠ w.heap.size; omega) (.string (strOf l))).far (p := ⟨w.heap.size, 1, none⟩) (by show w.heap.size + 1 ≠ w.heap.size; omega) (.int .i64 0)
                 have hE5 := (hE4.setCell (p := ⟨w.heap.size, 0, none⟩) (Nat.le_refl _) (.string (strOf l))).setCell (p := ⟨w.heap.size, 1, none⟩) (Nat.le_refl _) (.int .i64 0)
                 have hown5 : ((w4.setCell ⟨w.heap.size, 0, none⟩ (.string (strOf l))).setCell ⟨w.heap.size, 1, none⟩ (.int .i64 0)).ownsRow w.heap.size 27 1 (.slice pd4 (ds.length + 1) cd4) (ds.length + 1) ((ds.map fun (d : Nat) => Value.int .u64 (d : Int)) ++ [.int .u64 ((x : Int) % 128)]) :=
                   ownsRow_same hown4 fun k hk => (Below.heap_setCell _ _ _ _ (fun e => hr4 (by rw [hk, e]))).trans (Below.heap_setCell _ _ _ _ (fun e => hr4 (by rw [hk, e])))
                 simp at hA5
                 generalize World.setCell (World.setCell _ _ _) _ _ = w5 at *
                 clear hA4 hB4 hC4 hE4 hown4 hr4 a40 a41 g40 g41 c40 c41
                 have hgo := HG.out
                 rw [if_neg HBad.out, if_neg hx128] at hgo
                 have hvs := val_snoc ds (x % 128)
                 rw [← hvs] at hgo
                 have hk8 : ds.length ≤ 8 := by
                   rcases Nat.lt_or_ge ds.length 9 with h | h
                   · omega
                   · exact absurd (Or.inl ⟨by omega, by omega⟩) HBad.out
                 refine ⟨⟨ds ++ [x % 128], l, ⟨hE5, by simpa using hA5, hB5, by simpa using hown5, (by simp; try omega), ?_, ?_, (by simp at hlen; try omega)⟩⟩, (by simp; try omega)⟩
                 · rw [hvs, List.length_append]; exact shl_sum _ _ _ hlt (by omega)
                 · rw [List.length_append, show 10 - (ds.length + [x % 128].length) = 9 - ds.length by (simp; try omega)]; exact hgo)
          · by_cases hk0 : ds.length = 0
            · have f1 : ((ds.length : Int) == 9) = false := by simp; omega
              have f3 : ¬ 0 < (ds.length : Int) := by omega
              have HK := Lib.hid hk0
              have HBad := Lib.hid hbad
              clear hk9 hk0 hbad
              first
                | (exfalso; have h9 := HK.out; exact HBad.out (Or.inl ⟨h9, by omega⟩))
                | (go_wp2_with (at_builtin; refine wpList_append_own _ rfl _ _ 73 rfl w.heap.size 27 i0 (.int .u64 0) 1 8 Try.underlying73 hi0 hz0 hz1 hz2 rfl (by decide) _ _ _ rfl ((hown.alloc _).alloc _) ⟨w2.heap.size + 1, 0, none⟩ 1 1 [.int .u64 (x % 128)] rfl rfl (lit_at _ _ _ _) (oneC1 _ _) hm1 hm2 hm3 ?_)
                   intro v' w4 hown4 hg4 _
                   obtain ⟨pd4, cd4, rfl⟩ := ownsRow_slice hown4
                   have hC0 : Blk (w2.alloc (.cells #[.string (strOf l), .int .i64 0] 50)) w2.heap.size 50 #[.string (strOf l), .int .i64 0] := Blk.new _ _ _
                   have hA4 := ((hA.alloc (.cells #[.string (strOf l), .int .i64 0] 50)).alloc (.cells #[.int .u64 (x % 128)] 27)).of_eq (hg4.block _ (by simp; omega) (fun e => row_ne hA (by decide) hown e.symm))
                   have hB4 := ((hB.alloc (.cells #[.string (strOf l), .int .i64 0] 50)).alloc (.cells #[.int .u64 (x % 128)] 27)).of_eq (hg4.block _ (by simp; omega) (fun e => row_ne hB (by decide) hown e.symm))
                   have hC4 := (hC0.alloc (.cells #[.int .u64 (x % 128)] 27)).of_eq (hg4.block _ (by simp; omega) (fun e => by have := (hown.lt _ e.symm).2; omega))
                   have hE4 : Ext w w4 := (((hE3.alloc _).alloc _).below).grown hg4 (by have := hE3.le; simp; omega) (fun k hk => (hown.lt k hk).1)
                   have a40 := hA4.cell 0
                   have a41 := hA4.cell 1
                   have g40 := hA4.frozen 0
                   have g41 := hA4.frozen 1
                   have c40 := hC4.cell 0
                   have c41 := hC4.cell 1
                   simp only [List.getElem?_toArray, List.getElem?_cons_zero, List.getElem?_cons_succ] at a40 a41 c40 c41
                   have hr4 := row_ne hA4 (by decide) hown4
                   clear hg4 hC0 hA hB hown a0 a1
                   go_wp2_with fail
                   have hA5 := (hA4.set_ 0 (.string (strOf l))).set_ 1 (.int .i64 0)
                   have hB5 := (hB4.far (p := ⟨w.heap.size, 0, none⟩) (by show w.heap.size + 1 ≠ w.heap.size; omega) (.string (strOf l))).far (p := ⟨w.heap.size, 1, none⟩) (by show w.heap.size + 1 ≠ w.heap.size; omega) (.int .i64 0)
                   have hE5 := (hE4.setCell (p := ⟨w.heap.size, 0, none⟩) (Nat.le_refl _) (.string (strOf l))).setCell (p := ⟨w.heap.size, 1, none⟩) (Nat.le_refl _) (.int .i64 0)
                   have hown5 : ((w4.setCell ⟨w.heap.size, 0, none⟩ (.string (strOf l))).setCell ⟨w.heap.size, 1, none⟩ (.int .i64 0)).ownsRow w.heap.size 27 1 (.slice pd4 (ds.length + 1) cd4) (ds.length + 1) ((ds.map fun (d : Nat) => Value.int .u64 (d : Int)) ++ [.int .u64 ((x : Int) % 128)]) :=
                     ownsRow_same hown4 fun k hk => (Below.heap_setCell _ _ _ _ (fun e => hr4 (by rw [hk, e]))).trans (Below.heap_setCell _ _ _ _ (fun e => hr4 (by rw [hk, e])))
                   simp at hA5
                   generalize World.setCell (World.setCell _ _ _) _ _ = w5 at *
                   clear hA4 hB4 hC4 hE4 hown4 hr4 a40 a41 g40 g41 c40 c41
                   have hgo := HG.out
                   rw [if_neg HBad.out, if_neg hx128] at hgo
                   have hvs := val_snoc ds (x % 128)
                   rw [← hvs] at hgo
                   have hk8 : ds.length ≤ 8 := by
                     rcases Nat.lt_or_ge ds.length 9 with h | h
                     · omega
                     · exact absurd (Or.inl ⟨by omega, by omega⟩) HBad.out
                   refine ⟨⟨ds ++ [x % 128], l, ⟨hE5, by simpa using hA5, hB5, by simpa using hown5, (by simp; try omega), ?_, ?_, (by simp at hlen; try omega)⟩⟩, (by simp; try omega)⟩
                   · rw [hvs, List.length_append]; exact shl_sum _ _ _ hlt (by omega)
                   · rw [List.length_append, show 10 - (ds.length + [x % 128].length) = 9 - ds.length by (simp; try omega)]; exact hgo)
            · have f1 : ((ds.length : Int) == 9) = false := by simp; omega
              have f3 : 0 < (ds.length : Int) := by omega
              have f4 : ((x : Int) == 0) = false := by
                have : x ≠ 0 := fun h1 => hbad (Or.inr ⟨by omega, h1⟩)
                simp; omega
              have HBad := Lib.hid hbad
              clear hk9 hk0 hbad
              first
                | (exfalso; have h9 := HK.out; exact HBad.out (Or.inl ⟨h9, by omega⟩))
                | (go_wp2_with (at_builtin; refine wpList_append_own _ rfl _ _ 73 rfl w.heap.size 27 i0 (.int .u64 0) 1 8 Try.underlying73 hi0 hz0 hz1 hz2 rfl (by decide) _ _ _ rfl ((hown.alloc _).alloc _) ⟨w2.heap.size + 1, 0, none⟩ 1 1 [.int .u64 (x % 128)] rfl rfl (lit_at _ _ _ _) (oneC1 _ _) hm1 hm2 hm3 ?_)
                   intro v' w4 hown4 hg4 _
                   obtain ⟨pd4, cd4, rfl⟩ := ownsRow_slice hown4
                   have hC0 : Blk (w2.alloc (.cells #[.string (strOf l), .int .i64 0] 50)) w2.heap.size 50 #[.string (strOf l), .int .i64 0] := Blk.new _ _ _
                   have hA4 := ((hA.alloc (.cells #[.string (strOf l), .int .i64 0] 50)).alloc (.cells #[.int .u64 (x % 128)] 27)).of_eq (hg4.block _ (by simp; omega) (fun e => row_ne hA (by decide) hown e.symm))
                   have hB4 := ((hB.alloc (.cells #[.string (strOf l), .int .i64 0] 50)).alloc (.cells #[.int .u64 (x % 128)] 27)).of_eq (hg4.block _ (by simp; omega) (fun e => row_ne hB (by decide) hown e.symm))
                   have hC4 := (hC0.alloc (.cells #[.int .u64 (x % 128)] 27)).of_eq (hg4.block _ (by simp; omega) (fun e => by have := (hown.lt _ e.symm).2; omega))
                   have hE4 : Ext w w4 := (((hE3.alloc _).alloc _).below).grown hg4 (by have := hE3.le; simp; omega) (fun k hk => (hown.lt k hk).1)
                   have a40 := hA4.cell 0
                   have a41 := hA4.cell 1
                   have g40 := hA4.frozen 0
                   have g41 := hA4.frozen 1
                   have c40 := hC4.cell 0
                   have c41 := hC4.cell 1
                   simp only [List.getElem?_toArray, List.getElem?_cons_zero, List.getElem?_cons_succ] at a40 a41 c40 c41
                   have hr4 := row_ne hA4 (by decide) hown4
                   clear hg4 hC0 hA hB hown a0 a1
                   go_wp2_with fail
                   have hA5 := (hA4.set_ 0 (.string (strOf l))).set_ 1 (.int .i64 0)
                   have hB5 := (hB4.far (p := ⟨w.heap.size, 0, none⟩) (by show w.heap.size + 1 ≠ w.heap.size; omega) (.string (strOf l))).far (p := ⟨w.heap.size, 1, none⟩) (by show w.heap.size + 1 ≠ w.heap.size; omega) (.int .i64 0)
                   have hE5 := (hE4.setCell (p := ⟨w.heap.size, 0, none⟩) (Nat.le_refl _) (.string (strOf l))).setCell (p := ⟨w.heap.size, 1, none⟩) (Nat.le_refl _) (.int .i64 0)
                   have hown5 : ((w4.setCell ⟨w.heap.size, 0, none⟩ (.string (strOf l))).setCell ⟨w.heap.size, 1, none⟩ (.int .i64 0)).ownsRow w.heap.size 27 1 (.slice pd4 (ds.length + 1) cd4) (ds.length + 1) ((ds.map fun (d : Nat) => Value.int .u64 (d : Int)) ++ [.int .u64 ((x : Int) % 128)]) :=
                     ownsRow_same hown4 fun k hk => (Below.heap_setCell _ _ _ _ (fun e => hr4 (by rw [hk, e]))).trans (Below.heap_setCell _ _ _ _ (fun e => hr4 (by rw [hk, e])))
                   simp at hA5
                   generalize World.setCell (World.setCell _ _ _) _ _ = w5 at *
                   clear hA4 hB4 hC4 hE4 hown4 hr4 a40 a41 g40 g41 c40 c41
                   have hgo := HG.out
                   rw [if_neg HBad.out, if_neg hx128] at hgo
                   have hvs := val_snoc ds (x % 128)
                   rw [← hvs] at hgo
                   have hk8 : ds.length ≤ 8 := by
                     rcases Nat.lt_or_ge ds.length 9 with h | h
                     · omega
                     · exact absurd (Or.inl ⟨by omega, by omega⟩) HBad.out
                   refine ⟨⟨ds ++ [x % 128], l, ⟨hE5, by simpa using hA5, hB5, by simpa using hown5, (by simp; try omega), ?_, ?_, (by simp at hlen; try omega)⟩⟩, (by simp; try omega)⟩
                   · rw [hvs, List.length_append]; exact shl_sum _ _ _ hlt (by omega)
                   · rw [List.length_append, show 10 - (ds.length + [x % 128].length) = 9 - ds.length by (simp; try omega)]; exact hgo)
set_option maxRecDepth 100000 in
set_option maxHeartbeats 1000000 in
theorem rnumber_bad (w : World) (l0 : List UInt8) (c : Int) (most : Nat) (hl : l0.length ≤ 70368744177664) (hc : c ≠ 0) : Calls Try.prog 27 #[stV l0 c, .int .u64 most] w fun x w' => x = .returned (numV (numL most l0 c)) ∧ Ext w w' := by
  have hT := fun wr => rtake2_any wr l0 c 1 hl (by omega)
  have hv : takeV l0 c 1 = .tuple #[.string ⟨#[]⟩, .agg #[.string ⟨#[]⟩, .int .i64 c]] := by
    unfold takeV; rw [if_neg hc]; rfl
  have hres : numL most l0 c = (0, [], c) := if_pos hc
  have HR := Lib.hid hres
  have e1 : (c != 0) = true := by simp [hc]
  have e2 : (c == 0) = false := by simp [hc]
  clear hres hc
  unfold stV
  go_enter Try.func27, Try.ntmps27
  go_wp2_with fail
  refine gen_world' (fun X => Ext w X ∧ Blk X w.heap.size 50 #[.string (strOf l0), .int .i64 c] ∧ Blk X (w.heap.size + 1) 50 #[.string ⟨#[]⟩, .int .i64 0]) ⟨((Ext.refl w).alloc _).alloc _, (Blk.new _ _ _).alloc _, ?_⟩ ?_
  · have := Blk.new (w.alloc (.cells #[.string (strOf l0), .int .i64 c] 50)) 50 #[.string ⟨#[]⟩, .int .i64 0]
    simp only [World.size_alloc] at this
    exact this
  rintro W2 ⟨hE2, hA, hB⟩
  have a0 := hA.cell 0
  have a1 := hA.cell 1
  simp only [List.getElem?_toArray, List.getElem?_cons_zero, List.getElem?_cons_succ] at a0 a1
  refine wp_loop_rounds 1 ?_
  rw [rounds_succ]
  go_wp2_with fail
  rw [hv] at hT
  refine (hT W2).mono ?_
  rintro x w2 ⟨rfl, hE⟩
  have hB2 := hB.of_eq (hE.block _ hB.lt)
  have hE3 := hE2.trans hE
  have hbl := hB.lt
  have hww := hE.le
  clear hT hv hE hB hA a0 a1 hE2
  go_wp2_with fail
  refine gen_world' (fun X => Ext w X ∧ Blk X (w.heap.size + 1) 50 #[.string ⟨#[]⟩, .int .i64 0] ∧ Blk X w2.heap.size 50 #[.string ⟨#[]⟩, .int .i64 c]) ⟨hE3.alloc _, hB2.alloc _, Blk.new _ _ _⟩ ?_
  clear hE3 hB2
  rintro W3 ⟨hE3, hB, hC⟩
  have hne : w2.heap.size ≠ w.heap.size + 1 := by omega
  have b0 := hB.cell 0
  have b1 := hB.cell 1
  have f0 := hB.frozen 0
  have f1 := hB.frozen 1
  have d0 := hC.cell 0
  have d1 := hC.cell 1
  simp only [List.getElem?_toArray, List.getElem?_cons_zero, List.getElem?_cons_succ] at b0 b1 d0 d1
  have q0 : ∀ x : Of (fun X => Tch (fun k => k = w.heap.size + 1) W3 X), x.val.cell? ⟨w2.heap.size, 0, none⟩ = some (.string ⟨#[]⟩) := fun x => x.property.cell d0 hC.lt hne
  have q1 : ∀ x : Of (fun X => Tch (fun k => k = w.heap.size + 1) W3 X), x.val.cell? ⟨w2.heap.size, 1, none⟩ = some (.int .i64 c) := fun x => x.property.cell d1 hC.lt hne
  have hFd := (show Tch (fun k => k = w.heap.size + 1) W3 W3.drew from (Tch.refl _ _).drew)
  have hne_ : Nonempty (Of (fun X => Tch (fun k => k = w.heap.size + 1) W3 X)) := ⟨⟨_, hFd⟩⟩
  refine region_steps [0,1,2] [true,true,false] (fun X => Tch (fun k => k = w.heap.size + 1) W3 X) (by kernel_rfl) (by kernel_rfl) hFd ?_
  simp only [List.filterMap_cons, List.filterMap_nil, List.getElem?_cons_zero, List.getElem?_cons_succ]
  refine steps_quiet 2 (by kernel_rfl) ?_
  simp only [List.take_succ_cons, List.take_zero, List.drop_succ_cons, List.drop_zero]
  repeat (go_big_quiet_step (fail))
  refine wpQuiet_nil ?_
  refine steps_want rfl (fun K hK => ?_)
  go_simp
  refine hK _ _ (fun X => Tch (fun k => k = w.heap.size + 1) W3 X) ?_ (fun _ h => h) ?_
  · (repeat first
      | exact Tch.refl _ _
      | (fail)
      | refine Tch.drewN ?_ _
      | refine Tch.drew ?_
      | refine Tch.alloc ?_ _
      | refine Tch.setCell ?_ (by intro _; first | rfl | (simp; done) | omega) _)
  clear hK K q0 q1
  refine steps_nil ?_
  go_wp2_with fail
  refine bodyPost_ret (v := .tuple #[.int .u64 0, .agg #[.string ⟨#[]⟩, .int .i64 c]]) (by simp [results, Try.results27, go_sem, b0, b1, f0, f1]) rfl ⟨by rw [HR.out]; rfl, ?_⟩
  (repeat first
    | exact Ext.refl _
    | exact ext_alloc _ _
    | (exact hE3)
    | refine Ext.drewN ?_ _
    | refine Ext.drew ?_
    | refine Ext.alloc ?_ _
    | refine Ext.setCell ?_ (by first | (simp; done) | (simp; omega) | omega) _)
theorem rnumber_any (w : World) (l0 : List UInt8) (c : Int) (most : Nat) (hl : l0.length ≤ 70368744177664) (hm : most < 18446744073709551616) : Calls Try.prog 27 #[stV l0 c, .int .u64 most] w fun x w' => x = .returned (numV (numL most l0 c)) ∧ Ext w w' := by
  by_cases hc : c = 0
  · subst hc; exact rnumber_ok w l0 most hl hm
  · exact rnumber_bad w l0 c most hl hc
end Go.Proofs.Ytdaiondcaecklaa
