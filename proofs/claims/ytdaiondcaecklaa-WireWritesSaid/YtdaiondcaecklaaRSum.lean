/- The walks of a reader's Fixed and Sum. -/
import Derived.Test.YtdaiondcaecklaaRRead
import Derived.Test.YtdaiondcaecklaaSteps
namespace Go.Proofs.Ytdaiondcaecklaa
set_option linter.unusedVariables false
set_option linter.unusedSimpArgs false
open Go Go.RowKit
section
variable {W : World} {r g c : Nat} {s : Rd} {F : Nat → Prop}
/-- four bytes as a number, the lowest first; fewer: nought -/
def low4 : List UInt8 → Nat
  | [a, b, c, d] => a.toNat + b.toNat * 256 + c.toNat * 65536 + d.toNat * 16777216
  | _ => 0
theorem or32 (a b i : Nat) (ha : a < 2 ^ i) (hb : a + b * 2 ^ i < 4294967296) : bits .or .u32 (a : Int) ((b * 2 ^ i : Nat) : Int) = ((a + b * 2 ^ i : Nat) : Int) := by
  rw [or_nat_u32 _ _ (by omega) (by omega), Nat.or_comm, Nat.mul_comm, ← Nat.two_pow_add_eq_or_of_lt ha]
  congr 1; omega
theorem low_or (a b c d : Nat) (ha : a < 256) (hb : b < 256) (hc : c < 256) (hd : d < 256) :
    bits .or .u32 (bits .or .u32 (bits .or .u32 (a : Int) ((b : Int) * 256)) ((c : Int) * 65536)) ((d : Int) * 16777216) = ((a + b * 256 + c * 65536 + d * 16777216 : Nat) : Int) := by
  have o1 := or32 a b 8 (by omega) (by omega)
  have o2 := or32 (a + b * 256) c 16 (by omega) (by omega)
  have o3 := or32 (a + b * 256 + c * 65536) d 24 (by omega) (by omega)
  have e1 : ((b : Int) * 256) = ((b * 2 ^ 8 : Nat) : Int) := by simp
  have e2 : ((c : Int) * 65536) = ((c * 2 ^ 16 : Nat) : Int) := by simp
  have e3 : ((d : Int) * 16777216) = ((d * 2 ^ 24 : Nat) : Int) := by simp
  rw [e1, o1, e2, show a + b * 2 ^ 8 = a + b * 256 from rfl, o2, e3, show a + b * 256 + c * 2 ^ 16 = a + b * 256 + c * 65536 from rfl, o3]
theorem rfixed_any (h : rA r s W F) : Calls Try.prog 29 #[.pointer (some ⟨r, 0, none⟩)] W fun e' W' => e' = .returned (.int .u32 (low4 (s.takeL 4).1)) ∧ Next F W W' (rA r (s.takeL 4).2) := by
  obtain ⟨g, c, h, rfl⟩ := h
  by_cases he : s.err = 0
  · by_cases hb : s.at_ + 4 ≤ s.b.length
    · have ht0 : s.takeL 4 = ((s.b.drop s.at_).take 4, { s with at_ := s.at_ + 4 }) := by unfold Rd.takeL; rw [if_pos he, if_pos hb]
      rw [ht0]
      clear ht0
      have hd : (s.b.drop s.at_).take 4 = [s.b.getD s.at_ 0, s.b.getD (s.at_ + 1) 0, s.b.getD (s.at_ + 2) 0, s.b.getD (s.at_ + 3) 0] := by
        rw [drop_cons s.b 0 s.at_ (by omega), drop_cons s.b 0 (s.at_ + 1) (by omega), drop_cons s.b 0 (s.at_ + 2) (by omega), drop_cons s.b 0 (s.at_ + 3) (by omega)]
        rfl
      rw [hd]
      have hby := fun i hi => (fun (w2 : World) (s2 : Rd) (h2 : RRep w2 r g c s2) (hb2 : s2.b = s.b) => hb2 ▸ h2.byte i (hb2 ▸ hi))
      have x0 := UInt8.toNat_lt (s.b.getD s.at_ 0)
      have x1 := UInt8.toNat_lt (s.b.getD (s.at_ + 1) 0)
      have x2 := UInt8.toNat_lt (s.b.getD (s.at_ + 2) 0)
      have x3 := UInt8.toNat_lt (s.b.getD (s.at_ + 3) 0)
      have k0 := fun w2 s2 h2 hb2 => hby s.at_ (by omega) w2 s2 h2 hb2
      have k1 := fun w2 s2 h2 hb2 => hby (s.at_ + 1) (by omega) w2 s2 h2 hb2
      have k2 := fun w2 s2 h2 hb2 => hby (s.at_ + 2) (by omega) w2 s2 h2 hb2
      have k3 := fun w2 s2 h2 hb2 => hby (s.at_ + 3) (by omega) w2 s2 h2 hb2
      simp only [low4]
      clear hby hd
      generalize (s.b.getD s.at_ 0).toNat = y0 at *
      generalize (s.b.getD (s.at_ + 1) 0).toNat = y1 at *
      generalize (s.b.getD (s.at_ + 2) 0).toNat = y2 at *
      generalize (s.b.getD (s.at_ + 3) 0).toNat = y3 at *
      have HO := Lib.hid (low_or y0 y1 y2 y3 x0 x1 x2 x3)
      have HE := Lib.hid he
      have HK0 := Lib.hid k0
      have HK1 := Lib.hid k1
      have HK2 := Lib.hid k2
      have HK3 := Lib.hid k3
      clear he k0 k1 k2 k3
      go_enter Try.func29, Try.ntmps29
      go_wp2_with fail
      refine (take_some h HE.out 4 (by omega) hb).mono ?_
      rintro e w3 ⟨rfl, h3, ht3⟩
      have c0 := HK0.out w3 _ h3 rfl
      have c1 := HK1.out w3 _ h3 rfl
      have c2 := HK2.out w3 _ h3 rfl
      have c3 := HK3.out w3 _ h3 rfl
      clear h
      go_wp2_with fail
      go_quiet (fail)
      go_wp2_with fail
      go_ret
      exact ⟨ret_int HO.out, rnext (h3.ext ((Ext.refl _).drewN _)) (ht3.drewN _)⟩
    · have ht0 : s.takeL 4 = ([], { s with err := 6 }) := by unfold Rd.takeL; rw [if_pos he, if_neg hb]
      rw [ht0]
      clear ht0
      have HE := Lib.hid he
      clear he
      go_enter Try.func29, Try.ntmps29
      go_wp2_with fail
      refine (take_short h HE.out 4 (by omega) (by omega)).mono ?_
      rintro e w3 ⟨rfl, h3, ht3⟩
      clear h
      go_wp2_with fail
      go_ret
      exact ⟨rfl, rnext h3 ht3⟩
  · have ht0 : s.takeL 4 = ([], s) := if_neg he
    rw [ht0]
    clear ht0
    go_enter Try.func29, Try.ntmps29
    go_wp2_with fail
    refine (take_err h he 4).mono ?_
    rintro e w3 ⟨rfl, rfl⟩
    clear he
    go_wp2_with fail
    go_ret
    exact ⟨rfl, rnext h (Tch.refl _ _)⟩
def z32 : List UInt8 := List.replicate 32 0
theorem sumInfo : (Try.prog.info? 45).map (·.size) = some 32 := by kernel_rfl
theorem u8Size : (Try.prog.info? 5).map (·.size) = some 1 := by kernel_rfl
theorem sumSize {cs : List UInt8} (h : cs.length = 32) : (Try.prog.info? 45).map (·.size) = some (u8s cs).toArray.size := by
  rw [sumInfo]; simp [u8s, h]
theorem u8s_all (l : List UInt8) : (u8s l).toArray.all (·.oneCell') = true := by
  rw [Array.all_eq_true']
  intro x hx
  exact u8s_one l x (by simpa using hx)
theorem setRow_blk {w : World} {g : Nat} {t : TypeId} {old cs : Array Value} (h : Blk w g t old) : Blk (w.setRow g cs) g t cs := setRow_heap w g old cs t _ h
theorem setRow_far {w : World} {g g' : Nat} {t : TypeId} {old cs : Array Value} (h : Blk w g t old) (hne : g ≠ g') : Blk (w.setRow g' cs) g t old := (setRow_other w g' g cs hne).trans h
theorem setRow_ext {W w : World} {g : Nat} {cs : Array Value} (S : Nat → Prop) (h : Tch S W w) (hg : W.heap.size ≤ g) : Tch S W (w.setRow g cs) :=
  ⟨h.os, h.tape, h.output, by simpa using h.size, fun k hk hn => (setRow_other w g k cs (by omega)).trans (h.block k hk hn)⟩
theorem copy_sum {w : World} {d g o c : Nat} {old : Array Value} {cs : List UInt8} {ty : TypeId} (hd : Blk w d 45 old) (ho : old.size = 32) (hl : cs.length = 32) (hc : ∀ i, i < cs.length → w.cell? ⟨g, o + i, none⟩ = some (.int .u8 ((cs.getD i 0).toNat : Int))) :
    (Builtin.copy_ #[23, 23] ty #[.slice (some ⟨d, 0, none⟩) 32 32, .slice (some ⟨g, o, none⟩) 32 c]).run Try.prog w = .ok (goInt 32) (w.setRow d (u8s cs).toArray) := by
  have h := run_copy_row (P := Try.prog) w 23 23 ty 5 d 0 32 32 ⟨g, o, none⟩ 32 c old 45 (u8s cs) Try.underlying23 u8Size hd (by rw [u8s_length, hl]; rfl) (fun j v hj => by
    have hj' : j < cs.length := by have := (List.getElem?_eq_some_iff.1 hj).1; rwa [u8s_length] at this
    rw [Go.WideShapes.add_plain, hc j hj']
    rw [u8s, List.getElem?_map, List.getElem?_eq_getElem hj'] at hj
    rw [List.getD_eq_getElem?_getD, List.getElem?_eq_getElem hj']
    exact hj) (by rw [u8s_length, hl, ho]; omega) (u8s_one cs)
  rw [u8s_length, hl] at h
  rw [h]
  congr 2
  have : old.toList.drop 32 = [] := List.drop_of_length_le (by simp [ho])
  simp [this]
theorem rsum_rep (h : RRep W r g c s) (cs : List UInt8) (s' : Rd) (hcl : cs.length = 32) (hs : s' = (s.takeL 32).2) (hcs : cs = (s.takeL 32).1 ++ List.replicate (32 - (s.takeL 32).1.length) 0) :
    Calls Try.prog 25 #[.pointer (some ⟨r, 0, none⟩)] W fun e' W' => e' = .returned (.agg (u8s ((s.takeL 32).1 ++ List.replicate (32 - (s.takeL 32).1.length) 0)).toArray) ∧ Next (RFoot r g) W W' (rA r s') := by
  have hsl := slice_sum
  by_cases he : s.err = 0
  · by_cases hb : s.at_ + 32 ≤ s.b.length
    · have ht0 : s.takeL 32 = ((s.b.drop s.at_).take 32, { s with at_ := s.at_ + 32 }) := by unfold Rd.takeL; rw [if_pos he, if_pos hb]
      have hl0 : (s.takeL 32).1.length = 32 := by rw [ht0]; simp; omega
      have hs2 : s' = { s with at_ := s.at_ + 32 } := by rw [hs, ht0]
      have hc2 : cs = (s.b.drop s.at_).take 32 := by rw [hcs, hl0, ht0]; simp
      have HE := Lib.hid he
      have HC := Lib.hid hc2
      subst hs2
      clear he ht0 hl0 hs hc2
      go_enter Try.func25, Try.ntmps25
      go_wp2_with fail
      refine gen_world' (fun X => Ext W X ∧ Blk X W.heap.size 45 (u8s z32).toArray ∧ Blk X (W.heap.size + 1) 45 (u8s z32).toArray) ⟨((Ext.refl W).alloc _).alloc _, ?_, ?_⟩ ?_
      · exact (Blk.new W 45 (u8s z32).toArray).alloc _
      · have := Blk.new (W.alloc (.cells (u8s z32).toArray 45)) 45 (u8s z32).toArray
        simp only [World.size_alloc] at this
        exact this
      rintro W2 ⟨hE2, hA, hB⟩
      have h2 := (h.ext hE2).ext (Ext.refl W2).drew
      have hA2 : Blk W2.drew _ _ _ := hA
      have hB2 : Blk W2.drew _ _ _ := hB
      have hrl := h.blk.lt
      have hgl := h.glt
      have hE2d : Ext W W2.drew := hE2.drew
      clear h hA hB hE2
      have hne_ : Nonempty (Of (fun _ : World => True)) := trueOf_ne (W := by assumption)
      refine region_steps [0,1,2,3] [true,true,false,false] (fun _ : World => True) (by kernel_rfl) (by kernel_rfl) trivial ?_
      simp only [List.filterMap_cons, List.filterMap_nil, List.getElem?_cons_zero, List.getElem?_cons_succ]
      refine steps_quiet 2 (by kernel_rfl) ?_
      simp only [List.take_succ_cons, List.take_zero, List.drop_succ_cons, List.drop_zero]
      repeat (go_big_quiet_step (fail))
      refine wpQuiet_nil ?_
      refine steps_want rfl (fun K hK => ?_)
      go_simp
      refine (take_some h2 HE.out 32 (by omega) hb).mono ?_
      rintro e w3 ⟨rfl, h3, ht3⟩
      have hnA : ¬ RFoot r g W.heap.size := by rintro (h | h) <;> omega
      have hnB : ¬ RFoot r g (W.heap.size + 1) := by rintro (h | h) <;> omega
      have hA3 := ht3.blk hA2 hnA
      have hB3 := ht3.blk hB2 hnB
      have hcc := take_bytes h3 32 s.at_ hb
      simp only at hcc
      rw [← HC.out] at hcc
      have ht4' : Tch (RFoot r g) W w3 := (Tch.of_ext (S := RFoot r g) hE2d).trans ht3 (fun _ h _ => h)
      clear ht3 hA2 hB2 h2 hE2d
      refine hK _ _ (fun _ => True) trivial (fun _ _ => trivial) ?_
      clear hK K
      try simp only [Act.put, List.setIfInBounds_toArray, List.set_cons_succ, List.set_cons_zero]
      refine steps_want rfl (fun K hK => ?_)
      refine Go.Lib.wp_copy_run w3 _ _ 23 23 rfl _ _ rfl rfl (copy_sum hB3 (by simp [u8s, z32]) hcl hcc) ?_
      have h4 : RRep (w3.setRow (W.heap.size + 1) (u8s cs).toArray) r g c { s with at_ := s.at_ + 32 } := h3.keep (fun k hk => setRow_other w3 _ k _ (fun e => hnB (e ▸ hk)))
      have hA4 : Blk (w3.setRow (W.heap.size + 1) (u8s cs).toArray) W.heap.size 45 (u8s z32).toArray := setRow_far hA3 (by omega)
      have hB4 : Blk (w3.setRow (W.heap.size + 1) (u8s cs).toArray) (W.heap.size + 1) 45 (u8s cs).toArray := setRow_blk hB3
      have ht4 := setRow_ext (g := W.heap.size + 1) (cs := (u8s cs).toArray) _ ht4' (by omega)
      have hA4s : (u8s z32).toArray.size = (u8s cs).toArray.size := by simp [u8s, z32, hcl]
      generalize World.setRow _ _ _ = w4 at *
      clear hA3 hB3 h3 ht4' hcc hnA hnB
      refine hK _ _ (fun _ => True) trivial (fun _ _ => trivial) ?_
      clear hK K
      try simp only [Act.put, List.setIfInBounds_toArray, List.set_cons_succ, List.set_cons_zero]
      refine steps_nil ?_
      go_wp2_with (first
        | (refine wpList_load_row rfl _ _ rfl _ rfl _ _ _ _ hB4 Try.underlying45 rfl (sumSize hcl) ?_)
        | (refine wpList_store_row rfl _ _ _ rfl _ _ rfl rfl _ _ hA4 (sumSize hcl) hA4s (u8s_all _) ?_))
      have hA5 : Blk (w4.setRow W.heap.size (u8s cs).toArray) W.heap.size 45 (u8s cs).toArray := setRow_blk hA4
      have hr5 : RRep (w4.setRow W.heap.size (u8s cs).toArray) r g c _ := h4.keep (fun k hk => setRow_other w4 _ k _ (by rcases hk with rfl | rfl; omega; omega))
      refine bodyPost_ret (v := .agg (u8s cs).toArray) (results_cell_row Try.results25 _ _ _ _ _ _ _ rfl hA5 Try.underlying45 rfl (sumSize hcl)) rfl ⟨by rw [hcs], rnext hr5 (setRow_ext _ ht4 (Nat.le_refl _))⟩
    · have ht0 : s.takeL 32 = ([], { s with err := 6 }) := by unfold Rd.takeL; rw [if_pos he, if_neg hb]
      have hs2 : s' = { s with err := 6 } := by rw [hs, ht0]
      have hc2 : cs = z32 := by rw [hcs, ht0]; rfl
      have HE := Lib.hid he
      have HC := Lib.hid hc2
      subst hs2
      clear he ht0 hs hc2
      go_enter Try.func25, Try.ntmps25
      go_wp2_with fail
      refine gen_world' (fun X => Ext W X ∧ Blk X W.heap.size 45 (u8s z32).toArray ∧ Blk X (W.heap.size + 1) 45 (u8s z32).toArray) ⟨((Ext.refl W).alloc _).alloc _, ?_, ?_⟩ ?_
      · exact (Blk.new W 45 (u8s z32).toArray).alloc _
      · have := Blk.new (W.alloc (.cells (u8s z32).toArray 45)) 45 (u8s z32).toArray
        simp only [World.size_alloc] at this
        exact this
      rintro W2 ⟨hE2, hA, hB⟩
      have h2 := (h.ext hE2).ext (Ext.refl W2).drew
      have hA2 : Blk W2.drew _ _ _ := hA
      have hB2 : Blk W2.drew _ _ _ := hB
      have hrl := h.blk.lt
      have hgl := h.glt
      have hE2d : Ext W W2.drew := hE2.drew
      clear h hA hB hE2
      have hne_ : Nonempty (Of (fun _ : World => True)) := trueOf_ne (W := by assumption)
      refine region_steps [0,1,2,3] [true,true,false,false] (fun _ : World => True) (by kernel_rfl) (by kernel_rfl) trivial ?_
      simp only [List.filterMap_cons, List.filterMap_nil, List.getElem?_cons_zero, List.getElem?_cons_succ]
      refine steps_quiet 2 (by kernel_rfl) ?_
      simp only [List.take_succ_cons, List.take_zero, List.drop_succ_cons, List.drop_zero]
      repeat (go_big_quiet_step (fail))
      refine wpQuiet_nil ?_
      refine steps_want rfl (fun K hK => ?_)
      go_simp
      refine (take_short h2 HE.out 32 (by omega) (by omega)).mono ?_
      rintro e w4 ⟨rfl, h4, ht3⟩
      have hnA : ¬ RFoot r g W.heap.size := by rintro (h | h) <;> omega
      have hnB : ¬ RFoot r g (W.heap.size + 1) := by rintro (h | h) <;> omega
      have hA4 := ht3.blk hA2 hnA
      have hB4 := ht3.blk hB2 hnB
      have ht4 : Tch (RFoot r g) W w4 := (Tch.of_ext (S := RFoot r g) hE2d).trans ht3 (fun _ h _ => h)
      rw [← HC.out] at hB4
      have hA4s : (u8s z32).toArray.size = (u8s cs).toArray.size := by simp [u8s, z32, hcl]
      clear ht3 hA2 hB2 h2 hE2d
      refine hK _ _ (fun _ => True) trivial (fun _ _ => trivial) ?_
      clear hK K
      try simp only [Act.put, List.setIfInBounds_toArray, List.set_cons_succ, List.set_cons_zero]
      refine steps_want rfl (fun K hK => ?_)
      refine Go.Lib.wp_copy_run w4 _ _ 23 23 rfl _ _ rfl rfl (run_copy_nil (P := Try.prog) w4 23 23 _ 5 _ 32 32 Try.underlying23 (by rw [u8Size]; rfl)) ?_
      clear hnA hnB
      refine hK _ _ (fun _ => True) trivial (fun _ _ => trivial) ?_
      clear hK K
      try simp only [Act.put, List.setIfInBounds_toArray, List.set_cons_succ, List.set_cons_zero]
      refine steps_nil ?_
      go_wp2_with (first
        | (refine wpList_load_row rfl _ _ rfl _ rfl _ _ _ _ hB4 Try.underlying45 rfl (sumSize hcl) ?_)
        | (refine wpList_store_row rfl _ _ _ rfl _ _ rfl rfl _ _ hA4 (sumSize hcl) hA4s (u8s_all _) ?_))
      have hA5 : Blk (w4.setRow W.heap.size (u8s cs).toArray) W.heap.size 45 (u8s cs).toArray := setRow_blk hA4
      have hr5 : RRep (w4.setRow W.heap.size (u8s cs).toArray) r g c _ := h4.keep (fun k hk => setRow_other w4 _ k _ (by rcases hk with rfl | rfl; omega; omega))
      refine bodyPost_ret (v := .agg (u8s cs).toArray) (results_cell_row Try.results25 _ _ _ _ _ _ _ rfl hA5 Try.underlying45 rfl (sumSize hcl)) rfl ⟨by rw [hcs], rnext hr5 (setRow_ext _ ht4 (Nat.le_refl _))⟩
  · have ht0 : s.takeL 32 = ([], s) := if_neg he
    have hs2 : s' = s := by rw [hs, ht0]
    have hc2 : cs = z32 := by rw [hcs, ht0]; rfl
    have HE := Lib.hid he
    have HC := Lib.hid hc2
    subst hs2
    clear he ht0 hs hc2
    go_enter Try.func25, Try.ntmps25
    go_wp2_with fail
    refine gen_world' (fun X => Ext W X ∧ Blk X W.heap.size 45 (u8s z32).toArray ∧ Blk X (W.heap.size + 1) 45 (u8s z32).toArray) ⟨((Ext.refl W).alloc _).alloc _, ?_, ?_⟩ ?_
    · exact (Blk.new W 45 (u8s z32).toArray).alloc _
    · have := Blk.new (W.alloc (.cells (u8s z32).toArray 45)) 45 (u8s z32).toArray
      simp only [World.size_alloc] at this
      exact this
    rintro W2 ⟨hE2, hA, hB⟩
    have h2 := (h.ext hE2).ext (Ext.refl W2).drew
    have hA2 : Blk W2.drew _ _ _ := hA
    have hB2 : Blk W2.drew _ _ _ := hB
    have hrl := h.blk.lt
    have hgl := h.glt
    have hE2d : Ext W W2.drew := hE2.drew
    clear h hA hB hE2
    have hne_ : Nonempty (Of (fun _ : World => True)) := trueOf_ne (W := by assumption)
    refine region_steps [0,1,2,3] [true,true,false,false] (fun _ : World => True) (by kernel_rfl) (by kernel_rfl) trivial ?_
    simp only [List.filterMap_cons, List.filterMap_nil, List.getElem?_cons_zero, List.getElem?_cons_succ]
    refine steps_quiet 2 (by kernel_rfl) ?_
    simp only [List.take_succ_cons, List.take_zero, List.drop_succ_cons, List.drop_zero]
    repeat (go_big_quiet_step (fail))
    refine wpQuiet_nil ?_
    refine steps_want rfl (fun K hK => ?_)
    go_simp
    refine (take_err h2 HE.out 32).mono ?_
    rintro e w4 ⟨rfl, hw4⟩
    have h4 := h2
    have ht3 := Tch.refl (RFoot r g) W2.drew
    rw [hw4] at h4 ht3 hA2 hB2 hE2d
    clear hw4
    have hnA : ¬ RFoot r g W.heap.size := by rintro (h | h) <;> omega
    have hnB : ¬ RFoot r g (W.heap.size + 1) := by rintro (h | h) <;> omega
    have hA4 := ht3.blk hA2 hnA
    have hB4 := ht3.blk hB2 hnB
    have ht4 : Tch (RFoot r g) W w4 := (Tch.of_ext (S := RFoot r g) hE2d).trans ht3 (fun _ h _ => h)
    rw [← HC.out] at hB4
    have hA4s : (u8s z32).toArray.size = (u8s cs).toArray.size := by simp [u8s, z32, hcl]
    clear ht3 hA2 hB2 h2 hE2d
    refine hK _ _ (fun _ => True) trivial (fun _ _ => trivial) ?_
    clear hK K
    try simp only [Act.put, List.setIfInBounds_toArray, List.set_cons_succ, List.set_cons_zero]
    refine steps_want rfl (fun K hK => ?_)
    refine Go.Lib.wp_copy_run w4 _ _ 23 23 rfl _ _ rfl rfl (run_copy_nil (P := Try.prog) w4 23 23 _ 5 _ 32 32 Try.underlying23 (by rw [u8Size]; rfl)) ?_
    clear hnA hnB
    refine hK _ _ (fun _ => True) trivial (fun _ _ => trivial) ?_
    clear hK K
    try simp only [Act.put, List.setIfInBounds_toArray, List.set_cons_succ, List.set_cons_zero]
    refine steps_nil ?_
    go_wp2_with (first
      | (refine wpList_load_row rfl _ _ rfl _ rfl _ _ _ _ hB4 Try.underlying45 rfl (sumSize hcl) ?_)
      | (refine wpList_store_row rfl _ _ _ rfl _ _ rfl rfl _ _ hA4 (sumSize hcl) hA4s (u8s_all _) ?_))
    have hA5 : Blk (w4.setRow W.heap.size (u8s cs).toArray) W.heap.size 45 (u8s cs).toArray := setRow_blk hA4
    have hr5 : RRep (w4.setRow W.heap.size (u8s cs).toArray) r g c _ := h4.keep (fun k hk => setRow_other w4 _ k _ (by rcases hk with rfl | rfl; omega; omega))
    refine bodyPost_ret (v := .agg (u8s cs).toArray) (results_cell_row Try.results25 _ _ _ _ _ _ _ rfl hA5 Try.underlying45 rfl (sumSize hcl)) rfl ⟨by rw [hcs], rnext hr5 (setRow_ext _ ht4 (Nat.le_refl _))⟩
theorem takeL_len (s : Rd) : ((s.takeL 32).1 ++ List.replicate (32 - (s.takeL 32).1.length) 0).length = 32 := by
  have : (s.takeL 32).1.length ≤ 32 := by
    unfold Rd.takeL
    split
    · split
      · simp; omega
      · simp
    · simp
  simp; omega
def Rd.sum (s : Rd) : List UInt8 := (s.takeL 32).1 ++ List.replicate (32 - (s.takeL 32).1.length) 0
theorem rsum_any (h : rA r s W F) : Calls Try.prog 25 #[.pointer (some ⟨r, 0, none⟩)] W fun e' W' => e' = .returned (.agg (u8s s.sum).toArray) ∧ Next F W W' (rA r (s.takeL 32).2) := by
  obtain ⟨g, c, h, rfl⟩ := h
  exact rsum_rep h _ _ (takeL_len s) rfl rfl
end
end Go.Proofs.Ytdaiondcaecklaa
