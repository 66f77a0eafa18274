/- A ring's Read and Open. -/
import Derived.Test.YthghflfgldcmbaaWSeal
namespace Go.Proofs.Ythghflfgldcmbaa
set_option maxRecDepth 4000
set_option linter.unusedVariables false
set_option linter.unusedSimpArgs false
open Go Go.RowKit
/-- the ring's bytes on the disk -/
def DS.rdB (s : DS) (i : Nat) : UInt8 := (s.readB (2 + i / 128)).getD (i % 128) 0
def DS.rd (s : DS) (a n : Nat) : List UInt8 := (List.range n).map fun j => s.rdB (a + j)
theorem DS.rd_length (s : DS) (a n : Nat) : (s.rd a n).length = n := by simp [DS.rd]
theorem DS.rd_zero (s : DS) (a : Nat) : s.rd a 0 = [] := rfl
theorem DS.rd_chunk (s : DS) (a k m : Nat) (hl : (s.readB (2 + (a + k) / 128)).length = 128) (hm : m ≤ 128 - (a + k) % 128) : s.rd a k ++ ((s.readB (2 + (a + k) / 128)).drop ((a + k) % 128)).take m = s.rd a (k + m) := by
  apply List.ext_getElem
  · rw [List.length_append, DS.rd_length, DS.rd_length, List.length_take, List.length_drop, hl]; omega
  · intro i h1 h2
    rw [DS.rd_length] at h2
    rcases Nat.lt_or_ge i k with h | h
    · rw [List.getElem_append_left (by rw [DS.rd_length]; exact h)]
      simp [DS.rd]
    · rw [List.getElem_append_right (by rw [DS.rd_length]; exact h)]
      simp only [DS.rd_length, List.getElem_take, List.getElem_drop]
      simp only [DS.rd, List.getElem_map, List.getElem_range, DS.rdB]
      rw [show a + i = (a + k) + (i - k) by omega]
      generalize a + k = b at *
      rw [show (b + (i - k)) / 128 = b / 128 by omega, show (b + (i - k)) % 128 = b % 128 + (i - k) by omega, List.getD_eq_getElem?_getD, List.getElem?_eq_getElem (by omega)]
      rfl
theorem slice_fromU (X : World) (g n c l : Nat) (zl : Int) (hzl : zl = l) (hln : l ≤ n) (hl : l < c) : (Instr.sliceAt 36 (.slice (some ⟨g, 0, none⟩) n c) (some (.int .u64 zl)) none none).run Try.prog X = .ok (.slice (some ⟨g, l, none⟩) (n - l) (c - l)) X := by
  subst hzl
  have ht : Try.prog.underlying 36 = some (.slice (Try.prog.elem 36)) := by kernel_rfl
  have hs : (sizeOf (Try.prog.elem 36)).run Try.prog X = .ok 1 X := by kernel_rfl
  rw [run_sliceAt_slice (w := X) _ _ _ _ _ ht, run_slice_l (w := X) _ (some ⟨g, 0, none⟩) n c ht .u64 l (by omega) (by omega), hs]
  simp only [sliced, Result.andThen, Int.toNat_natCast, Nat.mul_one]
  rw [if_neg (by omega), Option.map_some, Go.WideShapes.add_plain, Nat.zero_add]
def RiRel (w : World) (d : Nat) (s : DS) (ps : List Asr) (a n : Nat) (va vn vo : Value) (wr : World) : Prop :=
  ∃ (k : Nat) (p : Option Addr) (c : Nat), k ≤ n ∧ va = .int .u64 ((a + k : Nat) : Int) ∧ vn = .int .i64 ((n - k : Nat) : Int) ∧ vo = .slice p k c ∧ dkH w wr d s (rowA 5 1 (.slice p k c) k (u8s (s.rd a k)) :: ps)
def RiOut (w W' : World) (d : Nat) (s : DS) (ps : List Asr) (a n : Nat) (e : Ending) : Prop :=
  ∃ p c, e = .returned (.tuple #[.slice p n c, .int .i64 0]) ∧ dkH w W' d s (rowA 5 1 (.slice p n c) n (u8s (s.rd a n)) :: ps)
set_option maxHeartbeats 4000000 in
theorem rread_any {w W : World} {d : Nat} {s : DS} {ps : List Asr} {g T : Nat} {rv : Value} (h : dkH w W d s ps) (hl : Locs ps) (hn : s.n = 194) (hdn : s.down = false) (hr : ringA g d T rv ∈ ps) (hT : T ≤ 24576) (a n : Nat) (han : a + n ≤ T) :
    Calls Try.prog 29 #[.pointer (some ⟨g, 0, none⟩), .int .u64 a, .int .i64 n] W fun e W' => RiOut w W' d s ps a n e := by
  obtain ⟨i0, hi0, hz0, hz1, hz2⟩ := info_parts u8Info
  have hb := h.rest.blk hr
  have hb' : Ring W g d T rv := hb
  have rc0 : World.cell? W ⟨g, 0, none⟩ = some (.pointer (some ⟨d, 0, none⟩)) := Blk.cell hb 0
  have rc1 : World.cell? W ⟨g, 1, none⟩ = some (.int .i64 2) := Blk.cell hb 1
  have rc2 : World.cell? W ⟨g, 2, none⟩ = some (.int .i64 192) := Blk.cell hb 2
  have rc3 : World.cell? W ⟨g, 3, none⟩ = some (.int .u64 T) := Blk.cell hb 3
  have rc4 : World.cell? W ⟨g, 4, none⟩ = some rv := Blk.cell hb 4
  have g1 : ¬ (T : Int) < a := by omega
  have g2 : ¬ (T : Int) - a < n := by omega
  have g3 : ¬ (n : Int) < 0 := by omega
  clear hb
  have h1 := h.with_ (fun hl h => h.rowNil hl 5 1) hl
  have HR := Lib.hid hr
  have HN := Lib.hid hn
  clear h hr hn
  go_enter Try.func29, Try.ntmps29
  go_wp2_with fail
  refine (size_any hb').mono ?_
  rintro e W2 ⟨rfl, rfl⟩
  have g4 : ¬ (24576 : Int) < ((T : Int) + 128 - 1) / 128 * 128 - a := by omega
  go_wp2_with fail
  clear g1 g2 g3 g4 rc0 rc1 rc2 rc3 rc4 hb'
  go_loopw [1, 2, 9] (fun va vn vo wr => RiRel w d s ps a n va vn vo wr) (fun _ vn _ _ => (1 + intOf vn).toNat)
  case atStart => exact ⟨0, none, 0, Nat.zero_le _, rfl, rfl, rfl, h1⟩
  case round =>
    clear h1
    obtain ⟨k, p, c, hk, rfl, rfl, rfl, h1⟩ := hrel
    obtain ⟨b, hb⟩ : ∃ b, a + k = b := ⟨_, rfl⟩
    obtain ⟨m, hm⟩ : ∃ m, n - k = m := ⟨_, rfl⟩
    rw [hb, hm]
    have hbT : b + m ≤ T := by omega
    have HB := Lib.hid hb
    have HM := Lib.hid hm
    by_cases gk : (0 : Int) < m
    · clear hb hm
      have L1 : Locs (rowA 5 1 (.slice p k c) k (u8s (s.rd a k)) :: ps) := .cons (rowA_loc _ _ _ _ _) hl
      have hring : Ring wr g d T rv := h1.rest.drop.blk HR.out
      go_upto_region 8 with fail
      have d0 : ∀ x : Of (fun X => Ring X g d T rv), x.val.cell? ⟨g, 0, none⟩ = some (.pointer (some ⟨d, 0, none⟩)) := fun x => Blk.cell x.property 0
      have hFd := (show Ring wr.drew g d T rv from hring)
      have hne_ : Nonempty (Of ((fun X => Ring X g d T rv))) := ⟨⟨_, hFd⟩⟩
      refine region_steps [0,1,2,3,4,5,6,7,8,9,10,11,12] [true,true,true,true,true,true,false,false,true,true,true,true,true] ((fun X => Ring X g d T rv)) (by kernel_rfl) (by kernel_rfl) hFd ?_
      simp only [List.filterMap_cons, List.filterMap_nil, List.getElem?_cons_zero, List.getElem?_cons_succ]
      have h2 := h1.ext L1 (Ext.refl wr).drew
      refine steps_quiet 6 (by kernel_rfl) ?_
      simp only [List.take_succ_cons, List.take_zero, List.drop_succ_cons, List.drop_zero]
      repeat (go_big_quiet_step (fail))
      refine wpQuiet_nil ?_
      clear hring h1 d0
      generalize World.drew wr = w3 at *
      refine steps_want rfl (fun K hK => ?_)
      go_simp
      refine (sector_any hFd b (by omega)).mono ?_
      rintro e w4 ⟨rfl, hE4⟩
      have h3 := h2.ext L1 hE4
      clear h2
      refine hK _ _ (fun X => Ring X g d T rv) (h3.rest.drop.blk HR.out) (fun _ h => h) ?_
      clear hK K hE4
      (try simp only [Act.put, List.setIfInBounds_toArray, List.set_cons_succ, List.set_cons_zero])
      have hrd := read_any h3 L1 (2 + b / 128) (by rw [HN.out]; omega) hdn
      refine steps_want rfl (fun K hK => ?_)
      go_simp
      refine hrd.mono ?_
      rintro e w5 ⟨ar, cr, rfl, h4⟩
      clear hrd h3
      refine hK _ _ (fun X => Ring X g d T rv) (h4.rest.drop.drop.blk HR.out) (fun _ h => h) ?_
      clear hK K hFd
      (try simp only [Act.put, List.setIfInBounds_toArray, List.set_cons_succ, List.set_cons_zero])
      refine steps_quiet 5 (by kernel_rfl) ?_
      simp only [List.take_succ_cons, List.take_zero, List.drop_succ_cons, List.drop_zero]
      repeat (go_big_quiet_step (fail))
      refine wpQuiet_nil ?_
      refine steps_nil ?_
      obtain ⟨hown, -⟩ := Has.owned h4.rest (e := 5) (size := 1) (v := .slice (some ar) 128 cr) (n := 128) (xs := u8s (s.readB (2 + b / 128))) (by simp)
      have hlen := sec_len hown
      obtain ⟨gb, hcc, rfl⟩ : ∃ gb, 128 ≤ cr ∧ ar = ⟨gb, 0, none⟩ := by
        rcases hown.2 with ⟨hv, _⟩ | ⟨g1, cap, cur, hv, _, _, hn1, _⟩
        · cases hv
        · injection hv with e1 e2 e3
          injection e1 with e1
          exact ⟨g1, by omega, e1⟩
      have hV := (View.of_row hown).drop (b % 128) (by rw [hlen]; omega)
      obtain ⟨o, ho⟩ : ∃ o, b % 128 = o := ⟨_, rfl⟩
      obtain ⟨r, hr⟩ : ∃ r, 128 - o = r := ⟨_, rfl⟩
      have hmod : (b : Int) % 128 = o := by omega
      have ho128 : o < 128 := by omega
      have hsl := slice_fromU w5 gb 128 cr o o rfl (by omega) (by omega)
      rw [ho, Nat.zero_add] at hV
      rw [hr] at hsl
      have HO := Lib.hid ho
      have HRR := Lib.hid hr
      clear ho hr
      go_upto_region 12 with fail
      clear hsl
      obtain ⟨q, hq⟩ : ∃ q, min m r = q := ⟨_, rfl⟩
      have hqi : min (m : Int) (r : Int) = q := by omega
      have hqr : q ≤ r := by omega
      have hq0 : 0 < q := by have := HRR.out; omega
      have hqm : q ≤ m := by omega
      have hsl2 := slice_to w5 (some ⟨gb, o, none⟩) r (cr - o) q q rfl (by have := HRR.out; omega)
      have hV2 := hV.take q (cr - o) (by rw [List.length_drop, hlen]; have := HRR.out; omega) (by have := HRR.out; omega) (by have := hV.cap; exact this) (fun h => by cases h)
      have hq128 : q ≤ 128 - b % 128 := by rw [HO.out]; have := HRR.out; omega
      have HCH := Lib.hid (DS.rd_chunk s a k q (by rw [HB.out]; exact hlen) (by rw [HB.out]; exact hq128))
      obtain ⟨l2, hl2⟩ : ∃ l2, ((s.readB (2 + b / 128)).drop o).take q = l2 := ⟨_, rfl⟩
      have hll : l2.length = q := by rw [← hl2, List.length_take, List.length_drop, hlen]; have := HRR.out; omega
      rw [hl2] at hV2
      have HL2 := Lib.hid hl2
      clear hq hV hl2 hqr hown
      go_upto_region 13 with fail
      clear hsl2 hqi
      have h5 : dkH w w5 d s (rowA 5 1 (.slice p k c) k (u8s (s.rd a k)) :: rowA 5 1 (.slice (some ⟨gb, 0, none⟩) 128 cr) 128 (u8s (s.readB (2 + b / 128))) :: ps) := h4.perm (List.Perm.swap _ _ _)
      have hown := h5.rest.row0
      have hnews := hV2.news
      clear h4
      have hk3 : k + q ≤ 24576 := by have := HB.out; omega
      go_wp2_with (at_builtin; refine wpList_append_new rfl _ _ 36 rfl 5 i0 (.int .u8 0) 1 1 Try.underlying36 hi0 hz0 hz1 hz2 rfl (by decide) _ k (u8s (s.rd a k)) rfl hown (some ⟨gb, o, none⟩) q (cr - o) (u8s l2) rfl (by rw [u8s_length, hll, Nat.mul_one]) (fun h => nomatch h) hnews (u8s_one l2) (by unfold maxLen; omega) (by omega) ?_)
      intro v' w6 hown6 hg6 hf6
      obtain ⟨p2, c2, rfl⟩ := ownsRow_slice hown6
      have hcat : u8s (s.rd a k) ++ u8s l2 = u8s (s.rd a (k + q)) := by
        rw [← u8s_append]
        have := HCH.out
        rw [HB.out, HO.out, HL2.out] at this
        rw [this]
      rw [hcat] at hown6
      have h6 := (h5.turn (q := rowA 5 1 (.slice p2 (k + q) c2) (k + q) (u8s (s.rd a (k + q)))) (fun hl h => h.grow hl hown6 hg6 hf6) (.cons (rowA_loc _ _ _ _ _) hl)).swap_drop
      clear h5 hown hnews hown6 hg6 hf6 hcat hV2
      go_wp2_with fail
      exact ⟨⟨k + q, p2, c2, by have := HM.out; omega, by have := HB.out; rw [show a + (k + q) = b + q by omega]; go_num, by have := HM.out; rw [show n - (k + q) = m - q by omega]; go_num, rfl, h6⟩, by simp [intOf]; omega⟩
    · have hmz : m = 0 := by omega
      have hk2 : k = n := by omega
      subst hk2
      go_wp2_with fail
      go_ret2
      exact ⟨p, c, rfl, h1⟩
end Go.Proofs.Ythghflfgldcmbaa
