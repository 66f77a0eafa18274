/- A new disk. -/
import Derived.Test.YthghflfgldcmbaaDFlush
import Derived.Test.YthghflfgldcmbaaStepsZ
namespace Go.Proofs.Ythghflfgldcmbaa
set_option maxRecDepth 4000
set_option linter.unusedVariables false
set_option linter.unusedSimpArgs false
open Go Go.RowKit Go.MapKept Go.ChangeMaps
def zeroSec : List UInt8 := List.replicate 128 0
def freshD (n : Nat) : DS := ⟨n, fun _ => zeroSec, fun _ => none, false, -1⟩
/-- so many noughts, as cells -/
def zrow (n : Nat) : Array Value := madeCells #[.int .u8 0] n
theorem zrow_list (n : Nat) : (zrow n).toList = u8s (List.replicate n 0) := by
  unfold zrow madeCells u8s
  apply List.ext_getElem?
  intro i
  by_cases hi : i < n
  · simp [hi, Nat.mod_one]
  · simp [hi]
theorem make_bytes (X : World) (n : Nat) (h : n ≤ 1000000) : (Instr.makeSlice 36 (.int .i64 n) (.int .i64 n)).run Try.prog X = .ok (.slice (some ⟨X.heap.size, 0, none⟩) n n) (X.alloc (.cells (zrow n) 5)) := by
  obtain ⟨i, hi0, hz0, hz1, hz2⟩ := info_parts u8Info
  have h3 := run_make (P := Try.prog) X 36 5 i _ Try.underlying36 hi0 hz0 .i64 .i64 n n (by omega) (Int.le_refl _) (by rw [hz2]; omega) (by omega)
  rw [hz1] at h3
  simp only [Int.toNat_natCast, Nat.mul_one] at h3
  exact h3
theorem zrow_own (X : World) (n : Nat) (h : n ≤ maxLen) : (X.alloc (.cells (zrow n) 5)).ownsRow X.heap.size 5 1 (.slice (some ⟨X.heap.size, 0, none⟩) n n) n (u8s (List.replicate n 0)) := by
  rw [← zrow_list]
  exact World.ownsRow_lit X _ n (Nat.le_refl _) h (by simp [zrow, madeCells])
def NewOut (w W' : World) (n : Nat) (ps : List Asr) (e : Ending) : Prop := ∃ d, e = .returned (.tuple #[.pointer (some ⟨d, 0, none⟩), .int .i64 0]) ∧ dkH w W' d (freshD n) ps
theorem secInfo : (Try.prog.info? 36).map (fun i => (i.zero, i.size, i.bytes)) = some (some (.slice none 0 0), 1, 24) := by kernel_rfl
def dCells (sv : Value) (mb : Nat) : Array Value := #[.int .i64 0, .int .i64 0, sv, .map (some mb), .bool false, .int .i64 (-1)]
def DnRel (w : World) (d mb n : Nat) (ps : List Asr) (v : Value) (wr : World) : Prop :=
  ∃ (i : Nat) (sv : Value) (X : List (Value × List UInt8)), i ≤ n ∧ v = .int .i64 i ∧ X.length = i ∧ (∀ x ∈ X, x.2 = zeroSec) ∧
    Has w wr (blkA d 55 (dCells sv mb) :: rowA 36 1 sv i (X.map (·.1)) :: objA mb (.map #[] 0) :: (X.map secA ++ ps))
theorem disk_build (mb : Option Nat) (X : World) : (Instr.build 55 #[(2, .map mb), (4, .int .i64 (-1))]).run Try.prog X = .ok (.agg #[.int .i64 0, .int .i64 0, .slice none 0 0, .map mb, .bool false, .int .i64 (-1)]) X := by kernel_rfl
set_option maxHeartbeats 1000000 in
theorem new_any {w W : World} {ps : List Asr} (h : Has w W ps) (hl : Locs ps) (n : Nat) (h1 : 1 ≤ n) (h2 : n ≤ 4096) :
    Calls Try.prog 4 #[.int .i64 n] W fun e W' => NewOut w W' n ps e := by
  have hmm := @run_makeMap Try.prog
  have hbd := disk_build
  obtain ⟨i0, hi0, hz0, hz1, hz2⟩ := info_parts secInfo
  have hn1 : decide ((n : Int) < 1) = false := decide_eq_false (by omega)
  have hn2 : decide ((4096 : Int) < n) = false := decide_eq_false (by omega)
  go_enter Try.func4, Try.ntmps4
  go_upto_region 4 with fail
  have hX := ((h.newObj hl (.map #[] 0)).new (.cons (objA_loc _ _) hl) 55 (dCells (.slice none 0 0) W.heap.size))
  have hX2 := (hX.rowNil (.cons (blkA_loc _ _ _) (.cons (objA_loc _ _) hl)) 36 1).swap
  rw [show (W.alloc (.map #[] 0)).heap.size = W.heap.size + 1 by simp] at hX2
  refine gen_world' (fun X => Has w X (blkA (W.heap.size + 1) 55 (dCells (.slice none 0 0) W.heap.size) :: rowA 36 1 (.slice none 0 0) 0 [] :: objA W.heap.size (.map #[] 0) :: ps)) hX2 ?_
  clear hX hX2 hmm hbd h
  generalize W.heap.size + 1 = d at *
  generalize W.heap.size = mb at *
  intro w1 hX
  go_wp2_with fail
  go_loopw [15] (fun v wr => DnRel w d mb n ps v wr) (fun v _ => ((n : Int) + 1 - intOf v).toNat)
  case atStart => exact ⟨0, .slice none 0 0, [], Nat.zero_le _, rfl, rfl, (fun x hx => by cases hx), hX⟩
  case round =>
    clear hX
    obtain ⟨i, sv, X, hi, rfl, hXl, hz, hX⟩ := hrel
    by_cases gi : (i : Int) < n
    · have hb := hX.blk0
      have c2 := hb.cell 2
      simp only [dCells, List.getElem?_toArray, List.getElem?_cons_zero, List.getElem?_cons_succ] at c2
      go_upto_region 6 with fail
      have d0 : ∀ x : Of (fun Y => Y.cell? ⟨d, 2, none⟩ = some sv), x.val.cell? ⟨d, 2, none⟩ = some sv := fun x => x.property
      have hFd := (show World.cell? wr.drew ⟨d, 2, none⟩ = _ from c2)
      have hne_ : Nonempty (Of ((fun Y => Y.cell? ⟨d, 2, none⟩ = some sv))) := ⟨⟨_, hFd⟩⟩
      refine region_planZ 10 (.seg [0,1,2,3,4,5,6,7,8,9] [true,true,true,true,true,false,false,false,false,true] .done) ((fun Y => Y.cell? ⟨d, 2, none⟩ = some sv)) (by kernel_rfl) (by kernel_rfl) hFd ?_
      refine walkZ_seg ?_
      simp only [List.filterMap_cons, List.filterMap_nil, List.getElem?_cons_zero, List.getElem?_cons_succ]
      refine steps_quiet 5 (by kernel_rfl) ?_
      simp only [List.take_succ_cons, List.take_zero, List.drop_succ_cons, List.drop_zero]
      repeat (go_big_quiet_step (fail))
      refine wpQuiet_nil ?_
      have LX : Locs (blkA d 55 (dCells sv mb) :: rowA 36 1 sv i (X.map (·.1)) :: objA mb (.map #[] 0) :: (X.map secA ++ ps)) := .cons (blkA_loc _ _ _) (.cons (rowA_loc _ _ _ _ _) (.cons (objA_loc _ _) ((Locs.map _ secA_loc X).append hl)))
      have hX1 := Has.ext hX LX (Ext.refl wr).drew
      clear hX d0 hFd hb c2
      generalize World.drew wr = w1 at *
      have hmk : (Instr.makeSlice 36 (.int .i64 128) (.int .i64 128)).run Try.prog w1 = .ok (.slice (some ⟨w1.heap.size, 0, none⟩) 128 128) (w1.alloc (.cells (zrow 128) 5)) := make_bytes w1 128 (by omega)
      refine steps_want rfl (fun K hK => ?_)
      go_simp
      have hX2 := hX1.fresh LX (ext_alloc w1 (.cells (zrow 128) 5)) (zrow_own w1 128 (by unfold maxLen; omega))
      clear hX1 hmk
      generalize World.alloc w1 _ = w2 at *
      generalize w1.heap.size = zb at *
      refine hK _ _ (fun Y => Y.cell? ⟨d, 2, none⟩ = some sv) (hX2.drop.blk0.cell 2) (fun _ h => h) ?_
      clear hK K
      (try simp only [Act.put, List.setIfInBounds_toArray, List.set_cons_succ, List.set_cons_zero])
      refine steps_want rfl (fun K hK => ?_)
      go_simp
      have LX2 : Locs (rowA 5 1 (.slice (some ⟨zb, 0, none⟩) 128 128) 128 (u8s (List.replicate 128 0)) :: blkA d 55 (dCells sv mb) :: rowA 36 1 sv i (X.map (·.1)) :: objA mb (.map #[] 0) :: (X.map secA ++ ps)) := .cons (rowA_loc _ _ _ _ _) LX
      have hX3 := hX2.ext LX2 (ext_alloc w2 (.cells [Value.slice (some ⟨zb, 0, none⟩) 128 128].toArray 36))
      have hnews := news_new w2 [Value.slice (some ⟨zb, 0, none⟩) 128 128] 36
      clear hX2
      generalize World.alloc w2 _ = w3 at *
      refine hK _ _ (fun Y => Y.cell? ⟨d, 2, none⟩ = some sv) (hX3.drop.blk0.cell 2) (fun _ h => h) ?_
      clear hK K
      (try simp only [Act.put, List.setIfInBounds_toArray, List.set_cons_succ, List.set_cons_zero])
      have hX4 := hX3.third
      have hown := hX4.row0
      have hin : i < n := by omega
      have LX4 : Locs (rowA 5 1 (.slice (some ⟨zb, 0, none⟩) 128 128) 128 (u8s (List.replicate 128 0)) :: blkA d 55 (dCells sv mb) :: objA mb (.map #[] 0) :: (X.map secA ++ ps)) := .cons (rowA_loc _ _ _ _ _) (.cons (blkA_loc _ _ _) (.cons (objA_loc _ _) ((Locs.map _ secA_loc X).append hl)))
      clear hX3
      refine steps_want rfl (fun K hK => ?_)
      refine wp_append_new _ _ 53 rfl 36 i0 (.slice none 0 0) 1 24 Try.underlying53 hi0 hz0 hz1 hz2 rfl (by decide) sv i (X.map (·.1)) rfl hown (some ⟨w2.heap.size, 0, none⟩) 1 1 [.slice (some ⟨zb, 0, none⟩) 128 128] rfl rfl (fun h => nomatch h) hnews (by intro u hu; simp at hu; subst hu; rfl) (by unfold maxLen; omega) (by omega) ?_
      intro v6 w8 hown6 hg6 hf6
      obtain ⟨p6, c6, hv6⟩ := ownsRow_slice hown6
      subst hv6
      have hX6 := (hX4.grow LX4 hown6 hg6 hf6).third
      clear hX4 hown hown6 hg6 hf6 hnews
      refine hK _ _ (fun Y => Y.cell? ⟨d, 2, none⟩ = some sv) (hX6.blk0.cell 2) (fun _ h => h) ?_
      clear hK K
      (try simp only [Act.put, List.setIfInBounds_toArray, List.set_cons_succ, List.set_cons_zero])
      have o6 : w8.cell? ⟨d, 2, none⟩ = some sv := hX6.blk0.cell 2
      have f6 := hX6.blk0.frozen 2
      refine steps_want rfl (fun K hK => ?_)
      go_simp
      refine hK _ _ (fun Y => Y.cell? ⟨d, 2, none⟩ = some sv) o6 (fun _ h => h) ?_
      clear hK K
      (try simp only [Act.put, List.setIfInBounds_toArray, List.set_cons_succ, List.set_cons_zero])
      refine steps_quiet 1 (by kernel_rfl) ?_
      simp only [List.take_succ_cons, List.take_zero, List.drop_succ_cons, List.drop_zero]
      repeat (go_big_quiet_step (fail))
      refine wpQuiet_nil ?_
      refine steps_end ?_
      refine walkZ_done rfl rfl (fun K hK => ?_)
      go_simp
      refine hK _ _ ?_
      clear hK K
      try simp only [Act.put, List.setIfInBounds_toArray, List.set_cons_succ, List.set_cons_zero]
      have hX7 := hX6.set (.cons (rowA_loc _ _ _ _ _) (.cons (rowA_loc _ _ _ _ _) (.cons (objA_loc _ _) ((Locs.map _ secA_loc X).append hl)))) 2 (.slice p6 (i + 1) c6)
      simp only [dCells, List.setIfInBounds_toArray, List.set_cons_succ, List.set_cons_zero] at hX7
      generalize World.setCell _ _ _ = w9 at *
      clear hX6 o6 f6
      have hX8 : Has w w9 (blkA d 55 (dCells (.slice p6 (i + 1) c6) mb) :: rowA 36 1 (.slice p6 (i + 1) c6) (i + 1) ((X ++ [(Value.slice (some ⟨zb, 0, none⟩) 128 128, zeroSec)]).map (·.1)) :: objA mb (.map #[] 0) :: ((X ++ [(Value.slice (some ⟨zb, 0, none⟩) 128 128, zeroSec)]).map secA ++ ps)) := by
        rw [List.map_append, List.map_append (f := secA)]
        refine hX7.perm ?_
        refine List.Perm.cons _ (List.Perm.cons _ ?_)
        refine (List.Perm.swap _ _ _).trans (List.Perm.cons _ ?_)
        have : (X.map secA ++ [(Value.slice (some ⟨zb, 0, none⟩) 128 128, zeroSec)].map secA) ++ ps = X.map secA ++ secA (Value.slice (some ⟨zb, 0, none⟩) 128 128, zeroSec) :: ps := by simp
        rw [this]
        exact List.perm_middle.symm
      have HXL := Lib.hid hXl
      clear hX7 hXl
      go_wp2_with fail
      refine ⟨⟨i + 1, .slice p6 (i + 1) c6, _, by omega, by go_num, by rw [List.length_append, HXL.out, List.length_singleton], fun x hx => ?_, hX8⟩, by simp [intOf]; omega⟩
      rcases List.mem_append.1 hx with hx | hx
      · exact hz x hx
      · simp at hx; rw [hx]
    · have hin : i = n := by omega
      subst hin
      have H := Lib.hid hXl
      clear hXl
      go_wp2_with fail
      go_ret2
      refine ⟨d, rfl, ⟨h2, (show (-1 : Int) ≤ -1 by omega), (show (-1 : Int) ≤ 9223372036854775807 by omega)⟩, ⟨0, 0, sv, mb, X, [], 0⟩, ⟨H.out, fun j hj => ?_, PeOk.nil _, (fun p hp => by cases hp), fun j => rfl⟩, ?_⟩
      · have hj' : j < X.length := by rw [H.out]; exact hj
        rw [List.getElem?_eq_getElem hj']
        exact congrArg some (hz _ (List.getElem_mem hj'))
      · rw [things_eq]
        exact hX
end Go.Proofs.Ythghflfgldcmbaa
