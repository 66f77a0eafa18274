/- A log: Left, fail, settle. -/
import Derived.Test.YthghflfgldcmbaaWMark
namespace Go.Proofs.Ythghflfgldcmbaa
set_option maxRecDepth 4000
set_option linter.unusedVariables false
set_option linter.unusedSimpArgs false
open Go Go.RowKit
abbrev lgC (d rg hd tl : Nat) (wv : Value) (fl : Bool) : Array Value := #[.pointer (some ⟨d, 0, none⟩), .pointer (some ⟨rg, 0, none⟩), .int .u64 hd, .int .u64 tl, wv, .bool fl]
def logA (lg d rg hd tl : Nat) (wv : Value) (fl : Bool) : Asr := blkA lg 65 (lgC d rg hd tl wv fl)
theorem logA_loc (lg d rg hd tl : Nat) (wv : Value) (fl : Bool) : Loc (logA lg d rg hd tl wv fl) := blkA_loc _ _ _
abbrev Lg (W : World) (lg d rg hd tl : Nat) (wv : Value) (fl : Bool) : Prop := Blk W lg 65 (lgC d rg hd tl wv fl)
theorem walleft_any {W : World} {lg d rg tl T : Nat} {wv rv : Value} {fl : Bool} (h : Lg W lg d rg 0 tl wv fl) (hr : Ring W rg d T rv) (hT : T ≤ 24576) :
    Calls Try.prog 6 #[.pointer (some ⟨lg, 0, none⟩)] W fun e W' => e = .returned (.int .i64 (24576 - T)) ∧ Ext W W' := by
  have d1 : ∀ x : Of (fun X => Lg X lg d rg 0 tl wv fl ∧ Ring X rg d T rv), x.val.cell? ⟨lg, 1, none⟩ = some (.pointer (some ⟨rg, 0, none⟩)) := fun x => Blk.cell x.property.1 1
  have d2 : ∀ x : Of (fun X => Lg X lg d rg 0 tl wv fl ∧ Ring X rg d T rv), x.val.cell? ⟨lg, 2, none⟩ = some (.int .u64 0) := fun x => Blk.cell x.property.1 2
  go_enter Try.func6, Try.ntmps6
  go_wp2_with fail
  have hFd := (show Lg W.drew lg d rg 0 tl wv fl ∧ Ring W.drew rg d T rv from ⟨h, hr⟩)
  have hne_ : Nonempty (Of ((fun X => Lg X lg d rg 0 tl wv fl ∧ Ring X rg d T rv))) := ⟨⟨_, hFd⟩⟩
  refine region_steps [0,1,2,3,4,5,6,7,8,9] [true,true,true,true,true,true,true,true,false,true] ((fun X => Lg X lg d rg 0 tl wv fl ∧ Ring X rg d T rv)) (by kernel_rfl) (by kernel_rfl) hFd ?_
  simp only [List.filterMap_cons, List.filterMap_nil, List.getElem?_cons_zero, List.getElem?_cons_succ]
  refine steps_quiet 8 (by kernel_rfl) ?_
  simp only [List.take_succ_cons, List.take_zero, List.drop_succ_cons, List.drop_zero]
  repeat (go_big_quiet_step (fail))
  refine wpQuiet_nil ?_
  refine steps_want rfl (fun K hK => ?_)
  go_simp
  refine (left_any (W := W.drew) hr hT).mono ?_
  rintro e w2 ⟨rfl, rfl⟩
  refine hK _ _ (fun X => Lg X lg d rg 0 tl wv fl ∧ Ring X rg d T rv) ⟨h, hr⟩ (fun _ h => h) ?_
  clear hK K
  (try simp only [Act.put, List.setIfInBounds_toArray, List.set_cons_succ, List.set_cons_zero])
  refine steps_quiet 1 (by kernel_rfl) ?_
  simp only [List.take_succ_cons, List.take_zero, List.drop_succ_cons, List.drop_zero]
  repeat (go_big_quiet_step (fail))
  refine wpQuiet_nil ?_
  refine steps_nil ?_
  go_wp2_with fail
  go_ret
  exact ⟨rfl, (Ext.refl W).drew⟩
theorem fail_any {w W : World} {d : Nat} {s : DS} {ps : List Asr} {lg rg hd tl : Nat} {wv : Value} {fl : Bool} (h : dkH w W d s (logA lg d rg hd tl wv fl :: ps)) (hl : Locs ps) (z : Int) :
    Calls Try.prog 20 #[.pointer (some ⟨lg, 0, none⟩), .int .i64 z] W fun e W' => e = .returned (.int .i64 z) ∧ dkH w W' d s (logA lg d rg hd tl wv true :: ps) := by
  have hb : Lg W lg d rg hd tl wv fl := h.rest.blk0
  have c5 : World.cell? W ⟨lg, 5, none⟩ = some (.bool fl) := Blk.cell hb 5
  have f5 := Blk.frozen hb 5
  have h2 : dkH w (W.setCell ⟨lg, 5, none⟩ (.bool true)) d s (logA lg d rg hd tl wv true :: ps) := h.turn (fun hl h => h.set hl 5 (.bool true)) hl
  clear h hb
  go_enter Try.func20, Try.ntmps20
  go_wp2_with fail
  go_ret
  exact ⟨rfl, h2⟩
end Go.Proofs.Ythghflfgldcmbaa
