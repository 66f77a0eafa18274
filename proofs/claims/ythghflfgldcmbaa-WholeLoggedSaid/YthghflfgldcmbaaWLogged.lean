/- Does a log tell just these batches? -/
import Derived.Test.YthghflfgldcmbaaWCommit
namespace Go.Proofs.Ythghflfgldcmbaa
set_option maxRecDepth 4000
set_option linter.unusedVariables false
set_option linter.unusedSimpArgs false
open Go Go.RowKit
def stC (al : List (List UInt8)) : List Value := al.map fun b => .string (strOf b)
theorem frC_at : ∀ (fs : List Bw) (i : Nat) (h : i < fs.length), (frC fs)[2 * i]? = some (.int .i64 1) ∧ (frC fs)[2 * i + 1]? = some (bwV fs[i])
  | x :: fs, 0, _ => ⟨rfl, rfl⟩
  | x :: fs, i + 1, h => by
    have := frC_at fs i (by simpa using h)
    have e : frC (x :: fs) = .int .i64 1 :: bwV x :: frC fs := rfl
    rw [e, show 2 * (i + 1) = 2 * i + 1 + 1 by omega, List.getElem?_cons_succ, List.getElem?_cons_succ, List.getElem?_cons_succ, List.getElem?_cons_succ, List.getElem_cons_succ]
    exact this
def LdRel (w : World) (d : Nat) (s : DS) (L : List Asr) (fs : List Bw) (al : List (List UInt8)) (v14 : Value) (wr : World) : Prop :=
  ∃ i : Nat, i ≤ fs.length ∧ v14 = .int .i64 i ∧ (∀ j, j < i → (fs.map (·.2.2))[j]? = al[j]?) ∧ dkH w wr d s L
set_option maxHeartbeats 4000000 in
theorem logged_any {w W : World} {d : Nat} {s : DS} {L : List Asr} {p q : Option Addr} {c cq : Nat} {fs : List Bw} {al : List (List UInt8)} (h : dkH w W d s L) (hl : Locs L) (hf : rowA 74 2 (.slice p fs.length c) fs.length (frC fs) ∈ L) (hv : ∀ x ∈ fs, bwA x ∈ L) (ha : rowA 9 1 (.slice q al.length cq) al.length (stC al) ∈ L) :
    Calls Try.prog 13 #[.slice p fs.length c, .slice q al.length cq] W fun e W' => e = .returned (.bool (decide (fs.map (·.2.2) = al))) ∧ dkH w W' d s L := by
  by_cases hlen : fs.length = al.length
  · have hst := Lib.hid hlen
    have heq : ((fs.length : Int) == al.length) = true := by rw [hlen]; exact beq_self_eq_true _
    have hnq : ((fs.length : Int) != al.length) = false := by unfold bne; rw [heq]; rfl
    clear hlen
    go_enter Try.func13, Try.ntmps13
    go_wp2_with fail
    clear heq hnq
    go_loopw [14] (fun v wr => LdRel w d s L fs al v wr) (fun v _ => ((fs.length : Int) + 1 - intOf v).toNat)
    case atStart => exact ⟨0, Nat.zero_le _, rfl, (fun j hj => by omega), h⟩
    case round =>
      clear h
      obtain ⟨i, hi, rfl, hpre, h⟩ := hrel
      by_cases gi : (i : Int) < fs.length
      · have hif : i < fs.length := by omega
        have hia : i < al.length := by have := hst.out; omega
        have hrf := (Has.owned h.rest hf).1
        obtain ⟨gf, rfl⟩ : ∃ gf, p = some ⟨gf, 0, none⟩ := by
          rcases hrf.2 with ⟨_, h0⟩ | ⟨g1, cap, cur, hv, _⟩
          · omega
          · injection hv with e1 _ _; exact ⟨g1, e1⟩
        obtain ⟨gq, rfl, hcs⟩ := row_at (Has.owned h.rest ha).1 (i := i) (x := .string (strOf al[i])) (by unfold stC; rw [List.getElem?_map, List.getElem?_eq_getElem hia]; rfl)
        have hfl : (fs.length : Int) ≤ 9223372036854775807 := by
          rcases hrf.2 with ⟨_, h0⟩ | ⟨g1, cap, cur, hv, _, _, h1, h2, _⟩
          · omega
          · unfold maxLen at h2; omega
        have hc0 := hrf.cells (g := gf) rfl _ _ (frC_at fs i hif).1
        have hc1 := hrf.cells (g := gf) rfl _ _ (frC_at fs i hif).2
        rw [Go.WideShapes.add_plain, Nat.zero_add, Nat.mul_comm] at hc0
        rw [Go.WideShapes.add_plain, Nat.zero_add, Nat.mul_comm] at hc1
        obtain ⟨F, hV, _⟩ := Has.memlo h.rest (hv _ (List.getElem_mem hif))
        have hV2 : View wr fs[i].1 fs[i].2.1 fs[i].2.2 := hV.1
        have hbe : (fs.map (·.2.2))[i]? = some fs[i].2.2 := by rw [List.getElem?_map, List.getElem?_eq_getElem hif]; rfl
        have hae : al[i]? = some al[i] := List.getElem?_eq_getElem hia
        have HBE := Lib.hid hbe
        have HAE := Lib.hid hae
        clear hV hbe hae hrf
        unfold bwV at hc1
        generalize fs[i] = x at *
        obtain ⟨pb, cb, b⟩ := x
        generalize al[i] = b2 at *
        have h2 := h.new hl 74 #[.int .i64 1, .slice pb b.length cb]
        go_upto_region 6 with fail
        have hE := ext_alloc wr (.cells #[.int .i64 1, .slice pb b.length cb] 74)
        have hgq : gq < wr.heap.size := ((Has.owned h.rest ha).1.lt gq rfl).2
        have hF : Fr (wr.alloc (.cells #[.int .i64 1, .slice pb b.length cb] 74)).drew wr.heap.size pb b.length cb ∧ View (wr.alloc (.cells #[.int .i64 1, .slice pb b.length cb] 74)).drew pb cb b ∧ World.cell? (wr.alloc (.cells #[.int .i64 1, .slice pb b.length cb] 74)).drew ⟨gq, i, none⟩ = some (.string (strOf b2)) := ⟨h2.rest.blk0, hV2.ext hE.drew, (hE.drew.cell gq i hgq).trans hcs⟩
        generalize wr.alloc (.cells #[.int .i64 1, .slice pb b.length cb] 74) = w2 at *
        generalize wr.heap.size = fb at *
        have d0 : ∀ x : Of (fun X => Fr X fb pb b.length cb ∧ View X pb cb b ∧ X.cell? ⟨gq, i, none⟩ = some (.string (strOf b2))), x.val.cell? ⟨fb, 0, none⟩ = some (.int .i64 1) := fun x => Blk.cell x.property.1 0
        have d1 : ∀ x : Of (fun X => Fr X fb pb b.length cb ∧ View X pb cb b ∧ X.cell? ⟨gq, i, none⟩ = some (.string (strOf b2))), x.val.cell? ⟨fb, 1, none⟩ = some (.slice pb b.length cb) := fun x => Blk.cell x.property.1 1
        have d2 : ∀ x : Of (fun X => Fr X fb pb b.length cb ∧ View X pb cb b ∧ X.cell? ⟨gq, i, none⟩ = some (.string (strOf b2))), x.val.cell? ⟨gq, i, none⟩ = some (.string (strOf b2)) := fun x => x.property.2.2
        have d3 : ∀ x : Of (fun X => Fr X fb pb b.length cb ∧ View X pb cb b ∧ X.cell? ⟨gq, i, none⟩ = some (.string (strOf b2))), (convert 36 9 (.slice pb b.length cb)).run Try.prog x.val = .ok (.string (strOf b)) x.val := fun x => conv_arg Try.underlying36 Try.underlying5 Try.underlying9 x.property.2.1.nums x.property.2.1.nil_
        have hbq := strOf_beq b b2
        have hia' : (i : Int) < al.length := by omega
        clear hcs hc0 hc1 hV2
        have hFd := hF
        have hne_ : Nonempty (Of ((fun X => Fr X fb pb b.length cb ∧ View X pb cb b ∧ X.cell? ⟨gq, i, none⟩ = some (.string (strOf b2))))) := ⟨⟨_, hFd⟩⟩
        refine region_steps [0,1,2,3,4,5,6,7,8,9,10,11,12] [true,true,true,true,true,true,true,true,true,true,true,true,true] ((fun X => Fr X fb pb b.length cb ∧ View X pb cb b ∧ X.cell? ⟨gq, i, none⟩ = some (.string (strOf b2)))) (by kernel_rfl) (by kernel_rfl) hFd ?_
        simp only [List.filterMap_cons, List.filterMap_nil, List.getElem?_cons_zero, List.getElem?_cons_succ]
        refine steps_quiet 13 (by kernel_rfl) ?_
        simp only [List.take_succ_cons, List.take_zero, List.drop_succ_cons, List.drop_zero]
        repeat (go_big_quiet_step (fail))
        refine wpQuiet_nil ?_
        have h3 : dkH w w2.drew d s L := (h2.ext (.cons (blkA_loc _ _ _) hl) (Ext.refl w2).drew).drop
        clear h2 hF hFd d0 d1 d2 d3
        generalize World.drew w2 = w3 at *
        refine steps_nil ?_
        by_cases hbb : b = b2
        · subst hbb
          have hbs : (b == b) = true := beq_self_eq_true _
          simp only [hbs, Bool.not_true]
          go_wp2_with fail
          refine ⟨⟨i + 1, hif, by go_num, fun j hj => ?_, h3⟩, by simp [intOf]; omega⟩
          rcases Nat.lt_or_ge j i with h | h
          · exact hpre j h
          · have e : j = i := by omega
            rw [e, HBE.out, HAE.out]
        · have hd : decide (fs.map (·.2.2) = al) = false := decide_eq_false fun e => hbb (by
            have h1 := HBE.out
            rw [e, HAE.out] at h1
            injection h1 with h1
            exact h1.symm)
          have HD := Lib.hid hd
          clear hd
          have hbs : (b == b2) = false := by simpa using hbb
          simp only [hbs, Bool.not_false]
          go_wp2_with fail
          go_ret
          refine ⟨?_, h3⟩
          rw [HD.out]; rfl
      · have hi2 : i = fs.length := by omega
        have hall : fs.map (·.2.2) = al := by
          apply List.ext_getElem?
          intro j
          by_cases hj : j < i
          · exact hpre j hj
          · have := hst.out
            rw [List.getElem?_eq_none (by rw [List.length_map]; omega), List.getElem?_eq_none (by omega)]
        have hd : decide (fs.map (·.2.2) = al) = true := decide_eq_true hall
        have HD := Lib.hid hd
        clear hd hall
        go_wp2_with fail
        go_ret
        refine ⟨?_, h⟩
        rw [HD.out]; rfl
  · have hne : ((fs.length : Int) == al.length) = false := by
      have : ¬ (fs.length : Int) = al.length := by omega
      simpa using this
    have hd : decide (fs.map (·.2.2) = al) = false := decide_eq_false fun e => hlen (by rw [← e, List.length_map])
    rw [hd]
    go_enter Try.func13, Try.ntmps13
    go_wp2_with fail
    go_ret
    exact ⟨rfl, h⟩
end Go.Proofs.Ythghflfgldcmbaa
