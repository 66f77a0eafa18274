/- SumParts, walked. -/
import Derived.Test.YtiaepnlhedgicaaSEq
namespace Go.Proofs.Ytiaepnlhedgicaa
set_option linter.unusedVariables false
set_option linter.unusedSimpArgs false
open Go Go.RowKit
theorem conv_row {X : World} {t e st : TypeId} {base n : Nat} {v : Value} {l : List UInt8} (ht : Try.prog.underlying t = some (.slice e)) (he : Try.prog.underlying e = some (.int .u8)) (hs : Try.prog.underlying st = some .string) (h : X.ownsRow base e 1 v n (u8s l)) :
    (convert t st v).run Try.prog X = .ok (.string (strOf l)) X := by
  obtain ⟨p, c, rfl⟩ := ownsRow_slice h
  have hn : n = l.length := by have := h.1; rw [u8s_length] at this; omega
  subst hn
  rcases h.2 with ⟨hv, h0⟩ | ⟨g, cap, cur, hv, _⟩
  · injection hv with e1 e2 e3
    subst e1
    have : l = [] := List.length_eq_zero_iff.1 h0
    subst this
    exact run_convert_bytes_nil X t e ht he _ _ st hs
  · injection hv with e1 e2 e3
    subst e1
    refine conv_str ht he hs X g 0 c l fun i hi => ?_
    have := row_news h _ rfl i _ (u8s_get l i hi)
    rw [Go.WideShapes.add_plain] at this
    exact this
abbrev BRow (v : Value) (l : List UInt8) : Asr := rowA 5 1 v l.length (u8s l)
theorem BRow_loc (v : Value) (l : List UInt8) : Loc (BRow v l) := rowA_loc _ _ _ _ _
theorem BRow.nil (W : World) : BRow (.slice none 0 0) [] W (fun k => (Value.slice none 0 0).ownBlock = some k) := ⟨World.ownsRow_nil _ _ _ _, rfl⟩
/-- bytes behind a row of one's own -/
theorem BRow.grow {w W W' : World} {v v' : Value} {l x : List UInt8} {ps : List Asr} (h : Has w W (BRow v l :: ps)) (hl : Locs ps) (hown : W'.ownsRow 0 5 1 v' (l.length + x.length) (u8s l ++ u8s x)) (hg : W.grownBy W' v.ownBlock) (hf : Fresh W v v') : Has w W' (BRow v' (l ++ x) :: ps) := by
  refine h.next hl fun F hF => ?_
  obtain ⟨_, rfl⟩ := hF
  refine Next.mk ⟨?_, rfl⟩ (grownBy.tch hg) hf.1
  rw [List.length_append, u8s_append]
  exact hown
def PaRel (w : World) (ps : List (List UInt8)) (qs : List Asr) (v k : Value) (wr : World) : Prop :=
  ∃ (i : Nat) (l : List UInt8), i ≤ ps.length ∧ k = .int .i64 i ∧ (ps.take i).flatten = l ∧ (∀ x ∈ ps.take i, x.length ≤ 300) ∧ Has w wr (BRow v l :: qs)
theorem flat_small {ps : List (List UInt8)} {n : Nat} (h : ∀ x ∈ ps, x.length ≤ n) : ps.flatten.length ≤ ps.length * n := by
  induction ps with
  | nil => simp
  | cons x ps ih =>
    have h1 := h x (by simp)
    have h2 := ih fun y hy => h y (by simp [hy])
    rw [List.flatten_cons, List.length_append, List.length_cons, Nat.add_mul]
    omega
set_option maxRecDepth 100000 in
set_option maxHeartbeats 4000000 in
theorem parts_any (w : World) (p : Option Addr) (c : Nat) (ps : List (List UInt8)) (hP : PartsAt (fun _ => False) w p ps) :
    Calls Try.prog 5 #[.slice p ps.length c] w fun e w' => e = .returned (.bool true) ∧ Ext w w' := by
  obtain ⟨i0, hi0, hz0, hz1, hz2⟩ := info_parts u8Info'
  go_enter Try.func5, Try.ntmps5
  go_wp2_with fail
  refine (known_any w).mono ?_
  rintro e w1 ⟨rfl, hE1⟩
  rcases (show (20 : Int) < ps.length ∨ ¬ (20 : Int) < ps.length by omega) with g | g1
  · go_wp2_with fail
    go_ret
    exact ⟨rfl, hE1⟩
  go_wp2_with fail
  have hH : Has w w1 [BRow (.slice none 0 0) []] := (Has.nil hE1).add .nil (Ext.refl w1) (BRow.nil w1) (fun k hk => by simp [Value.ownBlock] at hk)
  go_loopw [3, 19] (fun v k wr => PaRel w ps [] v k wr) (fun _ k _ => ((ps.length : Int) + 1 - intOf k).toNat)
  case atStart => exact ⟨0, [], by omega, rfl, rfl, by simp, hH⟩
  case round =>
    clear hH hE1
    obtain ⟨i, l, hi, rfl, hfl, hsm, hH⟩ := hrel
    by_cases gi : (i : Int) < ps.length
    · obtain ⟨b, o, rfl, qq, cq, hc, hN, hn, hc1, hc2⟩ := hP.get (Tch.of_ext hH.base) i (by omega)
      have hNr := hN wr (Tch.of_ext hH.base)
      have hll : l.length ≤ 6000 := by
        have := flat_small hsm
        rw [hfl, List.length_take] at this
        have : min i ps.length * 300 ≤ 20 * 300 := Nat.mul_le_mul_right _ (by omega)
        omega
      have hfl' : (ps.take (i + 1)).flatten = l ++ ps[i]'(by omega) := by
        rw [List.take_succ_eq_append_getElem (by omega), List.flatten_append, hfl]; simp
      have hsm' : (ps[i]'(by omega)).length ≤ 300 → ∀ x ∈ ps.take (i + 1), x.length ≤ 300 := by
        intro h x hx
        rw [List.take_succ_eq_append_getElem (by omega)] at hx
        rcases List.mem_append.1 hx with hx | hx
        · exact hsm x hx
        · simp at hx; subst hx; exact h
      have HF := Lib.hid hfl'
      have HS := Lib.hid hsm'
      clear hfl' hsm' hfl hsm
      generalize ps[i]'(by omega) = x at *
      rcases (show (300 : Int) < x.length ∨ ¬ (300 : Int) < x.length by omega) with g3 | g3
      · go_wp2_with fail
        go_ret
        exact ⟨rfl, hH.base⟩
      obtain ⟨F, hF⟩ := hH.head
      have hown := hF.1
      go_wp2_with (at_builtin; refine wpList_append_new rfl _ _ 22 rfl 5 i0 (.int .u8 0) 1 1 Try.underlying22 hi0 hz0 hz1 hz2 rfl (by decide) _ _ _ rfl hown qq x.length cq (u8s x) rfl (u8s_length x ▸ (Nat.mul_one _).symm) hn (news_at hNr) (u8s_one x) (by unfold maxLen; omega) (by omega) ?_)
      intro v3 w3 hown3 hg3 hf3
      have hH3 := BRow.grow hH .nil hown3 hg3 hf3
      clear hF hown hown3 hg3 hf3 hH hN hNr hc
      go_wp2_with fail
      exact ⟨⟨i + 1, l ++ x, by omega, by go_num, HF.out, HS.out (by omega), hH3⟩, by simp [intOf]; omega⟩
    · have hi' : i = ps.length := by omega
      subst hi'
      rw [List.take_length] at *
      have hll : l.length ≤ 6000 := by
        have := flat_small hsm
        rw [hfl] at this
        have : ps.length * 300 ≤ 20 * 300 := Nat.mul_le_mul_right _ (by omega)
        omega
      obtain ⟨F, hF⟩ := hH.head
      have hcv := conv_row Try.underlying22 Try.underlying5 Try.underlying9 hF.1
      have hPr : PartsAt (fun _ => False) wr p ps := hP.new hH.base (fun k h => h.elim)
      have hof := of_any wr p c ps hPr (by unfold maxLen; omega) (fun x hx => Nat.le_trans (hsm x hx) (by omega))
      rw [hfl] at hof
      have hcr := fun X (hE : Ext wr X) => crc_any X p c ps (hPr.new (F := fun _ => False) hE (fun k h => h.elim)).in_ (by unfold maxLen; omega)
      rw [hfl] at hcr
      have hsl := sha_len l
      go_wp2_with fail
      refine hof.mono ?_
      rintro e w2 ⟨rfl, hE2⟩
      have hH2 := hH.ext (.cons (BRow_loc _ _) .nil) hE2
      have hC2 := hcr w2 hE2
      have HL := Lib.hid hfl
      have HM := Lib.hid hsm
      clear hof hcr hH hcv hF hfl hsm hE2 hPr
      obtain ⟨a, ha⟩ : ∃ a, a = sha l := ⟨_, rfl⟩
      obtain ⟨y, hy⟩ : ∃ y, y = wv (crc l) := ⟨_, rfl⟩
      rw [← ha] at hsl ⊢
      rw [← hy] at hC2
      have HA := Lib.hid ha
      have HY := Lib.hid hy
      clear ha hy
      go_wp2_with fail
      refine hC2.mono ?_
      rintro e w3 ⟨rfl, rfl⟩
      clear hC2
      have hH3 : Has w (w3.alloc (.cells (u8s (zb 32)).toArray 29)) [SmA w3.heap.size (zb 32), BRow u3 l] :=
        hH2.add (.cons (BRow_loc _ _) .nil) (ext_alloc w3 (.cells (u8s (zb 32)).toArray 29)) (p := SmA w3.heap.size (zb 32)) (F := fun k => k = w3.heap.size) ⟨Blk.new _ _ _, rfl⟩ (fun k hk => by omega)
      have hB3 := Blk.new w3 29 (u8s (zb 32)).toArray
      have hH4 := BdA_row (l' := a) hH3 (.cons (BRow_loc _ _) .nil)
      go_upto_region 15 with (refine wpList_store_row rfl _ _ _ rfl w3.heap.size (u8s a).toArray rfl rfl _ _ hB3 (smSize hsl) (by simp [zb, u8s, hsl]) (u8s_oneAll _) ?_)
      refine gen_world' (fun X => Has w X [SmA w3.heap.size a, BRow u3 l]) hH4 ?_
      clear hH3 hB3 hH2 hH4
      intro w4 hH4
      generalize hbx : w3.heap.size = bx at *
      go_wp2_with fail
      have hH5 : Has w w4 [BRow (.slice none 0 0) [], SmA bx a, BRow u3 l] := hH4.add (.cons (SmA_loc _ _) (.cons (BRow_loc _ _) .nil)) (Ext.refl w4) (BRow.nil w4) (fun k hk => by simp [Value.ownBlock] at hk)
      clear hH4
      go_loopw [9, 38] (fun v k wr => PaRel w ps [SmA bx a, BRow u3 l] v k wr) (fun _ k _ => ((ps.length : Int) + 1 - intOf k).toNat)
      case atStart => exact ⟨0, [], by omega, rfl, rfl, by simp, hH5⟩
      case round =>
        clear hH5
        obtain ⟨i, m, hi, rfl, hfl, hsm, hH⟩ := hrel
        by_cases gi : (i : Int) < ps.length
        · obtain ⟨b, o, rfl, qq, cq, hc, hN, hn, hc1, hc2⟩ := hP.get (Tch.of_ext hH.base) i (by omega)
          have hNr := hN _ (Tch.of_ext hH.base)
          have hmm : m.length ≤ 6000 := by
            have := flat_small hsm
            rw [hfl, List.length_take] at this
            have : min i ps.length * 300 ≤ 20 * 300 := Nat.mul_le_mul_right _ (by omega)
            omega
          have hfl' : (ps.take (i + 1)).flatten = m ++ ps[i]'(by omega) := by
            rw [List.take_succ_eq_append_getElem (by omega), List.flatten_append, hfl]; simp
          have hx3 := HM.out _ (List.getElem_mem (show i < ps.length by omega))
          have HF := Lib.hid hfl'
          clear hfl' hfl hsm
          generalize ps[i]'(by omega) = x at *
          obtain ⟨F, hF⟩ := hH.head
          have hown := hF.1
          go_wp2_with (at_builtin; refine wpList_append_new rfl _ _ 22 rfl 5 i0 (.int .u8 0) 1 1 Try.underlying22 hi0 hz0 hz1 hz2 rfl (by decide) _ _ _ rfl hown qq x.length cq (u8s x) rfl (u8s_length x ▸ (Nat.mul_one _).symm) hn (news_at hNr) (u8s_one x) (by unfold maxLen; omega) (by omega) ?_)
          intro v3 w5 hown3 hg3 hf3
          have hH3 := BRow.grow hH (.cons (SmA_loc _ _) (.cons (BRow_loc _ _) .nil)) hown3 hg3 hf3
          clear hF hown hown3 hg3 hf3 hH hN hNr hc
          go_wp2_with fail
          exact ⟨⟨i + 1, m ++ x, by omega, by go_num, HF.out, fun x hx => HM.out x (List.mem_of_mem_take hx), hH3⟩, by simp [intOf]; omega⟩
        · have hi' : i = ps.length := by omega
          subst hi'
          rw [List.take_length] at *
          rw [HL.out] at hfl
          subst hfl
          clear hsm
          obtain ⟨pv, cv, rfl⟩ : ∃ p c, u3 = .slice p l.length c := by
            obtain ⟨F, hF⟩ := hH.drop.drop.head
            exact ownsRow_slice hF.1
          go_upto_region 21 with fail
          have hFd := (hH.ext (.cons (BRow_loc _ _) (.cons (SmA_loc _ _) (.cons (BRow_loc _ _) .nil))) (Ext.refl wr).drew)
          have hne_ : Nonempty (Of (fun X => Has w X [BRow u9 l, SmA bx a, BRow (.slice pv l.length cv) l])) := ⟨⟨_, hFd⟩⟩
          refine region_steps [1,0,2,3,4,5,6,7,8,9,10,11,12,13,15,14,16,17,18] [true,true,false,false,false,true,true,true,false,false,false,true,true,true,true,false,false,true,false] (fun X => Has w X [BRow u9 l, SmA bx a, BRow (.slice pv l.length cv) l]) (by kernel_rfl) (by kernel_rfl) hFd ?_
          simp only [List.filterMap_cons, List.filterMap_nil, List.getElem?_cons_zero, List.getElem?_cons_succ]
          refine steps_quiet 1 (by kernel_rfl) ?_
          simp only [List.take_succ_cons, List.take_zero, List.drop_succ_cons, List.drop_zero]
          repeat (go_big_quiet_step (fail))
          refine wpQuiet_nil ?_
          refine steps_load_row rfl _ _ rfl bx rfl 29 (u8s a).toArray _ (fun X hX => (show Has w X _ from hX).swap.head.choose_spec.1) Try.underlying29 rfl (smSize hsl) ?_
          have hHd := hH.ext (.cons (BRow_loc _ _) (.cons (SmA_loc _ _) (.cons (BRow_loc _ _) .nil))) (Ext.refl wr).drew
          clear hH hFd
          generalize World.drew wr = wd at *
          obtain ⟨F3, hF3⟩ := hHd.drop.drop.head
          have hcap := row_cap hF3.1
          have hnil := row_nil hF3.1
          have hll : l.length ≤ 70368744177664 := by
            have := flat_small HM.out
            rw [HL.out] at this
            have : ps.length * 300 ≤ 20 * 300 := Nat.mul_le_mul_right _ (by omega)
            omega
          have hN1 := NumsAt.row hF3.1
          refine steps_want rfl (fun K hK => ?_)
          go_simp
          have hHe := hHd.ext (.cons (BRow_loc _ _) (.cons (SmA_loc _ _) (.cons (BRow_loc _ _) .nil))) (ext_alloc wd (.cells #[.slice pv l.length cv] 22))
          refine hK _ _ _ hHe (fun _ h => h) ?_
          clear hK K
          refine steps_want rfl (fun K hK => ?_)
          go_simp
          refine (of_one (t := 22) hN1 hnil hcap.1 hcap.2 hll).mono ?_
          rintro e w6 ⟨rfl, hE6⟩
          have hHf := hHd.ext (.cons (BRow_loc _ _) (.cons (SmA_loc _ _) (.cons (BRow_loc _ _) .nil))) hE6
          rw [← HA.out]
          clear hHe hHd hE6 hN1 hF3
          refine hK _ _ _ hHf (fun _ h => h) ?_
          clear hK K
          have hcm := eq_sum w6 a a hsl hsl
          rw [decide_eq_true rfl] at hcm
          refine steps_want rfl (fun K hK => ?_)
          go_simp
          clear hcm
          refine hK _ _ _ hHf (fun _ h => h) ?_
          clear hK K
          refine steps_quiet 3 (by kernel_rfl) ?_
          simp only [List.take_succ_cons, List.take_zero, List.drop_succ_cons, List.drop_zero]
          repeat (go_big_quiet_step (fail))
          refine wpQuiet_nil ?_
          refine steps_want rfl (fun K hK => ?_)
          go_simp
          have hHg := hHf.ext (.cons (BRow_loc _ _) (.cons (SmA_loc _ _) (.cons (BRow_loc _ _) .nil))) (ext_alloc w6 (.cells #[.slice pv l.length cv] 22))
          refine hK _ _ _ hHg (fun _ h => h) ?_
          clear hK K
          obtain ⟨F3, hF3⟩ := hHf.drop.drop.head
          have hN1 := NumsAt.row hF3.1
          refine steps_want rfl (fun K hK => ?_)
          go_simp
          refine (crc_one (t := 22) hN1 hnil hcap.1 hcap.2).mono ?_
          rw [← HY.out]
          rintro e w7 ⟨rfl, rfl⟩
          refine hK _ _ _ hHg (fun _ h => h) ?_
          clear hK K hHf hN1 hF3
          generalize World.alloc w6 _ = w7 at *
          refine steps_want rfl (fun K hK => ?_)
          go_simp
          refine hK _ _ _ hHg (fun _ h => h) ?_
          clear hK K
          refine steps_quiet 4 (by kernel_rfl) ?_
          simp only [List.take_succ_cons, List.take_zero, List.drop_succ_cons, List.drop_zero]
          repeat (go_big_quiet_step (fail))
          refine wpQuiet_nil ?_
          obtain ⟨F9, hF9⟩ := hHg.head
          have hcv := conv_row Try.underlying22 Try.underlying5 Try.underlying9 hF9.1
          refine steps_want rfl (fun K hK => ?_)
          go_simp
          refine hK _ _ _ hHg (fun _ h => h) ?_
          clear hK K hcv hF9
          refine steps_want rfl (fun K hK => ?_)
          go_simp
          refine hK _ _ _ hHg (fun _ h => h) ?_
          clear hK K
          refine steps_quiet 1 (by kernel_rfl) ?_
          simp only [List.take_succ_cons, List.take_zero, List.drop_succ_cons, List.drop_zero]
          repeat (go_big_quiet_step (fail))
          refine wpQuiet_nil ?_
          refine steps_want rfl (fun K hK => ?_)
          go_simp
          refine hK _ _ _ hHg (fun _ h => h) ?_
          clear hK K
          refine steps_nil ?_
          go_wp2_with fail
          go_ret
          exact ⟨rfl, hHg.base⟩
end Go.Proofs.Ytiaepnlhedgicaa
