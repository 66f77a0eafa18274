/- SumRuns, walked. -/
import Derived.Test.YtiaepnlhedgicaaSRef3
import Derived.Test.YtiaepnlhedgicaaSRef2
import Derived.OwnWalk
namespace Go.Proofs.Ytiaepnlhedgicaa
set_option linter.unusedVariables false
set_option linter.unusedSimpArgs false
open Go Go.RowKit
theorem made_u8 (n : Nat) : (madeCells #[Value.int .u8 0] n).toList = u8s (zb n) := by
  apply List.ext_getElem?
  intro i
  simp [madeCells, u8s, zb, Nat.mod_one]
  by_cases h : i < n
  · simp [List.getElem?_replicate, h]
  · simp [List.getElem?_replicate, h]
abbrev NRow (g c n : Nat) (l : List UInt8) : Asr := rowA 5 1 (.slice (some ⟨g, 0, none⟩) n c) n (u8s l)
def RnRel (w : World) (x : UInt8) (g n : Nat) (k : Value) (wr : World) : Prop := ∃ i : Nat, i ≤ n ∧ k = .int .i64 i ∧ Has w wr [NRow g n n (List.replicate i x ++ zb (n - i))]
theorem runs_step (x : UInt8) (n i : Nat) (h : i < n) : (List.replicate i x ++ zb (n - i)).set i x = List.replicate (i + 1) x ++ zb (n - (i + 1)) := by
  have hz : zb (n - i) = 0 :: zb (n - (i + 1)) := by rw [show n - i = (n - (i + 1)) + 1 by omega]; rfl
  rw [hz, List.set_append_right _ _ (by simp), List.replicate_succ']
  simp
set_option maxRecDepth 100000 in
set_option maxHeartbeats 4000000 in
theorem runs_any (w : World) (x : UInt8) (n : Int) (hb : -9223372036854775808 ≤ n ∧ n ≤ 9223372036854775807) :
    Calls Try.prog 9 #[.int .u8 (x.toNat : Int), .int .i64 n] w fun e w' => e = .returned (.bool true) ∧ Ext w w' := by
  obtain ⟨i0, hi0, hz0, hz1, hz2⟩ := info_parts u8Info'
  have hxb := u8_bd x
  go_enter Try.func9, Try.ntmps9
  go_wp2_with fail
  refine (known_any w).mono ?_
  rintro e w1 ⟨rfl, hE1⟩
  rcases (show n < 0 ∨ ¬ n < 0 by omega) with g | g2
  · go_wp2_with fail
    go_ret
    exact ⟨rfl, hE1⟩
  rcases (show n > 200 ∨ ¬ n > 200 by omega) with g | g3
  · go_wp2_with fail
    go_ret
    exact ⟨rfl, hE1⟩
  obtain ⟨m, rfl⟩ : ∃ m : Nat, n = m := ⟨n.toNat, by omega⟩
  go_upto_region 6 with (refine wpList_make_full _ rfl _ _ _ rfl 0 5 i0 (.int .u8 0) 1 Try.underlying22 hi0 hz0 hz1 .i64 .i64 (m : Int) (m : Int) m rfl rfl rfl rfl (by rw [hz2]; omega) (by unfold maxLen; omega) (Nat.zero_le _) ?_)
  intro w2 hown hg
  rw [made_u8] at hown
  have hE12 : Ext w1 w2 := (Ext.refl w1).grown hg (Nat.le_refl _) (fun k hk => by cases hk)
  have hH : Has w w2 [NRow w1.heap.size m m (List.replicate 0 x ++ zb (m - 0))] := (Has.nil hE1).add .nil hE12 (p := NRow w1.heap.size m m (zb m)) (F := fun k => (Value.slice (some ⟨w1.heap.size, 0, none⟩) m m).ownBlock = some k) ⟨hown, rfl⟩ (fun k hk => Nat.le_of_eq (by simpa [Value.ownBlock] using hk))
  clear hown hg hE12
  generalize w1.heap.size = g at *
  have hm2 : (m : Int) ≤ 200 := by omega
  go_wp2_with fail
  go_loopw [19] (fun k wr => RnRel w x g m k wr) (fun k _ => ((m : Int) + 1 - intOf k).toNat)
  case atStart => exact ⟨0, by omega, rfl, hH⟩
  case round =>
    clear hH
    obtain ⟨i, hi, rfl, hH⟩ := hrel
    by_cases gi : (i : Int) < m
    · have hl : (List.replicate i x ++ zb (m - i)).length = m := by simp [zb]; omega
      obtain ⟨F, hF⟩ := hH.head
      have hcj := hF.1.cellAt i (by omega)
      rw [u8s_get _ i (by omega)] at hcj
      have hfj := hF.1.frozenAt i
      have hH8 := BRow.put hH .nil i x
      rw [runs_step x m i (by omega)] at hH8
      generalize List.replicate i x ++ zb (m - i) = l0 at *
      clear hF hH hl
      go_wp2_with fail
      exact ⟨⟨i + 1, by omega, by go_num, hH8⟩, by simp [intOf]; omega⟩
    · have hi' : i = m := by omega
      subst hi'
      have hl : List.replicate i x ++ zb (i - i) = List.replicate i x := by simp [zb]
      rw [hl] at hH
      have hll : (List.replicate i x).length = i := by simp
      generalize List.replicate i x = l at *
      subst hll
      have hcb := fun (x : Of fun X => Has w X [NRow g l.length l.length l]) => conv_row Try.underlying22 Try.underlying5 Try.underlying9 x.property.head.choose_spec.1
      have hrow := fun {X : World} (h : Has w X [NRow g l.length l.length l]) => h.head.choose_spec.1
      have hO := fun {X : World} (h : Has w X [NRow g l.length l.length l]) => of_one (t := 22) (NumsAt.row (hrow h)) (fun h => by cases h) (Nat.le_refl _) (row_cap (hrow h)).2 (by omega)
      have hC := fun {X : World} (h : Has w X [NRow g l.length l.length l]) => crc_one (t := 22) (NumsAt.row (hrow h)) (fun h => by cases h) (Nat.le_refl _) (row_cap (hrow h)).2
      have hR1 := fun (X : World) => refof_any X l (by omega)
      have hR2 := fun (X : World) => refcrc_any X l (by omega)
      have hsl := sha_len l
      generalize sha l = y at hO hR1 hsl
      generalize wv (crc l) = z at hC hR2
      have LN : Locs [NRow g l.length l.length l] := .cons (rowA_loc _ _ _ _ _) .nil
      go_upto_region 11 with fail
      have hFd := (hH.ext LN (Ext.refl wr).drew)
      have hne_ : Nonempty (Of (fun X => Has w X [NRow g l.length l.length l])) := ⟨⟨_, hFd⟩⟩
      refine region_steps [0,3,4,1,2,5,6,7,8,11,12,9,10,13,14,15,16] [true,true,true,false,false,false,false,true,true,true,true,false,false,false,false,true,false] (fun X => Has w X [NRow g l.length l.length l]) (by kernel_rfl) (by kernel_rfl) hFd ?_
      simp only [List.filterMap_cons, List.filterMap_nil, List.getElem?_cons_zero, List.getElem?_cons_succ]
      refine steps_quiet 3 (by kernel_rfl) ?_
      simp only [List.take_succ_cons, List.take_zero, List.drop_succ_cons, List.drop_zero]
      repeat (go_big_quiet_step (fail))
      refine wpQuiet_nil ?_
      clear hFd
      have hH2 := hH.ext LN (Ext.refl wr).drew
      generalize World.drew wr = w2 at *
      clear hH
      refine steps_want rfl (fun K hK => ?_)
      go_simp
      refine hK _ _ _ (hH2.ext LN (ext_alloc w2 (.cells #[.slice (some ⟨g, 0, none⟩) l.length l.length] 22))) (fun _ h => h) ?_
      clear hK K
      refine steps_want rfl (fun K hK => ?_)
      go_simp
      refine (hO hH2).mono ?_
      rintro e w3 ⟨rfl, hE'⟩
      have hH3 := hH2.ext LN hE'
      refine hK _ _ _ hH3 (fun _ h => h) ?_
      clear hK K hH2 hE'
      refine steps_want rfl (fun K hK => ?_)
      go_simp
      refine (hR1 _).mono ?_
      rintro e w4 ⟨rfl, hE4⟩
      have hH4 := hH3.ext LN hE4
      refine hK _ _ _ hH4 (fun _ h => h) ?_
      clear hK K hH3 hE4
      have hcm := eq_sum w4 y y hsl hsl
      rw [decide_eq_true rfl] at hcm
      refine steps_want rfl (fun K hK => ?_)
      go_simp
      clear hcm
      refine hK _ _ _ hH4 (fun _ h => h) ?_
      clear hK K
      refine steps_quiet 4 (by kernel_rfl) ?_
      simp only [List.take_succ_cons, List.take_zero, List.drop_succ_cons, List.drop_zero]
      repeat (go_big_quiet_step (fail))
      refine wpQuiet_nil ?_
      refine steps_want rfl (fun K hK => ?_)
      go_simp
      refine hK _ _ _ (hH4.ext LN (ext_alloc w4 (.cells #[.slice (some ⟨g, 0, none⟩) l.length l.length] 22))) (fun _ h => h) ?_
      clear hK K
      refine steps_want rfl (fun K hK => ?_)
      go_simp
      refine (hC hH4).mono ?_
      rintro e w5 ⟨rfl, rfl⟩
      have hH5 := hH4.ext LN (ext_alloc w4 (.cells #[.slice (some ⟨g, 0, none⟩) l.length l.length] 22))
      refine hK _ _ _ hH5 (fun _ h => h) ?_
      clear hK K hH4
      refine steps_want rfl (fun K hK => ?_)
      go_simp
      refine (hR2 _).mono ?_
      rintro e w6 ⟨rfl, hE6⟩
      have hH6 := hH5.ext LN hE6
      refine hK _ _ _ hH6 (fun _ h => h) ?_
      clear hK K hH5 hE6
      refine steps_want rfl (fun K hK => ?_)
      go_simp
      refine hK _ _ _ hH6 (fun _ h => h) ?_
      clear hK K
      refine steps_quiet 1 (by kernel_rfl) ?_
      simp only [List.take_succ_cons, List.take_zero, List.drop_succ_cons, List.drop_zero]
      repeat (go_big_quiet_step (fail))
      refine wpQuiet_nil ?_
      refine steps_want rfl (fun K hK => ?_)
      go_simp
      refine hK _ _ _ hH6 (fun _ h => h) ?_
      clear hK K
      refine steps_nil ?_
      try simp only [Act.put]
      go_wp2_with fail
      go_ret
      exact ⟨rfl, hH6.base⟩
end Go.Proofs.Ytiaepnlhedgicaa
