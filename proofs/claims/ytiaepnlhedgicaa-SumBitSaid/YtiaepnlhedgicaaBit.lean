/- SumBit, walked. -/
import Derived.Test.YtiaepnlhedgicaaSRowB
import Derived.Test.YtiaepnlhedgicaaBitPlain
import Derived.IntWalk
import Derived.Test.YtiaepnlhedgicaaConv
namespace Go.Proofs.Ytiaepnlhedgicaa
set_option linter.unusedVariables false
set_option linter.unusedSimpArgs false
open Go Go.RowKit
theorem crc_blk {X : World} {g : Nat} {t : TypeId} {q : Option Addr} {c : Nat} {l : List UInt8} (hb : Blk X g t #[.slice q l.length c]) (hN : NumsAt .u8 X q (byI l)) (hn : q = none → l.length = 0 ∧ c = 0) (h1 : l.length ≤ c) (h2 : c ≤ maxLen) :
    Calls Try.prog 11 #[.slice (some ⟨g, 0, none⟩) 1 1] X fun e w' => e = .returned (.int .u32 (wv (crc l))) ∧ X = w' := by
  have := crc_any _ _ 1 [l] (PartsAt.one hb hN hn h1 h2).in_ (by unfold maxLen; simp)
  rw [flat1] at this
  exact this.mono fun e w' ⟨h, k⟩ => ⟨h, k.symm⟩
theorem Blk.ext {X Y : World} {g : Nat} {t : TypeId} {cs : Array Value} (h : Blk X g t cs) (hE : Ext X Y) : Blk Y g t cs := h.of_eq (hE.block _ h.lt)
def BiRel (w : World) (b : List UInt8) (at_ : Nat) (g c : Nat) (k : Value) (wr : World) : Prop :=
  ∃ (j : Nat) (m : List UInt8), j ≤ 32 ∧ k = .int .i64 j ∧ m.length = b.length ∧ (∀ i, i < at_ ∨ at_ + 32 ≤ i → (bitsOf m).getD i false = (bitsOf b).getD i false) ∧ Has w wr [rowA 5 1 (.slice (some ⟨g, 0, none⟩) b.length c) b.length (u8s m)]
set_option maxRecDepth 100000 in
set_option maxHeartbeats 4000000 in
theorem bit_any (w : World) (p : Option Addr) (c : Nat) (b : List UInt8) (at_ : Int) (turn : W32) (hN : NumsAt .u8 w p (byI b)) (hn : p = none → b.length = 0 ∧ c = 0) (hc1 : b.length ≤ c) (hc2 : c ≤ maxLen) (hat : -9223372036854775808 ≤ at_ ∧ at_ ≤ 9223372036854775807) :
    Calls Try.prog 8 #[.slice p b.length c, .int .i64 at_, .int .u32 (wv turn)] w fun e w' => e = .returned (.bool true) ∧ Ext w w' := by
  obtain ⟨i0, hi0, hz0, hz1, hz2⟩ := info_parts u8Info'
  go_enter Try.func8, Try.ntmps8
  go_wp2_with fail
  refine (known_any w).mono ?_
  rintro e w1 ⟨rfl, hE1⟩
  rcases (show (300 : Int) < b.length ∨ ¬ (300 : Int) < b.length by omega) with g | g1
  · go_wp2_with fail
    go_ret
    exact ⟨rfl, hE1⟩
  have hbl : (b.length : Int) ≤ 300 := by omega
  rcases (show at_ < 0 ∨ ¬ at_ < 0 by omega) with g | g2
  · go_wp2_with fail
    go_ret
    exact ⟨rfl, hE1⟩
  rcases (show at_ ≥ 8 * (b.length : Int) ∨ ¬ at_ ≥ 8 * (b.length : Int) by omega) with g | g3
  · go_wp2_with fail
    go_ret
    exact ⟨rfl, hE1⟩
  by_cases g4 : (wv turn == 0) = true
  · go_wp2_with fail
    go_ret
    exact ⟨rfl, hE1⟩
  obtain ⟨n, rfl⟩ : ∃ n : Nat, at_ = n := ⟨at_.toNat, by omega⟩
  have g5 : (wv turn == 0) = false := by simpa using g4
  clear g4
  have hE0 := hE1.trans (ext_alloc w1 (.cells #[] 5))
  have hNr := hN.ext hE0
  have hlit := World.ownsRow_made (base := 0) (e := 5) (size := 1) w1 #[] 0 (Nat.zero_le _) (by simp) rfl
  go_upto_region 6 with (at_builtin; refine wpList_append_new rfl _ _ 22 rfl 5 i0 (.int .u8 0) 1 1 Try.underlying22 hi0 hz0 hz1 hz2 rfl (by decide) (.slice (some ⟨Array.size (World.heap w1), 0, none⟩) 0 0) 0 [] rfl hlit p b.length c (u8s b) rfl (u8s_length b ▸ (Nat.mul_one _).symm) hn (news_at hNr) (u8s_one b) (by unfold maxLen; omega) (by omega) ?_)
  intro v4 w4 hown4 hg4 hf4
  have hlb : ∀ k, (Value.slice (some ⟨Array.size (World.heap w1), 0, none⟩) 0 0).ownBlock = some k → Array.size (World.heap w1) ≤ k := fun k hk => Nat.le_of_eq (by simpa [Value.ownBlock] using hk)
  obtain ⟨hE4, hb4⟩ := fresh_ext (ext_alloc w1 (.cells #[] 5)) hlb hg4 hf4
  have hown4' : w4.ownsRow 0 5 1 v4 b.length (u8s b) := by simpa using hown4
  have hne4 := hf4.2 (by simp [Value.ownBlock])
  obtain ⟨g4, cv4, rfl⟩ : ∃ g c, v4 = .slice (some ⟨g, 0, none⟩) b.length c := by
    rcases hown4'.2 with ⟨hv, _⟩ | ⟨g, cap, cur, hv, _⟩
    · rw [hv] at hne4; exact absurd rfl hne4
    · exact ⟨g, cap, hv⟩
  have hH4 := (Has.nil hE1).add .nil hE4 (p := rowA 5 1 (.slice (some ⟨g4, 0, none⟩) b.length cv4) b.length (u8s b)) (F := fun k => (Value.slice (some ⟨g4, 0, none⟩) b.length cv4).ownBlock = some k) ⟨hown4', rfl⟩ hb4
  have hcap := row_cap hown4'
  clear hown4 hg4 hf4 hE4 hb4 hown4' hlit hE0 hNr hne4 hlb hE1
  go_wp2_with fail
  go_loopw [33] (fun k wr => BiRel w b n g4 cv4 k wr) (fun k _ => (33 - intOf k).toNat)
  case atStart => exact ⟨0, b, by omega, rfl, rfl, fun _ _ => rfl, hH4⟩
  case round =>
    clear hH4
    obtain ⟨j, m, hj, rfl, hml, hfar, hH⟩ := hrel
    by_cases gj : (j : Int) < 32
    · by_cases q1 : bits .and .u32 (wv turn / (2 : Int) ^ j) 1 = 1
      · rcases (show (n : Int) + (j : Int) < 8 * (b.length : Int) ∨ ¬ (n : Int) + (j : Int) < 8 * (b.length : Int) by omega) with q2 | q2
        · obtain ⟨d, hd⟩ : ∃ d : Nat, d = (n + j) / 8 := ⟨_, rfl⟩
          obtain ⟨r, hr⟩ : ∃ r : Nat, r = (n + j) % 8 := ⟨_, rfl⟩
          have e1 : ((n : Int) + (j : Int)) / 8 = (d : Int) := by omega
          have e2 : ((n : Int) + (j : Int)) % 8 = (r : Int) := by omega
          have hr8 : (r : Int) < 8 := by omega
          have hdb : (d : Int) < b.length := by omega
          obtain ⟨F, hF⟩ := hH.head
          have hcd := hF.1.cellAt d (by omega)
          rw [u8s_get m d (by omega)] at hcd
          have hfd := hF.1.frozenAt d
          have hv := flip8_val (m.getD d 0) r (by omega)
          have hH8 := BRow.put hH .nil d (flip8 (m.getD d 0) r)
          have hff : ∀ i, i < n ∨ n + 32 ≤ i → (bitsOf (m.set d (flip8 (m.getD d 0) r))).getD i false = (bitsOf b).getD i false := fun i hi => by
            rw [hd, hr, flip_far m (n + j) i (by omega)]
            exact hfar i hi
          have e3 : ((2 ^ r : Nat) : Int) = (2 : Int) ^ r := by simp
          have hp2 : (2 : Int) ^ r < 256 := by
            have : (2 : Nat) ^ r ≤ 2 ^ 7 := Nat.pow_le_pow_right (by omega) (by omega)
            rw [← e3]
            exact Int.ofNat_lt.2 (Nat.lt_of_le_of_lt this (by decide))
          have hp0 : (0 : Int) ≤ (2 : Int) ^ r := by rw [← e3]; exact Int.natCast_nonneg _
          clear e3
          have HF := Lib.hid hff
          generalize flip8 (m.getD d 0) r = y1 at *
          generalize m.getD d 0 = y at *
          have hyb := u8_bd y
          clear hF hH hff hfar hd hr
          go_wp2_with fail
          exact ⟨⟨j + 1, m.set d y1, by omega, by go_num, by simpa using hml, HF.out, hH8⟩, by simp [intOf]; omega⟩
        · go_wp2_with fail
          exact ⟨⟨j + 1, m, by omega, by go_num, hml, hfar, hH⟩, by simp [intOf]; omega⟩
      · go_wp2_with fail
        exact ⟨⟨j + 1, m, by omega, by go_num, hml, hfar, hH⟩, by simp [intOf]; omega⟩
    · have hj' : j = 32 := by omega
      subst hj'
      have hpos : 0 < b.length := by omega
      have hbu := burst (b := b) (c := m) (at_ := n) hml.symm (fun i hi => (hfar i hi).symm)
      have hrow := fun {X : World} (h : Has w X [rowA 5 1 (.slice (some ⟨g4, 0, none⟩) b.length cv4) b.length (u8s m)]) => h.head.choose_spec.1
      have hC1 := fun {X : World} {g : Nat} (hb : Blk X g 22 #[.slice p b.length c]) (hE : Has w X [rowA 5 1 (.slice (some ⟨g4, 0, none⟩) b.length cv4) b.length (u8s m)]) => crc_blk hb (hN.ext hE.base) hn hc1 hc2
      have hC2 := fun {X : World} {g : Nat} (hb : Blk X g 22 #[.slice (some ⟨g4, 0, none⟩) m.length cv4]) (hE : Has w X [rowA 5 1 (.slice (some ⟨g4, 0, none⟩) b.length cv4) b.length (u8s m)]) => crc_blk hb (NumsAt.row (hrow hE)) (fun h => by cases h) (by rw [hml]; exact hcap.1) hcap.2
      have hcb := fun (x : Of fun X => Has w X [rowA 5 1 (.slice (some ⟨g4, 0, none⟩) b.length cv4) b.length (u8s m)]) => conv_arg Try.underlying22 Try.underlying5 Try.underlying9 (hN.ext x.property.base) hn
      have hcm := fun (x : Of fun X => Has w X [rowA 5 1 (.slice (some ⟨g4, 0, none⟩) b.length cv4) b.length (u8s m)]) => conv_row Try.underlying22 Try.underlying5 Try.underlying9 (hrow x.property)
      rw [hml] at hC2
      obtain ⟨yb, hyb⟩ : ∃ y, y = wv (crc b) := ⟨_, rfl⟩
      obtain ⟨ym, hym⟩ : ∃ y, y = wv (crc m) := ⟨_, rfl⟩
      have HB_ := Lib.hid hyb.symm
      have HM_ := Lib.hid hym.symm
      have hbt : strOf b = strOf m ↔ b = m := ⟨fun h => by have := congrArg ByteArray.toList h; simpa [strOf, ByteArray.toList_mk] using this, fun h => by rw [h]⟩
      have hyy : yb = ym ↔ b = m := by rw [hyb, hym, wv_eq]; exact hbu
      by_cases hbm : b = m
      · have hye := hyy.2 hbm
        have hse := hbt.2 hbm
        subst hye
        generalize strOf b = sb at *
        generalize strOf m = sm at *
        subst hse
        clear hyb hym hbu hfar hml hbt hyy hbm
        go_upto_region 13 with fail
        have hne_ : Nonempty (Of (fun X => Has w X [rowA 5 1 (.slice (some ⟨g4, 0, none⟩) b.length cv4) b.length (u8s m)])) := ⟨⟨_, hH⟩⟩
        refine region_plan (.seg [0,3,7,9,8,10,11] [true,true,true,true,true,true,true] (.fork 1 (.fork 2 (.seg [4,5,6,12,13] [false,false,false,false,false] .done) 4 (.seg [2,5,6,12,13] [false,false,false,false,false] .done)) 4 (.seg [1,2,5,6,12,13] [false,false,false,false,false,false] .done))) (fun X => Has w X [rowA 5 1 (.slice (some ⟨g4, 0, none⟩) b.length cv4) b.length (u8s m)]) (by kernel_rfl) (by kernel_rfl) (hH.ext (.cons (rowA_loc _ _ _ _ _) .nil) (Ext.refl wr).drew) ?_
        refine walkP_seg ?_
        simp only [List.filterMap_cons, List.filterMap_nil, List.getElem?_cons_zero, List.getElem?_cons_succ]
        refine steps_quiet 7 (by kernel_rfl) ?_
        simp only [List.take_succ_cons, List.take_zero, List.drop_succ_cons, List.drop_zero]
        repeat (go_big_quiet_step (fail))
        refine wpQuiet_nil ?_
        have hHd := hH.ext (.cons (rowA_loc _ _ _ _ _) .nil) (Ext.refl wr).drew
        clear hH hcb hcm
        generalize World.drew wr = wd at *
        refine steps_end ?_
        refine walkP_fork ?_ ?_
        all_goals simp only [List.filterMap_cons, List.filterMap_nil, List.getElem?_cons_zero, List.getElem?_cons_succ]
        · refine steps_want rfl (fun K hK => ?_)
          go_simp
          have hb1 := Blk.new wd 22 #[.slice p b.length c]
          have hH1 := hHd.ext (.cons (rowA_loc _ _ _ _ _) .nil) (ext_alloc wd (.cells #[.slice p b.length c] 22))
          have hEo_ := ext_alloc wd (.cells #[.slice p b.length c] 22)
          generalize World.alloc wd _ = x1 at *
          generalize Array.size (World.heap wd) = gq at *
          refine hK _ _ _ (hH1) (fun _ h => h) ?_
          clear hK K
          refine steps_end ?_
          refine walkP_fork ?_ ?_
          all_goals simp only [List.filterMap_cons, List.filterMap_nil, List.getElem?_cons_zero, List.getElem?_cons_succ]
          · refine steps_want rfl (fun K hK => ?_)
            go_simp
            refine (hC1 hb1 hH1).mono ?_
            rintro e _ ⟨rfl, rfl⟩
            rw [HB_.out]
            refine hK _ _ _ (hH1) (fun _ h => h) ?_
            clear hK K
            refine steps_end ?_
            refine walkP_seg ?_
            simp only [List.filterMap_cons, List.filterMap_nil, List.getElem?_cons_zero, List.getElem?_cons_succ]
            refine steps_want rfl (fun K hK => ?_)
            go_simp
            have hb2 := Blk.new x1 22 #[.slice (some ⟨g4, 0, none⟩) b.length cv4]
            have hH2 := hH1.ext (.cons (rowA_loc _ _ _ _ _) .nil) (ext_alloc x1 (.cells #[.slice (some ⟨g4, 0, none⟩) b.length cv4] 22))
            have hEo_ := ext_alloc x1 (.cells #[.slice (some ⟨g4, 0, none⟩) b.length cv4] 22)
            generalize World.alloc x1 _ = x2 at *
            generalize Array.size (World.heap x1) = gq at *
            refine hK _ _ _ (hH2) (fun _ h => h) ?_
            clear hK K
            refine steps_want rfl (fun K hK => ?_)
            go_simp
            refine (hC2 hb2 hH2).mono ?_
            rintro e _ ⟨rfl, rfl⟩
            rw [HM_.out]
            refine hK _ _ _ (hH2) (fun _ h => h) ?_
            clear hK K
            refine steps_want rfl (fun K hK => ?_)
            go_simp
            refine hK _ _ _ (hH2) (fun _ h => h) ?_
            clear hK K
            refine steps_want rfl (fun K hK => ?_)
            go_simp
            refine hK _ _ _ (hH2) (fun _ h => h) ?_
            clear hK K
            refine steps_want rfl (fun K hK => ?_)
            go_simp
            refine hK _ _ _ (hH2) (fun _ h => h) ?_
            clear hK K
            refine steps_end ?_
            refine walkP_done ?_
            try simp only [Act.put]
            go_wp2_with fail
            go_ret
            exact ⟨rfl, (hH2).base⟩
          · refine steps_want rfl (fun K hK => ?_)
            go_simp
            have hb2 := Blk.new x1 22 #[.slice (some ⟨g4, 0, none⟩) b.length cv4]
            have hH2 := hH1.ext (.cons (rowA_loc _ _ _ _ _) .nil) (ext_alloc x1 (.cells #[.slice (some ⟨g4, 0, none⟩) b.length cv4] 22))
            have hEo_ := ext_alloc x1 (.cells #[.slice (some ⟨g4, 0, none⟩) b.length cv4] 22)
            generalize World.alloc x1 _ = x2 at *
            generalize Array.size (World.heap x1) = gq at *
            refine hK _ _ _ (hH2) (fun _ h => h) ?_
            clear hK K
            refine steps_end ?_
            refine walkP_seg ?_
            simp only [List.filterMap_cons, List.filterMap_nil, List.getElem?_cons_zero, List.getElem?_cons_succ]
            refine steps_want rfl (fun K hK => ?_)
            go_simp
            refine (hC1 (hb1.ext hEo_) hH2).mono ?_
            rintro e _ ⟨rfl, rfl⟩
            rw [HB_.out]
            refine hK _ _ _ (hH2) (fun _ h => h) ?_
            clear hK K
            refine steps_want rfl (fun K hK => ?_)
            go_simp
            refine (hC2 hb2 hH2).mono ?_
            rintro e _ ⟨rfl, rfl⟩
            rw [HM_.out]
            refine hK _ _ _ (hH2) (fun _ h => h) ?_
            clear hK K
            refine steps_want rfl (fun K hK => ?_)
            go_simp
            refine hK _ _ _ (hH2) (fun _ h => h) ?_
            clear hK K
            refine steps_want rfl (fun K hK => ?_)
            go_simp
            refine hK _ _ _ (hH2) (fun _ h => h) ?_
            clear hK K
            refine steps_want rfl (fun K hK => ?_)
            go_simp
            refine hK _ _ _ (hH2) (fun _ h => h) ?_
            clear hK K
            refine steps_end ?_
            refine walkP_done ?_
            try simp only [Act.put]
            go_wp2_with fail
            go_ret
            exact ⟨rfl, (hH2).base⟩
        · refine steps_want rfl (fun K hK => ?_)
          go_simp
          have hb2 := Blk.new wd 22 #[.slice (some ⟨g4, 0, none⟩) b.length cv4]
          have hH1 := hHd.ext (.cons (rowA_loc _ _ _ _ _) .nil) (ext_alloc wd (.cells #[.slice (some ⟨g4, 0, none⟩) b.length cv4] 22))
          have hEo_ := ext_alloc wd (.cells #[.slice (some ⟨g4, 0, none⟩) b.length cv4] 22)
          generalize World.alloc wd _ = x1 at *
          generalize Array.size (World.heap wd) = gq at *
          refine hK _ _ _ (hH1) (fun _ h => h) ?_
          clear hK K
          refine steps_end ?_
          refine walkP_seg ?_
          simp only [List.filterMap_cons, List.filterMap_nil, List.getElem?_cons_zero, List.getElem?_cons_succ]
          refine steps_want rfl (fun K hK => ?_)
          go_simp
          have hb1 := Blk.new x1 22 #[.slice p b.length c]
          have hH2 := hH1.ext (.cons (rowA_loc _ _ _ _ _) .nil) (ext_alloc x1 (.cells #[.slice p b.length c] 22))
          have hEo_ := ext_alloc x1 (.cells #[.slice p b.length c] 22)
          generalize World.alloc x1 _ = x2 at *
          generalize Array.size (World.heap x1) = gq at *
          refine hK _ _ _ (hH2) (fun _ h => h) ?_
          clear hK K
          refine steps_want rfl (fun K hK => ?_)
          go_simp
          refine (hC1 hb1 hH2).mono ?_
          rintro e _ ⟨rfl, rfl⟩
          rw [HB_.out]
          refine hK _ _ _ (hH2) (fun _ h => h) ?_
          clear hK K
          refine steps_want rfl (fun K hK => ?_)
          go_simp
          refine (hC2 (hb2.ext hEo_) hH2).mono ?_
          rintro e _ ⟨rfl, rfl⟩
          rw [HM_.out]
          refine hK _ _ _ (hH2) (fun _ h => h) ?_
          clear hK K
          refine steps_want rfl (fun K hK => ?_)
          go_simp
          refine hK _ _ _ (hH2) (fun _ h => h) ?_
          clear hK K
          refine steps_want rfl (fun K hK => ?_)
          go_simp
          refine hK _ _ _ (hH2) (fun _ h => h) ?_
          clear hK K
          refine steps_want rfl (fun K hK => ?_)
          go_simp
          refine hK _ _ _ (hH2) (fun _ h => h) ?_
          clear hK K
          refine steps_end ?_
          refine walkP_done ?_
          try simp only [Act.put]
          go_wp2_with fail
          go_ret
          exact ⟨rfl, (hH2).base⟩
      · have hye : ¬ yb = ym := fun h => hbm (hyy.1 h)
        have hse : ¬ (strOf b).toList = (strOf m).toList := fun h => hbm (by simpa [strOf, ByteArray.toList_mk] using h)
        have k1 : (yb == ym) = false := by simpa using hye
        generalize strOf b = sb at *
        generalize strOf m = sm at *
        have k2 : (sb.toList == sm.toList) = false := by simpa using hse
        clear hyb hym hbu hfar hml hbt hyy hbm
        go_upto_region 13 with fail
        have hne_ : Nonempty (Of (fun X => Has w X [rowA 5 1 (.slice (some ⟨g4, 0, none⟩) b.length cv4) b.length (u8s m)])) := ⟨⟨_, hH⟩⟩
        refine region_plan (.seg [0,3,7,9,8,10,11] [true,true,true,true,true,true,true] (.fork 1 (.fork 2 (.seg [4,5,6,12,13] [false,false,false,false,false] .done) 4 (.seg [2,5,6,12,13] [false,false,false,false,false] .done)) 4 (.seg [1,2,5,6,12,13] [false,false,false,false,false,false] .done))) (fun X => Has w X [rowA 5 1 (.slice (some ⟨g4, 0, none⟩) b.length cv4) b.length (u8s m)]) (by kernel_rfl) (by kernel_rfl) (hH.ext (.cons (rowA_loc _ _ _ _ _) .nil) (Ext.refl wr).drew) ?_
        refine walkP_seg ?_
        simp only [List.filterMap_cons, List.filterMap_nil, List.getElem?_cons_zero, List.getElem?_cons_succ]
        refine steps_quiet 7 (by kernel_rfl) ?_
        simp only [List.take_succ_cons, List.take_zero, List.drop_succ_cons, List.drop_zero]
        repeat (go_big_quiet_step (fail))
        refine wpQuiet_nil ?_
        have hHd := hH.ext (.cons (rowA_loc _ _ _ _ _) .nil) (Ext.refl wr).drew
        clear hH hcb hcm
        generalize World.drew wr = wd at *
        refine steps_end ?_
        refine walkP_fork ?_ ?_
        all_goals simp only [List.filterMap_cons, List.filterMap_nil, List.getElem?_cons_zero, List.getElem?_cons_succ]
        · refine steps_want rfl (fun K hK => ?_)
          go_simp
          have hb1 := Blk.new wd 22 #[.slice p b.length c]
          have hH1 := hHd.ext (.cons (rowA_loc _ _ _ _ _) .nil) (ext_alloc wd (.cells #[.slice p b.length c] 22))
          have hEo_ := ext_alloc wd (.cells #[.slice p b.length c] 22)
          generalize World.alloc wd _ = x1 at *
          generalize Array.size (World.heap wd) = gq at *
          refine hK _ _ _ (hH1) (fun _ h => h) ?_
          clear hK K
          refine steps_end ?_
          refine walkP_fork ?_ ?_
          all_goals simp only [List.filterMap_cons, List.filterMap_nil, List.getElem?_cons_zero, List.getElem?_cons_succ]
          · refine steps_want rfl (fun K hK => ?_)
            go_simp
            refine (hC1 hb1 hH1).mono ?_
            rintro e _ ⟨rfl, rfl⟩
            rw [HB_.out]
            refine hK _ _ _ (hH1) (fun _ h => h) ?_
            clear hK K
            refine steps_end ?_
            refine walkP_seg ?_
            simp only [List.filterMap_cons, List.filterMap_nil, List.getElem?_cons_zero, List.getElem?_cons_succ]
            refine steps_want rfl (fun K hK => ?_)
            go_simp
            have hb2 := Blk.new x1 22 #[.slice (some ⟨g4, 0, none⟩) b.length cv4]
            have hH2 := hH1.ext (.cons (rowA_loc _ _ _ _ _) .nil) (ext_alloc x1 (.cells #[.slice (some ⟨g4, 0, none⟩) b.length cv4] 22))
            have hEo_ := ext_alloc x1 (.cells #[.slice (some ⟨g4, 0, none⟩) b.length cv4] 22)
            generalize World.alloc x1 _ = x2 at *
            generalize Array.size (World.heap x1) = gq at *
            refine hK _ _ _ (hH2) (fun _ h => h) ?_
            clear hK K
            refine steps_want rfl (fun K hK => ?_)
            go_simp
            refine (hC2 hb2 hH2).mono ?_
            rintro e _ ⟨rfl, rfl⟩
            rw [HM_.out]
            refine hK _ _ _ (hH2) (fun _ h => h) ?_
            clear hK K
            refine steps_want rfl (fun K hK => ?_)
            go_simp
            refine hK _ _ _ (hH2) (fun _ h => h) ?_
            clear hK K
            refine steps_want rfl (fun K hK => ?_)
            go_simp
            refine hK _ _ _ (hH2) (fun _ h => h) ?_
            clear hK K
            refine steps_want rfl (fun K hK => ?_)
            go_simp
            refine hK _ _ _ (hH2) (fun _ h => h) ?_
            clear hK K
            refine steps_end ?_
            refine walkP_done ?_
            try simp only [Act.put]
            go_wp2_with fail
            go_ret
            exact ⟨rfl, (hH2).base⟩
          · refine steps_want rfl (fun K hK => ?_)
            go_simp
            have hb2 := Blk.new x1 22 #[.slice (some ⟨g4, 0, none⟩) b.length cv4]
            have hH2 := hH1.ext (.cons (rowA_loc _ _ _ _ _) .nil) (ext_alloc x1 (.cells #[.slice (some ⟨g4, 0, none⟩) b.length cv4] 22))
            have hEo_ := ext_alloc x1 (.cells #[.slice (some ⟨g4, 0, none⟩) b.length cv4] 22)
            generalize World.alloc x1 _ = x2 at *
            generalize Array.size (World.heap x1) = gq at *
            refine hK _ _ _ (hH2) (fun _ h => h) ?_
            clear hK K
            refine steps_end ?_
            refine walkP_seg ?_
            simp only [List.filterMap_cons, List.filterMap_nil, List.getElem?_cons_zero, List.getElem?_cons_succ]
            refine steps_want rfl (fun K hK => ?_)
            go_simp
            refine (hC1 (hb1.ext hEo_) hH2).mono ?_
            rintro e _ ⟨rfl, rfl⟩
            rw [HB_.out]
            refine hK _ _ _ (hH2) (fun _ h => h) ?_
            clear hK K
            refine steps_want rfl (fun K hK => ?_)
            go_simp
            refine (hC2 hb2 hH2).mono ?_
            rintro e _ ⟨rfl, rfl⟩
            rw [HM_.out]
            refine hK _ _ _ (hH2) (fun _ h => h) ?_
            clear hK K
            refine steps_want rfl (fun K hK => ?_)
            go_simp
            refine hK _ _ _ (hH2) (fun _ h => h) ?_
            clear hK K
            refine steps_want rfl (fun K hK => ?_)
            go_simp
            refine hK _ _ _ (hH2) (fun _ h => h) ?_
            clear hK K
            refine steps_want rfl (fun K hK => ?_)
            go_simp
            refine hK _ _ _ (hH2) (fun _ h => h) ?_
            clear hK K
            refine steps_end ?_
            refine walkP_done ?_
            try simp only [Act.put]
            go_wp2_with fail
            go_ret
            exact ⟨rfl, (hH2).base⟩
        · refine steps_want rfl (fun K hK => ?_)
          go_simp
          have hb2 := Blk.new wd 22 #[.slice (some ⟨g4, 0, none⟩) b.length cv4]
          have hH1 := hHd.ext (.cons (rowA_loc _ _ _ _ _) .nil) (ext_alloc wd (.cells #[.slice (some ⟨g4, 0, none⟩) b.length cv4] 22))
          have hEo_ := ext_alloc wd (.cells #[.slice (some ⟨g4, 0, none⟩) b.length cv4] 22)
          generalize World.alloc wd _ = x1 at *
          generalize Array.size (World.heap wd) = gq at *
          refine hK _ _ _ (hH1) (fun _ h => h) ?_
          clear hK K
          refine steps_end ?_
          refine walkP_seg ?_
          simp only [List.filterMap_cons, List.filterMap_nil, List.getElem?_cons_zero, List.getElem?_cons_succ]
          refine steps_want rfl (fun K hK => ?_)
          go_simp
          have hb1 := Blk.new x1 22 #[.slice p b.length c]
          have hH2 := hH1.ext (.cons (rowA_loc _ _ _ _ _) .nil) (ext_alloc x1 (.cells #[.slice p b.length c] 22))
          have hEo_ := ext_alloc x1 (.cells #[.slice p b.length c] 22)
          generalize World.alloc x1 _ = x2 at *
          generalize Array.size (World.heap x1) = gq at *
          refine hK _ _ _ (hH2) (fun _ h => h) ?_
          clear hK K
          refine steps_want rfl (fun K hK => ?_)
          go_simp
          refine (hC1 hb1 hH2).mono ?_
          rintro e _ ⟨rfl, rfl⟩
          rw [HB_.out]
          refine hK _ _ _ (hH2) (fun _ h => h) ?_
          clear hK K
          refine steps_want rfl (fun K hK => ?_)
          go_simp
          refine (hC2 (hb2.ext hEo_) hH2).mono ?_
          rintro e _ ⟨rfl, rfl⟩
          rw [HM_.out]
          refine hK _ _ _ (hH2) (fun _ h => h) ?_
          clear hK K
          refine steps_want rfl (fun K hK => ?_)
          go_simp
          refine hK _ _ _ (hH2) (fun _ h => h) ?_
          clear hK K
          refine steps_want rfl (fun K hK => ?_)
          go_simp
          refine hK _ _ _ (hH2) (fun _ h => h) ?_
          clear hK K
          refine steps_want rfl (fun K hK => ?_)
          go_simp
          refine hK _ _ _ (hH2) (fun _ h => h) ?_
          clear hK K
          refine steps_end ?_
          refine walkP_done ?_
          try simp only [Act.put]
          go_wp2_with fail
          go_ret
          exact ⟨rfl, (hH2).base⟩
end Go.Proofs.Ytiaepnlhedgicaa
