/- SumGoes, walked. -/
import Derived.Test.YtiaepnlhedgicaaSRowB
namespace Go.Proofs.Ytiaepnlhedgicaa
set_option linter.unusedVariables false
set_option linter.unusedSimpArgs false
open Go Go.RowKit
theorem PartsAt.oneF {F : Nat → Prop} {X : World} {g : Nat} {t : TypeId} {q : Option Addr} {c : Nat} {l : List UInt8} (hb : Blk X g t #[.slice q l.length c]) (hg : ¬ F g) (hN : NumsAt .u8 X q (byI l)) (hd : ∀ a, q = some a → ¬ F a.block) (hn : q = none → l.length = 0 ∧ c = 0) (h1 : l.length ≤ c) (h2 : c ≤ maxLen) : PartsAt F X (some ⟨g, 0, none⟩) [l] := by
  intro i hi
  have hi0 : i = 0 := by simp at hi; exact hi
  subst hi0
  exact ⟨g, 0, rfl, hb.lt, hg, q, c, by rw [hb.cell]; rfl, hN, fun _ => hd, hn, h1, h2⟩
theorem u8_succ (x : UInt8) : IntKind.u8.wrap ((x.toNat : Int) + 1) = ((x + 1).toNat : Int) := by
  rw [IntKind.wrap_u8', UInt8.toNat_add]
  show _ = (((x.toNat + 1) % 2 ^ 8 : Nat) : Int)
  omega
def GoRel (w : World) (ps : List (List UInt8)) (hb : Nat) (v k : Value) (wr : World) : Prop :=
  ∃ (i : Nat) (l : List UInt8), i ≤ ps.length ∧ k = .int .i64 i ∧ l.length ≤ 300 * i ∧ Has w wr [BRow v l, hOf hb l]
def GoIn (w : World) (n g c : Nat) (l : List UInt8) (h : Asr) (v k : Value) (wr : World) : Prop :=
  ∃ (j : Nat) (m : List UInt8), j ≤ n ∧ k = .int .i64 j ∧ m.length = n ∧ Has w wr [rowA 5 1 (.slice (some ⟨g, 0, none⟩) n c) n (u8s m), h, BRow v l]
set_option maxRecDepth 100000 in
set_option maxHeartbeats 4000000 in
theorem goes_any (w : World) (p : Option Addr) (c : Nat) (ps : List (List UInt8)) (hP : PartsAt (fun _ => False) w p ps) :
    Calls Try.prog 6 #[.slice p ps.length c] w fun e w' => e = .returned (.bool true) ∧ Ext w w' := by
  obtain ⟨i0, hi0, hz0, hz1, hz2⟩ := info_parts u8Info'
  go_enter Try.func6, Try.ntmps6
  go_wp2_with fail
  refine (known_any w).mono ?_
  rintro e w1 ⟨rfl, hE1⟩
  rcases (show (12 : Int) < ps.length ∨ ¬ (12 : Int) < ps.length by omega) with g | g1
  · go_wp2_with fail
    go_ret
    exact ⟨rfl, hE1⟩
  go_upto_region 6 with fail
  have hH : Has w (w1.alloc (.cells (hcs St.zero false (.slice none 0 0) 0) 38)) [hOf w1.heap.size []] :=
    (Has.nil hE1).add .nil (ext_alloc w1 _) (p := hOf w1.heap.size []) (F := HFoot w1.heap.size (.slice none 0 0)) ⟨HS.zero, HS.Of.zero, hA_new w1⟩ (fun k hk => by rcases hk with rfl | hk; exact Nat.le_refl _; simp [Value.ownBlock] at hk)
  refine gen_world' (fun X => Has w X [hOf w1.heap.size []]) hH ?_
  clear hH
  intro w2 hH
  generalize w1.heap.size = hb at *
  have hsl := sha_len []
  have hno := of_none
  have hsu := fun W F (h : hOf hb [] W F) => hOf_sum h
  obtain ⟨a, ha⟩ : ∃ a, a = sha [] := ⟨_, rfl⟩
  rw [← ha] at hno hsu hsl
  clear ha
  go_wp2_with fail
  refine (hH.keeps (.cons (hOf_loc _ _) .nil) fun F h => hsu _ F h).mono ?_
  rintro e w3 ⟨rfl, hH3, -⟩
  clear hH hsu
  go_wp2_with fail
  refine (hno w3).mono ?_
  rintro e w4 ⟨rfl, hE4⟩
  have hH4 := hH3.ext (.cons (hOf_loc _ _) .nil) hE4
  have hcm := eq_sum w4 a a hsl hsl
  rw [decide_eq_true rfl] at hcm
  clear hH3 hE4 hno
  go_wp2_with fail
  have hH5 : Has w w4 [BRow (.slice none 0 0) [], hOf hb []] := hH4.add (.cons (hOf_loc _ _) .nil) (Ext.refl w4) (BRow.nil w4) (fun k hk => by simp [Value.ownBlock] at hk)
  clear hH4 hcm
  go_loopw [4, 19] (fun v k wr => GoRel w ps hb v k wr) (fun _ k _ => ((ps.length : Int) + 1 - intOf k).toNat)
  case atStart => exact ⟨0, [], by omega, rfl, by simp, hH5⟩
  case round =>
    clear hH5
    obtain ⟨i, l, hi, rfl, hll, hH⟩ := hrel
    by_cases gi : (i : Int) < ps.length
    · obtain ⟨b, o, rfl, qq, cq, hc, hN, hn, hc1, hc2⟩ := hP.get (Tch.of_ext hH.base) i (by omega)
      generalize ps[i]'(by omega) = x at *
      rcases (show (300 : Int) < x.length ∨ ¬ (300 : Int) < x.length by omega) with g3 | g3
      · go_wp2_with fail
        go_ret
        exact ⟨rfl, hH.base⟩
      have hE0 := hH.base.trans (ext_alloc wr (.cells #[] 5))
      have hNr := hN _ (Tch.of_ext hE0)
      have hlit := World.ownsRow_made (base := 0) (e := 5) (size := 1) wr #[] 0 (Nat.zero_le _) (by simp) rfl
      go_upto_region 15 with (at_builtin; refine wpList_append_new rfl _ _ 22 rfl 5 i0 (.int .u8 0) 1 1 Try.underlying22 hi0 hz0 hz1 hz2 rfl (by decide) (.slice (some ⟨Array.size (World.heap wr), 0, none⟩) 0 0) 0 [] rfl hlit qq x.length cq (u8s x) rfl (u8s_length x ▸ (Nat.mul_one _).symm) hn (news_at hNr) (u8s_one x) (by unfold maxLen; omega) (by omega) ?_)
      intro v4 w4 hown4 hg4 hf4
      have hlb : ∀ k, (Value.slice (some ⟨Array.size (World.heap wr), 0, none⟩) 0 0).ownBlock = some k → Array.size (World.heap wr) ≤ k := fun k hk => Nat.le_of_eq (by simpa [Value.ownBlock] using hk)
      obtain ⟨hE4, hb4⟩ := fresh_ext (ext_alloc wr (.cells #[] 5)) hlb hg4 hf4
      have hown4' : w4.ownsRow 0 5 1 v4 x.length (u8s x) := by simpa using hown4
      have hne4 := hf4.2 (by simp [Value.ownBlock])
      obtain ⟨g4, cv4, rfl⟩ : ∃ g c, v4 = .slice (some ⟨g, 0, none⟩) x.length c := by
        rcases hown4'.2 with ⟨hv, _⟩ | ⟨g, cap, cur, hv, _⟩
        · rw [hv] at hne4; exact absurd rfl hne4
        · exact ⟨g, cap, hv⟩
      have hH4 := hH.add (.cons (BRow_loc _ _) (.cons (hOf_loc _ _) .nil)) hE4 (p := rowA 5 1 (.slice (some ⟨g4, 0, none⟩) x.length cv4) x.length (u8s x)) (F := fun k => (Value.slice (some ⟨g4, 0, none⟩) x.length cv4).ownBlock = some k) ⟨hown4', rfl⟩ hb4
      have hcap := row_cap hown4'
      clear hown4 hg4 hf4 hE4 hb4 hown4' hlit hE0 hH hNr hne4 hlb
      go_wp2_with fail
      have hH5 := (hH4.add (.cons (rowA_loc _ _ _ _ _) (.cons (BRow_loc _ _) (.cons (hOf_loc _ _) .nil))) (ext_alloc w4 (.cells #[.slice (some ⟨g4, 0, none⟩) x.length cv4] 22)) (p := blkA w4.heap.size 22 #[.slice (some ⟨g4, 0, none⟩) x.length cv4]) (F := fun k => k = w4.heap.size) ⟨Blk.new _ _ _, rfl⟩ (fun k hk => by omega)).perm (show List.Perm _ [hOf hb l, blkA w4.heap.size 22 #[.slice (some ⟨g4, 0, none⟩) x.length cv4], rowA 5 1 (.slice (some ⟨g4, 0, none⟩) x.length cv4) x.length (u8s x), BRow u4 l] from by
        refine (List.Perm.trans ?_ (List.perm_append_comm (l₁ := [blkA w4.heap.size 22 #[.slice (some ⟨g4, 0, none⟩) x.length cv4], rowA 5 1 (.slice (some ⟨g4, 0, none⟩) x.length cv4) x.length (u8s x), BRow u4 l]) (l₂ := [hOf hb l])))
        exact List.Perm.refl _)
      generalize World.alloc w4 _ = w5 at *
      refine (hH5.actS (R := fun e => e = .returned (.tuple #[])) (p' := hOf hb (l ++ x)) (.cons (blkA_loc _ _ _) (.cons (rowA_loc _ _ _ _ _) (.cons (BRow_loc _ _) .nil))) fun F hF hlo hS => ?_).mono ?_
      · obtain ⟨G1, hG1, hd1, G2, hG2, hd2, -⟩ := hS
        have e1 := hG1.2
        have e2 := hG2.2
        refine hOf_add hF _ _ (PartsAt.oneF hG1.1 (fun h => (hd1 _ (by rw [e1])).2 h) (NumsAt.row hG2.1) ?_ (fun h => by cases h) hcap.1 hcap.2) (by omega)
        rintro a ha h
        injection ha with ha
        subst ha
        exact (hd2 g4 (by rw [e2]; rfl)).2 (Or.inl h)
      rintro e w6 ⟨rfl, hH6⟩
      have hH7 : Has w w6 [rowA 5 1 (.slice (some ⟨g4, 0, none⟩) x.length cv4) x.length (u8s x), hOf hb (l ++ x), BRow u4 l] := hH6.swap.drop.swap
      clear hH5 hH6 hH4
      have hxl : (x.length : Int) ≤ 300 := by omega
      go_wp2_with fail
      go_loopw [34] (fun k wr => GoIn w x.length g4 cv4 l (hOf hb (l ++ x)) u4 k wr) (fun k _ => ((x.length : Int) + 1 - intOf k).toNat)
      case atStart => exact ⟨0, x, by omega, rfl, rfl, hH7⟩
      case round =>
        clear hH7
        obtain ⟨j, m, hj, rfl, hml, hH⟩ := hrel
        by_cases gj : (j : Int) < x.length
        · obtain ⟨F, hF⟩ := hH.head
          have hjm : j < m.length := by omega
          have hcj := hF.1.cellAt j (by omega)
          rw [u8s_get m j hjm] at hcj
          have hfj := hF.1.frozenAt j
          have hsu := u8_succ (m.getD j 0)
          have hH8 := BRow.put hH (.cons (hOf_loc _ _) (.cons (BRow_loc _ _) .nil)) j (m.getD j 0 + 1)
          generalize m.getD j 0 = y at *
          generalize y + 1 = y1 at *
          have hyb := u8_bd y
          clear hF hH
          go_wp2_with fail
          exact ⟨⟨j + 1, m.set j y1, by omega, by go_num, by simpa using hml, hH8⟩, by simp [intOf]; omega⟩
        · have hj' : j = x.length := by omega
          subst hj'
          have hH8 : Has w wr [BRow u4 l, hOf hb (l ++ x)] := hH.drop.swap
          have hNr := hN _ (Tch.of_ext hH8.base)
          obtain ⟨F, hF⟩ := hH8.head
          have hown := hF.1
          go_upto_region 22 with (at_builtin; refine wpList_append_new rfl _ _ 22 rfl 5 i0 (.int .u8 0) 1 1 Try.underlying22 hi0 hz0 hz1 hz2 rfl (by decide) _ _ _ rfl hown qq x.length cq (u8s x) rfl (u8s_length x ▸ (Nat.mul_one _).symm) hn (news_at hNr) (u8s_one x) (by unfold maxLen; omega) (by omega) ?_)
          intro v9 w9 hown9 hg9 hf9
          have hH9 := BRow.grow hH8 (.cons (hOf_loc _ _) .nil) hown9 hg9 hf9
          clear hF hown hown9 hg9 hf9 hH8 hH hN hNr hc
          have hl9 : (l ++ x).length ≤ 300 * (i + 1) := by rw [List.length_append]; omega
          generalize l ++ x = l9 at *
          have hH9 := hH9.swap
          have hsu := fun W F (h : hOf hb l9 W F) => hOf_sum h
          have hs9 := sha_len l9
          obtain ⟨pv, cv, rfl⟩ : ∃ p c, v9 = .slice p l9.length c := by
            obtain ⟨F, hF⟩ := hH9.swap.head
            exact ownsRow_slice hF.1
          have hof := fun {X : World} {F : Nat → Prop} (h : BRow (.slice pv l9.length cv) l9 X F) => of_one (t := 22) (NumsAt.row h.1) (row_nil h.1) (row_cap h.1).1 (row_cap h.1).2 (by omega)
          generalize sha l9 = a9 at *
          go_wp2_with fail
          refine (hH9.keeps (.cons (hOf_loc _ _) (.cons (BRow_loc _ _) .nil)) fun F h => hsu _ F h).mono ?_
          rintro e w10 ⟨rfl, hH10, -⟩
          clear hH9
          go_wp2_with fail
          obtain ⟨F, hF⟩ := hH10.swap.head
          refine (hof hF).mono ?_
          rintro e w11 ⟨rfl, hE11⟩
          have hH11 := hH10.ext (.cons (hOf_loc _ _) (.cons (BRow_loc _ _) .nil)) hE11
          clear hF hH10 hE11
          have hcm := eq_sum w11 a9 a9 hs9 hs9
          rw [decide_eq_true rfl] at hcm
          go_wp2_with fail
          clear hcm
          refine (hH11.keeps (.cons (hOf_loc _ _) (.cons (BRow_loc _ _) .nil)) fun F h => hsu _ F h).mono ?_
          rintro e w12 ⟨rfl, hH12, -⟩
          clear hH11
          go_wp2_with fail
          obtain ⟨F, hF⟩ := hH12.swap.head
          refine (hof hF).mono ?_
          rintro e w13 ⟨rfl, hE13⟩
          have hH13 := hH12.ext (.cons (hOf_loc _ _) (.cons (BRow_loc _ _) .nil)) hE13
          clear hF hH12 hE13
          have hcm := eq_sum w13 a9 a9 hs9 hs9
          rw [decide_eq_true rfl] at hcm
          go_wp2_with fail
          exact ⟨⟨i + 1, l9, by omega, by go_num, hl9, hH13.swap⟩, by simp [intOf]; omega⟩
    · have hi' : i = ps.length := by omega
      subst hi'
      go_wp2_with fail
      go_ret
      exact ⟨rfl, hH.base⟩
end Go.Proofs.Ytiaepnlhedgicaa
