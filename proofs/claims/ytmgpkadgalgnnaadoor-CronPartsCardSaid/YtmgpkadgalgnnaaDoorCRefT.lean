/- cron: the document's cuts and splits. -/
import Derived.Test.YtmgpkadgalgnnaaDoorCCut
import Derived.Test.YtmgpkadgalgnnaaDoorSep
namespace Go.Proofs.YtmgpkadgalgnnaaDoor
set_option maxRecDepth 4000
set_option linter.unusedVariables false
set_option linter.unusedSimpArgs false
open Go Go.RowKit
theorem at_sign (s : ByteArray) (i : Nat) (hi : i < s.size) : tl s = (tl s).take i ++ s[i] :: (tl s).drop (i + 1) := by
  have h : i < (tl s).length := by rw [tl_length]; exact hi
  have := List.drop_eq_getElem_cons h
  rw [tl_get s i hi] at this
  rw [← this, List.take_append_drop]
theorem first_any (w : World) (s : ByteArray) (c : UInt8) (hs : s.size ≤ 100000) :
    Calls Tryd.prog 34 #[.string s, .int .u8 c.toNat] w fun e w' => e = .returned (.tuple #[strV (cutAt c (tl s)).1, strV (cutAt c (tl s)).2.1, .bool (cutAt c (tl s)).2.2]) ∧ Ext w w' := by
  obtain ⟨A, hA⟩ : ∃ A, cutAt c (tl s) = A := ⟨_, rfl⟩
  have HA := Lib.hid hA
  rw [hA]
  clear hA
  go_enter Tryd.func34, Tryd.ntmps34
  go_wp2_with fail
  go_loop [7] (fun v => ∃ i : Nat, v = .int .i64 i ∧ i ≤ s.size ∧ c ∉ (tl s).take i) (fun v => ((s.size : Int) + 1 - intOf v).toNat)
  case atStart => exact ⟨0, rfl, by omega, by simp⟩
  case round =>
    obtain ⟨i, rfl, hi, hn⟩ := hrel
    by_cases h : i < s.size
    · have ha := at_sign s i h
      by_cases hc : s[i] = c
      · have e1 := cutAt_at (r := (tl s).drop (i + 1)) hn
        rw [← hc, ← ha] at e1
        have E1 := Lib.hid (HA.out.symm.trans (hc ▸ e1))
        have e3 : ((s[i].toNat : Int) == (c.toNat : Int)) = true := by rw [hc]; simp
        have hsz : (i : Int) + 1 ≤ s.size := by omega
        clear hn ha e1 HA hc
        go_wp2_with fail
        go_quiet (fail)
        go_wp2_with fail
        go_ret3
        refine ⟨?_, (Ext.refl _).drewN _⟩
        rw [E1.out, extract_take, extract_drop]
        rfl
      · have e3 : ((s[i].toNat : Int) == (c.toNat : Int)) = false := by
          rw [beq_eq_false_iff_ne]; intro h; exact hc (UInt8.toNat_inj.1 (by omega))
        have HN : Hid (c ∉ (tl s).take (i + 1)) := Lib.hid (by
          rw [List.take_succ_eq_append_getElem (by rw [tl_length]; exact h), tl_get s i h]
          simp only [List.mem_append, List.mem_singleton]
          rintro (h | h)
          · exact hn h
          · exact hc h.symm)
        clear hn ha hc
        go_wp2_with fail
        exact ⟨⟨i + 1, by go_num, by omega, HN.out⟩, by simp [intOf]; omega⟩
    · have hi' : i = s.size := by omega
      subst hi'
      have e1 := cutAt_none (l := tl s) (by rw [List.take_of_length_le (by rw [tl_length]; exact Nat.le_refl _)] at hn; exact hn)
      have E1 := Lib.hid (HA.out.symm.trans e1)
      clear hn e1 HA
      go_wp2_with fail
      go_ret3
      refine ⟨?_, Ext.refl _⟩
      rw [E1.out]
      simp [strV, strOf_tl]
      rfl
/-- a row of texts of one's own -/
def tRow (v : Value) (l : List (List UInt8)) : Asr := rowA 9 1 v l.length (l.map strV)
theorem tRow_loc (v : Value) (l : List (List UInt8)) : Loc (tRow v l) := rowA_loc _ _ _ _ _
theorem Has.grow {w W W' : World} {e : TypeId} {sz n n' : Nat} {v v' : Value} {xs xs' : List Value} {ps : List Asr} (h : Has w W (rowA e sz v n xs :: ps)) (hl : Locs ps) (hown : W'.ownsRow 0 e sz v' n' xs') (hg : W.grownBy W' v.ownBlock) (hf : Fresh W v v') : Has w W' (rowA e sz v' n' xs' :: ps) :=
  h.next hl fun F hF => by
    obtain ⟨_, rfl⟩ := hF
    exact Next.mk ⟨hown, rfl⟩ (grownBy.tch hg) hf.1
theorem Has.fresh {w W W' : World} {e : TypeId} {sz n : Nat} {v : Value} {xs : List Value} {ps : List Asr} (h : Has w W ps) (hl : Locs ps) (hE : Ext W W') (hown : W'.ownsRow W.heap.size e sz v n xs) : Has w W' (rowA e sz v n xs :: ps) :=
  h.add hl hE (F := fun k => v.ownBlock = some k) ⟨ownsRow_base hown (fun _ _ => Nat.zero_le _), rfl⟩ (fun k hk => (hown.lt k hk).1)
theorem Has.rowNil {w W : World} {ps : List Asr} (h : Has w W ps) (hl : Locs ps) (e : TypeId) (sz : Nat) : Has w W (rowA e sz (.slice none 0 0) 0 [] :: ps) :=
  h.add hl (Ext.refl W) (F := fun k => (Value.slice none 0 0).ownBlock = some k) ⟨World.ownsRow_nil _ _ _ _, rfl⟩ (fun k hk => by simp [Value.ownBlock] at hk)
theorem Has.row0 {w W : World} {e : TypeId} {sz n : Nat} {v : Value} {xs : List Value} {ps : List Asr} (h : Has w W (rowA e sz v n xs :: ps)) : W.ownsRow 0 e sz v n xs := by
  obtain ⟨F, hF⟩ := h.head
  exact hF.1
theorem row_at {W : World} {e : TypeId} {p : Option Addr} {b n c i : Nat} {xs : List Value} {x : Value} (h : W.ownsRow b e 1 (.slice p n c) n xs) (hx : xs[i]? = some x) : ∃ g, p = some ⟨g, 0, none⟩ ∧ W.cell? ⟨g, i, none⟩ = some x := by
  rcases h.2 with ⟨hv, hn⟩ | ⟨g, cap, cur, hv, _⟩
  · have := h.1
    rw [hn] at this
    have hl : xs = [] := List.eq_nil_of_length_eq_zero (by omega)
    rw [hl] at hx; simp at hx
  · have h1 := h.cells (g := g) (by rw [hv]; rfl)
    injection hv with h2
    refine ⟨g, h2, ?_⟩
    have := h1 i x hx
    rwa [Go.WideShapes.add_plain, Nat.zero_add] at this
theorem strInfo' : (Tryd.prog.info? 9).map (fun i => (i.zero, i.size, i.bytes)) = some (some (.string ⟨#[]⟩), 1, 16) := by kernel_rfl
theorem extract_mid (s : ByteArray) (j i : Nat) : s.extract j i = strOf (((tl s).drop j).take (i - j)) := by
  rw [← strOf_tl (s.extract j i)]
  congr 1
  simp [tl, ByteArray.data_extract, Array.toList_extract, List.extract_eq_take_drop]
theorem tRow_snoc {done : List (List UInt8)} {x : List UInt8} {W : World} {v : Value} {w : World} {X : ByteArray} (hX : X = strOf x) (h : Has w W [rowA 9 1 v (done.length + 1) (done.map strV ++ [.string X])]) : Has w W [tRow v (done ++ [x])] := by
  unfold tRow
  subst hX
  rw [List.length_append, List.map_append]
  exact h
def SpRel (w : World) (c : UInt8) (t : List UInt8) (v vf vi : Value) (wr : World) : Prop :=
  ∃ (done : List (List UInt8)) (j i : Nat), vf = .int .i64 j ∧ vi = .int .i64 i ∧ j ≤ i ∧ i ≤ t.length ∧ done.length ≤ j ∧ splitL c t = done ++ splitL c (t.drop j) ∧ c ∉ (t.drop j).take (i - j) ∧ Has w wr [tRow v done]
set_option maxHeartbeats 400000 in
theorem refsplit_any (w : World) (s : ByteArray) (c : UInt8) (hs : s.size ≤ 100000) :
    Calls Tryd.prog 24 #[.string s, .int .u8 c.toNat] w fun e w' => ∃ v, e = .returned v ∧ Has w w' [tRow v (splitL c (tl s))] := by
  obtain ⟨i0, hi0, hz0, hz1, hz2⟩ := info_parts strInfo'
  have hH0 := (Has.nil (Ext.refl w)).rowNil .nil 9 1
  go_enter Tryd.func24, Tryd.ntmps24
  go_wp2_with fail
  go_loopw [5, 6, 7] (fun v vf vi wr => SpRel w c (tl s) v vf vi wr) (fun _ _ v _ => ((s.size : Int) + 1 - intOf v).toNat)
  case atStart => exact ⟨[], 0, 0, rfl, rfl, by omega, by omega, by simp, by simp, by simp, hH0⟩
  case round =>
    clear hH0
    obtain ⟨done, j, i, rfl, rfl, hji, hi, hdj, hsp, hn, hH⟩ := hrel
    rw [tl_length] at hi
    have hown := hH.row0
    by_cases h : i < s.size
    · by_cases hc : s[i] = c
      · have e3 : ((s[i].toNat : Int) == (c.toNat : Int)) = true := by rw [hc]; simp
        have ha := at_sign s i h
        have hd : (tl s).drop j = ((tl s).drop j).take (i - j) ++ c :: (tl s).drop (i + 1) := by
          have h1 := List.drop_eq_getElem_cons (show i < (tl s).length by rw [tl_length]; exact h)
          rw [tl_get s i h, hc] at h1
          have h2 := (List.take_append_drop (i - j) ((tl s).drop j)).symm
          rw [List.drop_drop, show j + (i - j) = i by omega, h1] at h2
          exact h2
        rw [hd, splitL_at hn] at hsp
        have HX := Lib.hid (extract_mid s j i)
        generalize ((tl s).drop j).take (i - j) = x at *
        have HS := Lib.hid hsp
        have hdl : done.length ≤ 100000 := by omega
        clear hc ha hd
        have hown1 := ownsRow_ext hown (ext_alloc wr (.cells #[.string (s.extract j i)] 9))
        have hH1 := hH.ext (.cons (tRow_loc _ _) .nil) (ext_alloc wr (.cells #[.string (s.extract j i)] 9))
        have hnews := news_new wr [.string (s.extract j i)] 9
        have hu1 : ∀ u ∈ [Value.string (s.extract j i)], u.oneCell' = true := by intro u hu; simp at hu; subst hu; rfl
        clear hsp hn hH hown
        go_wp2_with (at_builtin; refine wpList_append_new rfl _ _ 51 rfl 9 i0 (.string ⟨#[]⟩) 1 16 Tryd.underlying51 hi0 hz0 hz1 hz2 rfl (by decide) _ _ _ rfl hown1 _ 1 1 [.string (s.extract j i)] rfl rfl (fun h => by cases h) hnews hu1 (by unfold maxLen; omega) (by omega) ?_)
        intro v3 w3 hown3 hg3 hf3
        have hH3 := Has.grow hH1 .nil hown3 hg3 hf3
        clear hown1 hown3 hg3 hf3 hH1 hnews hu1
        go_wp2_with fail
        refine ⟨⟨done ++ [x], i + 1, i + 1, by go_num, by go_num, by omega, by rw [tl_length]; omega, by rw [List.length_append, List.length_singleton]; omega, ?_, by simp, tRow_snoc HX.out hH3⟩, by simp [intOf]; omega⟩
        rw [HS.out, List.append_assoc]; rfl
      · have e3 : ((s[i].toNat : Int) == (c.toNat : Int)) = false := by
          rw [beq_eq_false_iff_ne]; intro h; exact hc (UInt8.toNat_inj.1 (by omega))
        have HN : Hid (c ∉ ((tl s).drop j).take (i + 1 - j)) := Lib.hid (by
          rw [show i + 1 - j = i - j + 1 by omega, List.take_succ_eq_append_getElem (by rw [List.length_drop, tl_length]; omega), List.getElem_drop]
          simp only [List.mem_append, List.mem_singleton]
          rintro (h1 | h1)
          · exact hn h1
          · refine hc ?_
            rw [h1, ← tl_get s i h]
            congr 1; omega)
        have HS := Lib.hid hsp
        clear hn hc hsp hown
        go_wp2_with fail
        exact ⟨⟨done, j, i + 1, rfl, by go_num, by omega, by rw [tl_length]; omega, hdj, HS.out, HN.out, hH⟩, by simp [intOf]; omega⟩
    · have hi' : i = s.size := by omega
      subst hi'
      have hn2 : c ∉ (tl s).drop j := by
        rw [List.take_of_length_le (by rw [List.length_drop, tl_length]; exact Nat.le_refl _)] at hn; exact hn
      rw [splitL_none hn2] at hsp
      have HX := Lib.hid (extract_drop s j)
      generalize (tl s).drop j = x at *
      have HS := Lib.hid hsp
      have hdl : done.length ≤ 100000 := by omega
      have hown1 := ownsRow_ext hown (ext_alloc wr (.cells #[.string (s.extract j s.size)] 9))
      have hH1 := hH.ext (.cons (tRow_loc _ _) .nil) (ext_alloc wr (.cells #[.string (s.extract j s.size)] 9))
      have hnews := news_new wr [.string (s.extract j s.size)] 9
      have hu1 : ∀ u ∈ [Value.string (s.extract j s.size)], u.oneCell' = true := by intro u hu; simp at hu; subst hu; rfl
      clear hsp hn hH hown
      go_wp2_with (at_builtin; refine wpList_append_new rfl _ _ 51 rfl 9 i0 (.string ⟨#[]⟩) 1 16 Tryd.underlying51 hi0 hz0 hz1 hz2 rfl (by decide) _ _ _ rfl hown1 _ 1 1 [.string (s.extract j s.size)] rfl rfl (fun h => by cases h) hnews hu1 (by unfold maxLen; omega) (by omega) ?_)
      intro v3 w3 hown3 hg3 hf3
      have hH3 := Has.grow hH1 .nil hown3 hg3 hf3
      clear hown1 hown3 hg3 hf3 hH1 hnews hu1
      go_wp2_with fail
      go_ret
      refine ⟨_, rfl, ?_⟩
      rw [HS.out]
      exact tRow_snoc HX.out hH3
end Go.Proofs.YtmgpkadgalgnnaaDoor
