/- CronFirst, walked. -/
import Derived.Test.YtmgpkadgalgnnaaDoorLReads
namespace Go.Proofs.YtmgpkadgalgnnaaDoor
set_option maxRecDepth 4000
set_option linter.unusedVariables false
set_option linter.unusedSimpArgs false
open Go Go.RowKit
theorem seek_no {S : Sp} : ∀ {n : Nat} {a : Int}, seek S n a = none → ∀ u, a ≤ u → u < a + n → S.at u = false
  | 0, a, _, u, h1, h2 => by omega
  | n + 1, a, h, u, h1, h2 => by
    rw [seek] at h
    by_cases e : S.at a = true
    · rw [if_pos e] at h; cases h
    · rw [if_neg e] at h
      by_cases e2 : u = a
      · subst e2; simpa using e
      · exact seek_no h u (by omega) (by omega)
theorem nextV_cases (S : Sp) (t : Int) (h0 : -1 ≤ t) (h1 : t ≤ 4294440255) :
    (∃ a, nextV S t = (a, 0) ∧ S.at a = true ∧ t < a ∧ a ≤ t + 527040 ∧ (∀ u, t < u → u < a → S.at u = false) ∧ (a ≤ 4294440255 → nextV S (a - 1) = (a, 0))) ∨
    (nextV S t = (0, 41) ∧ ∀ u, t < u → u < t + 527040 + 1 → S.at u = false) := by
  cases h : seek S 527040 (t + 1) with
  | none =>
    refine Or.inr ⟨?_, fun u h2 h3 => seek_no h u (by omega) (by omega)⟩
    unfold nextV
    rw [if_neg (by omega), h]
  | some a =>
    obtain ⟨h2, h3, h4, h5⟩ := seek_some h
    refine Or.inl ⟨a, ?_, h2, by omega, by omega, fun u h6 h7 => h5 u (by omega) h7, fun ha => nextV_hit (by omega) (by omega) h2 (by omega) (by omega) (fun u h6 h7 => by omega)⟩
    unfold nextV
    rw [if_neg (by omega), h]
set_option maxHeartbeats 1000000 in
theorem firstlaw_any (w : World) (s : ByteArray) (t : Int) (p : Option Addr) (c : Nat) (zs : List Int) (hlo : -9223372036854775808 ≤ t) (hhi : t ≤ 9223372036854775807) (hN : NumsAt .i64 w p zs) (hz : ∀ z ∈ zs, -9223372036854775808 ≤ z ∧ z ≤ 9223372036854775807) (hm : MX w) :
    Calls Tryd.prog 6 #[.string s, .int .i64 t, .slice p zs.length c] w fun e w' => e = .returned (.bool true) ∧ Ext w w' := by
  have hf := finds_any w hm
  go_enter Tryd.func6, Tryd.ntmps6
  go_wp2_with fail
  refine hf.mono ?_
  rintro e w1 ⟨rfl, hE1⟩
  clear hf
  by_cases hl : (128 : Int) < s.size
  · go_wp2_with fail
    go_ret
    exact ⟨rfl, hE1⟩
  by_cases hl2 : (30 : Int) < zs.length
  · go_wp2_with fail
    go_ret
    exact ⟨rfl, hE1⟩
  by_cases hl3 : t < -1
  · go_wp2_with fail
    go_ret
    exact ⟨rfl, hE1⟩
  by_cases hl4 : 2147483648 < t
  · go_wp2_with fail
    go_ret
    exact ⟨rfl, hE1⟩
  have hlt : (tl s).length ≤ 128 := by rw [tl_length]; omega
  have hp := parse_any w1 (tl s) (by omega) (hm.ext hE1)
  rw [show strV (tl s) = .string s by rw [strV, strOf_tl]] at hp
  cases hS : parseS (tl s) with
  | error c =>
    rw [hS] at hp
    rcases parseS_err hS with rfl | rfl | rfl | rfl
    · go_wp2_with fail
      refine hp.mono ?_
      rintro e w2 ⟨rfl, hE2⟩
      clear hp
      go_wp2_with fail
      go_ret
      exact ⟨rfl, hE1.trans hE2⟩
    · go_wp2_with fail
      refine hp.mono ?_
      rintro e w2 ⟨rfl, hE2⟩
      clear hp
      go_wp2_with fail
      go_ret
      exact ⟨rfl, hE1.trans hE2⟩
    · go_wp2_with fail
      refine hp.mono ?_
      rintro e w2 ⟨rfl, hE2⟩
      clear hp
      go_wp2_with fail
      go_ret
      exact ⟨rfl, hE1.trans hE2⟩
    · go_wp2_with fail
      refine hp.mono ?_
      rintro e w2 ⟨rfl, hE2⟩
      clear hp
      go_wp2_with fail
      go_ret
      exact ⟨rfl, hE1.trans hE2⟩
  | ok S =>
    rw [hS] at hp
    have hok := (parseS_ok hS).1
    go_wp2_with fail
    refine hp.mono ?_
    intro e w2 hr
    obtain ⟨g, rfl, hSp, hE2⟩ := parse_ok hr
    clear hp hr
    have hn := next_any w2 g S (tl s) t hlo hhi hSp hok
    rcases nextV_cases S t (by omega) (by omega) with ⟨a, hnx, hat, ha1, ha2, hno, hn2⟩ | ⟨hnx, hno⟩
    · rw [hnx] at hn
      have HNO := Lib.hid hno
      have HN2 := Lib.hid hn2
      have HAT := Lib.hid hat
      clear hnx hno hn2 hat
      go_wp2_with fail
      refine hn.mono ?_
      rintro e w3 ⟨rfl, hE3⟩
      clear hn
      have hSp3 := hSp.ext hE3
      have hE := (hE1.trans hE2).trans hE3
      clear hSp hE1 hE2 hE3
      go_wp2_with fail
      go_loopw [60] (fun v wr => RdRel w w3 zs.length v wr) (fun v _ => ((zs.length : Int) + 1 - intOf v).toNat)
      case atStart => exact ⟨0, rfl, by omega, hE, Ext.refl _⟩
      case round =>
        obtain ⟨i, rfl, hi, hEr, hE3r⟩ := hrel
        by_cases hlt2 : i < zs.length
        · obtain ⟨a_, rfl, hc⟩ := hN.get hEr i hlt2
          have hzb := hz _ (getD_mem zs 0 i hlt2)
          have i7 : (i : Int) < zs.length := by omega
          generalize zs.getD i 0 = u at *
          by_cases h0 : t < u
          · by_cases h1 : u < a
            · have hd := fun W : World => date_out W u (by omega) (by omega)
              have hfu := HNO.out u h0 h1
              have hf := fun {W : World} (hE : Ext w3 W) => fits_any W g S (tl s) (civY (u / 1440)) (civM (u / 1440)) (civD (u / 1440)) (u / 60 % 24) (u % 60) ((u / 1440 + 6) % 7) (hSp3.ext hE) hok
              unfold Sp.at at hfu
              rw [hfu] at hf
              clear hfu
              simp only [dtA, six] at hd hf
              generalize civY (u / 1440) = cy at *
              generalize civM (u / 1440) = cm at *
              generalize civD (u / 1440) = cd at *
              generalize (u / 1440 + 6) % 7 = wk at *
              generalize u / 60 % 24 = hr_ at *
              generalize u % 60 = mi at *
              go_wp2_with fail
              refine (hd _).mono ?_
              rintro e w4 ⟨rfl, hE4⟩
              clear hd
              go_wp2_with fail
              refine (hf ((hE3r.trans hE4).trans (ext_alloc w4 _))).mono ?_
              rintro e w5 ⟨rfl, hE5⟩
              clear hf
              go_wp2_with fail
              exact ⟨⟨i + 1, by go_num, by omega, ((hEr.trans hE4).trans (ext_alloc w4 _)).trans hE5, ((hE3r.trans hE4).trans (ext_alloc w4 _)).trans hE5⟩, by simp [intOf]; omega⟩
            · go_wp2_with fail
              exact ⟨⟨i + 1, by go_num, by omega, hEr, hE3r⟩, by simp [intOf]; omega⟩
          · go_wp2_with fail
            exact ⟨⟨i + 1, by go_num, by omega, hEr, hE3r⟩, by simp [intOf]; omega⟩
        · have hi' : i = zs.length := by omega
          subst hi'
          have hd := fun W : World => date_out W a (by omega) (by omega)
          have hf := fun {W : World} (hE : Ext w3 W) => fits_any W g S (tl s) (civY (a / 1440)) (civM (a / 1440)) (civD (a / 1440)) (a / 60 % 24) (a % 60) ((a / 1440 + 6) % 7) (hSp3.ext hE) hok
          have hat := HAT.out
          unfold Sp.at at hat
          rw [hat] at hf
          clear hat
          have hn3 := fun {W : World} (hE : Ext w3 W) => next_any W g S (tl s) (a - 1) (by omega) (by omega) (hSp3.ext hE) hok
          rw [HN2.out (by omega)] at hn3
          simp only [dtA, six] at hd hf
          generalize civY (a / 1440) = cy at *
          generalize civM (a / 1440) = cm at *
          generalize civD (a / 1440) = cd at *
          generalize (a / 1440 + 6) % 7 = wk at *
          generalize a / 60 % 24 = hr_ at *
          generalize a % 60 = mi at *
          have q1 : decide (t < a) = true := decide_eq_true ha1
          have q2 : decide (a - t ≤ 527040) = true := decide_eq_true (by omega)
          go_wp2_with fail
          refine (hd _).mono ?_
          rintro e w4 ⟨rfl, hE4⟩
          clear hd
          have hEa := ext_alloc w4 (.cells (six cy cm cd hr_ mi wk) 32)
          have hbl := Blk.new w4 32 (six cy cm cd hr_ mi wk)
          go_upto_region 25 with fail
          refine gen_world' (fun X => Ext w4 X ∧ Blk X w4.heap.size 32 (six cy cm cd hr_ mi wk)) ⟨hEa, hbl⟩ ?_
          clear hEa hbl
          rintro w5 ⟨hE5, hbl⟩
          go_wp2_with fail
          refine (hn3 ((hE3r.trans hE4).trans hE5)).mono ?_
          rintro e w6 ⟨rfl, hE6⟩
          clear hn3
          obtain ⟨b0, b1, b2, b3, b4, b5⟩ := six_cells (hbl.of_eq (hE6.block _ hbl.lt))
          clear hbl
          generalize w4.heap.size = bx at *
          go_wp2_with fail
          refine (hf (((hE3r.trans hE4).trans hE5).trans hE6)).mono ?_
          rintro e w7 ⟨rfl, hE7⟩
          clear hf b0 b1 b2 b3 b4 b5
          go_wp2_with fail
          go_ret
          exact ⟨rfl, (((hEr.trans hE4).trans hE5).trans hE6).trans hE7⟩
    · rw [hnx] at hn
      have HNO := Lib.hid hno
      clear hnx hno
      go_wp2_with fail
      refine hn.mono ?_
      rintro e w3 ⟨rfl, hE3⟩
      clear hn
      have hSp3 := hSp.ext hE3
      have hE := (hE1.trans hE2).trans hE3
      clear hSp hE1 hE2 hE3
      go_wp2_with fail
      go_loopw [60] (fun v wr => RdRel w w3 zs.length v wr) (fun v _ => ((zs.length : Int) + 1 - intOf v).toNat)
      case atStart => exact ⟨0, rfl, by omega, hE, Ext.refl _⟩
      case round =>
        obtain ⟨i, rfl, hi, hEr, hE3r⟩ := hrel
        by_cases hlt2 : i < zs.length
        · obtain ⟨a_, rfl, hc⟩ := hN.get hEr i hlt2
          have hzb := hz _ (getD_mem zs 0 i hlt2)
          have i7 : (i : Int) < zs.length := by omega
          generalize zs.getD i 0 = u at *
          by_cases h0 : t < u
          · by_cases h1 : u < t + 527040 + 1
            · have hd := fun W : World => date_out W u (by omega) (by omega)
              have hfu := HNO.out u h0 h1
              have hf := fun {W : World} (hE : Ext w3 W) => fits_any W g S (tl s) (civY (u / 1440)) (civM (u / 1440)) (civD (u / 1440)) (u / 60 % 24) (u % 60) ((u / 1440 + 6) % 7) (hSp3.ext hE) hok
              unfold Sp.at at hfu
              rw [hfu] at hf
              clear hfu
              simp only [dtA, six] at hd hf
              generalize civY (u / 1440) = cy at *
              generalize civM (u / 1440) = cm at *
              generalize civD (u / 1440) = cd at *
              generalize (u / 1440 + 6) % 7 = wk at *
              generalize u / 60 % 24 = hr_ at *
              generalize u % 60 = mi at *
              go_wp2_with fail
              refine (hd _).mono ?_
              rintro e w4 ⟨rfl, hE4⟩
              clear hd
              go_wp2_with fail
              refine (hf ((hE3r.trans hE4).trans (ext_alloc w4 _))).mono ?_
              rintro e w5 ⟨rfl, hE5⟩
              clear hf
              go_wp2_with fail
              exact ⟨⟨i + 1, by go_num, by omega, ((hEr.trans hE4).trans (ext_alloc w4 _)).trans hE5, ((hE3r.trans hE4).trans (ext_alloc w4 _)).trans hE5⟩, by simp [intOf]; omega⟩
            · go_wp2_with fail
              exact ⟨⟨i + 1, by go_num, by omega, hEr, hE3r⟩, by simp [intOf]; omega⟩
          · go_wp2_with fail
            exact ⟨⟨i + 1, by go_num, by omega, hEr, hE3r⟩, by simp [intOf]; omega⟩
        · have hi' : i = zs.length := by omega
          subst hi'
          go_wp2_with fail
          go_ret
          exact ⟨rfl, hEr⟩
end Go.Proofs.YtmgpkadgalgnnaaDoor
