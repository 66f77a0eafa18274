/- CronReads, walked. -/
import Derived.Test.YtmgpkadgalgnnaaDoorLNext
import Derived.Test.YtmgpkadgalgnnaaDoorArgs
namespace Go.Proofs.YtmgpkadgalgnnaaDoor
set_option maxRecDepth 4000
set_option linter.unusedVariables false
set_option linter.unusedSimpArgs false
open Go Go.RowKit
def RdRel (w w3 : World) (n : Nat) (v : Value) (wr : World) : Prop := ∃ i : Nat, v = .int .i64 i ∧ i ≤ n ∧ Ext w wr ∧ Ext w3 wr
set_option maxHeartbeats 1000000 in
theorem readslaw_any (w : World) (s : ByteArray) (p : Option Addr) (c : Nat) (zs : List Int) (hN : NumsAt .i64 w p zs) (hz : ∀ z ∈ zs, -9223372036854775808 ≤ z ∧ z ≤ 9223372036854775807) (hm : MX w) :
    Calls Tryd.prog 3 #[.string s, .slice p zs.length c] w fun e w' => e = .returned (.bool true) ∧ Ext w w' := by
  have hf := finds_any w hm
  go_enter Tryd.func3, Tryd.ntmps3
  go_wp2_with fail
  refine hf.mono ?_
  rintro e w1 ⟨rfl, hE1⟩
  clear hf
  by_cases hl : (300 : Int) < s.size
  · go_wp2_with fail
    go_ret
    exact ⟨rfl, hE1⟩
  by_cases hl2 : (20 : Int) < zs.length
  · go_wp2_with fail
    go_ret
    exact ⟨rfl, hE1⟩
  have hlt : (tl s).length ≤ 300 := by rw [tl_length]; omega
  have hp := parse_any w1 (tl s) (by omega) (hm.ext hE1)
  have hrp := fun W => refparse_any W (tl s) (by omega)
  rw [show strV (tl s) = .string s by rw [strV, strOf_tl]] at hp hrp
  cases hS : parseS (tl s) with
  | error c =>
    rw [hS] at hp hrp
    rcases parseS_err hS with rfl | rfl | rfl | rfl
    · go_wp2_with fail
      refine hp.mono ?_
      rintro e w2 ⟨rfl, hE2⟩
      clear hp
      go_wp2_with fail
      refine (hrp _).mono ?_
      rintro e w3 ⟨rfl, hE3⟩
      clear hrp
      go_wp2_with fail
      go_ret
      exact ⟨rfl, (hE1.trans hE2).trans hE3⟩
    · go_wp2_with fail
      refine hp.mono ?_
      rintro e w2 ⟨rfl, hE2⟩
      clear hp
      go_wp2_with fail
      refine (hrp _).mono ?_
      rintro e w3 ⟨rfl, hE3⟩
      clear hrp
      go_wp2_with fail
      go_ret
      exact ⟨rfl, (hE1.trans hE2).trans hE3⟩
    · go_wp2_with fail
      refine hp.mono ?_
      rintro e w2 ⟨rfl, hE2⟩
      clear hp
      go_wp2_with fail
      refine (hrp _).mono ?_
      rintro e w3 ⟨rfl, hE3⟩
      clear hrp
      go_wp2_with fail
      go_ret
      exact ⟨rfl, (hE1.trans hE2).trans hE3⟩
    · go_wp2_with fail
      refine hp.mono ?_
      rintro e w2 ⟨rfl, hE2⟩
      clear hp
      go_wp2_with fail
      refine (hrp _).mono ?_
      rintro e w3 ⟨rfl, hE3⟩
      clear hrp
      go_wp2_with fail
      go_ret
      exact ⟨rfl, (hE1.trans hE2).trans hE3⟩
  | ok S =>
    rw [hS] at hp hrp
    have hok := (parseS_ok hS).1
    go_wp2_with fail
    refine hp.mono ?_
    intro e w2 hr
    obtain ⟨g, rfl, hSp, hE2⟩ := parse_ok hr
    clear hp hr
    go_wp2_with fail
    refine (hrp _).mono ?_
    intro e w3 hr
    obtain ⟨g2, c2, vs, ls, rfl, hFl, hE3⟩ := refparse_ok hr
    clear hrp hr
    have hSp3 := hSp.ext hE3
    have hE := (hE1.trans hE2).trans hE3
    clear hSp hE1 hE2 hE3
    go_wp2_with fail
    go_loopw [47] (fun v wr => RdRel w w3 zs.length v wr) (fun v _ => ((zs.length : Int) + 1 - intOf v).toNat)
    case atStart => exact ⟨0, rfl, by omega, hE, Ext.refl _⟩
    case round =>
      obtain ⟨i, rfl, hi, hEr, hE3r⟩ := hrel
      by_cases hlt2 : i < zs.length
      · obtain ⟨a, rfl, hc⟩ := hN.get hEr i hlt2
        have hzb := hz _ (getD_mem zs 0 i hlt2)
        have i7 : (i : Int) < zs.length := by omega
        generalize zs.getD i 0 = t at *
        by_cases h0 : t < 0
        · have hd := fun W : World => date_bad W t (Or.inl h0)
          simp only [six] at hd
          have j1 : decide (0 ≤ t) = false := decide_eq_false (by omega)
          go_wp2_with fail
          refine (hd _).mono ?_
          rintro e w4 ⟨rfl, hE4⟩
          clear hd
          go_wp2_with fail
          exact ⟨⟨i + 1, by go_num, by omega, (hEr.trans hE4).trans (ext_alloc w4 _), (hE3r.trans hE4).trans (ext_alloc w4 _)⟩, by simp [intOf]; omega⟩
        by_cases h1 : 4294967296 < t
        · have hd := fun W : World => date_bad W t (Or.inr h1)
          simp only [six] at hd
          have j1 : decide (0 ≤ t) = true := decide_eq_true (by omega)
          have j2 : decide (t ≤ 4294967296) = false := decide_eq_false (by omega)
          go_wp2_with fail
          refine (hd _).mono ?_
          rintro e w4 ⟨rfl, hE4⟩
          clear hd
          go_wp2_with fail
          exact ⟨⟨i + 1, by go_num, by omega, (hEr.trans hE4).trans (ext_alloc w4 _), (hE3r.trans hE4).trans (ext_alloc w4 _)⟩, by simp [intOf]; omega⟩
        have j1 : decide (0 ≤ t) = true := decide_eq_true (by omega)
        have j2 : decide (t ≤ 4294967296) = true := decide_eq_true (by omega)
        have hd := fun W : World => date_out W t (by omega) (by omega)
        have hrd := fun W : World => rdate_any W t (by omega) (by omega)
        have hf := fun {W : World} (hE : Ext w3 W) => fits_any W g S (tl s) (civY (t / 1440)) (civM (t / 1440)) (civD (t / 1440)) (t / 60 % 24) (t % 60) ((t / 1440 + 6) % 7) (hSp3.ext hE) hok
        have hrf := fun {W : World} (hE : Ext w3 W) => reffits_any W g2 c2 S vs ls (civY (t / 1440)) (civM (t / 1440)) (civD (t / 1440)) (t / 60 % 24) (t % 60) ((t / 1440 + 6) % 7) (hFl.ext hE)
        simp only [dtA, six] at hd hrd hf hrf
        generalize civY (t / 1440) = cy at *
        generalize civM (t / 1440) = cm at *
        generalize civD (t / 1440) = cd at *
        generalize (t / 1440 + 6) % 7 = wk at *
        generalize t / 60 % 24 = hr_ at *
        generalize t % 60 = mi at *
        generalize S.fits cm cd hr_ mi wk = F at *
        go_wp2_with fail
        refine (hd _).mono ?_
        rintro e w4 ⟨rfl, hE4⟩
        clear hd
        go_wp2_with fail
        refine (hf ((hE3r.trans hE4).trans (ext_alloc w4 _))).mono ?_
        rintro e w5 ⟨rfl, hE5⟩
        clear hf
        go_wp2_with fail
        refine (hrd _).mono ?_
        rintro e w6 ⟨rfl, hE6⟩
        clear hrd
        go_wp2_with fail
        refine (hrf ((((hE3r.trans hE4).trans (ext_alloc w4 _)).trans hE5).trans hE6)).mono ?_
        rintro e w7 ⟨rfl, hE7⟩
        clear hrf
        go_wp2_with fail
        exact ⟨⟨i + 1, by go_num, by omega, ((((hEr.trans hE4).trans (ext_alloc w4 _)).trans hE5).trans hE6).trans hE7, ((((hE3r.trans hE4).trans (ext_alloc w4 _)).trans hE5).trans hE6).trans hE7⟩, by simp [intOf]; omega⟩
      · have hi' : i = zs.length := by omega
        subst hi'
        have ht := text_any wr g S (tl s) (hSp3.ext hE3r)
        rw [show strV (tl s) = .string s by rw [strV, strOf_tl]] at ht
        go_wp2_with fail
        refine ht.mono ?_
        rintro e w4 ⟨rfl, hE4⟩
        clear ht
        go_wp2_with fail
        go_ret
        exact ⟨rfl, hEr.trans hE4⟩
end Go.Proofs.YtmgpkadgalgnnaaDoor
