/- cron: the two date reckonings, walked. -/
import Derived.Test.YtnbdcdeidhhgoaaDoorHOps
import Derived.Test.YtnbdcdeidhhgoaaDoorCSmall
import Derived.Test.YtnbdcdeidhhgoaaDoorSep
namespace Go.Proofs.YtnbdcdeidhhgoaaDoor
set_option maxRecDepth 4000
set_option linter.unusedVariables false
set_option linter.unusedSimpArgs false
open Go Go.RowKit
def six (y m d h n k : Int) : Array Value := #[.int .i64 y, .int .i64 m, .int .i64 d, .int .i64 h, .int .i64 n, .int .i64 k]
def dtA (t : Int) : Array Value := six (civY (t / 1440)) (civM (t / 1440)) (civD (t / 1440)) (t / 60 % 24) (t % 60) ((t / 1440 + 6) % 7)
theorem six_all (y m d h n k : Int) : (six y m d h n k).all (·.oneCell') = true := by simp [six, Value.oneCell']
theorem dateInfo : (Tryd.prog.info? 82).map (·.size) = some 6 := by kernel_rfl
def YRel (w : World) (g g2 : Nat) (day h n k : Int) (v : Value) (wr : World) : Prop :=
  ∃ y r, v = .int .i64 r ∧ 2000 ≤ y ∧ 0 ≤ r ∧ day = yb y + r ∧ Has w wr [blkA g 82 (six y 0 0 h n k), blkA g2 82 (six 0 0 0 0 0 0)]
def MRel (w : World) (g g2 : Nat) (day h n k y : Int) (v : Value) (wr : World) : Prop :=
  ∃ m r, v = .int .i64 r ∧ 1 ≤ m ∧ m ≤ 12 ∧ 0 ≤ r ∧ day = yb y + cum y m + r ∧ cum y m + r < 365 + lp y ∧ Has w wr [blkA g 82 (six y m 0 h n k), blkA g2 82 (six 0 0 0 0 0 0)]
theorem yb_ge {y : Int} (h : 2000 ≤ y) : 365 * (y - 2000) ≤ yb y := by unfold yb; omega
theorem yb_400 (e : Int) : yb (2000 + 400 * e) = 146097 * e := by unfold yb; omega
theorem date_out (w : World) (t : Int) (h0 : 0 ≤ t) (h1 : t ≤ 4294967296) :
    Calls Tryd.prog 22 #[.int .i64 t] w fun e w' => e = .returned (.tuple #[.agg (dtA t), .int .i64 0]) ∧ Ext w w' := by
  obtain ⟨day, hday⟩ : ∃ d, t / 1440 = d := ⟨_, rfl⟩
  have hd0 : 0 ≤ day := by omega
  have hd1 : day ≤ 2982617 := by omega
  have huniq : ∀ y m d, IsDate day y m d → dtA t = six y m d (t / 60 % 24) (t % 60) ((day + 6) % 7) := by
    intro y m d h
    obtain ⟨rfl, rfl, rfl⟩ := h.unique (civ_isDate hd0)
    unfold dtA; rw [hday]
  have HU := Lib.hid huniq
  clear huniq
  have H1 := ((Has.nil (Ext.refl w)).new .nil 82 (six 0 0 0 0 0 0)).new (.cons (blkA_loc _ _ _) .nil) 82 (six (2000 + 400 * (day / 146097)) 0 0 (t / 60 % 24) (t % 60) ((day + 6) % 7))
  have g1 : (w.alloc (.cells (six 0 0 0 0 0 0) 82)).heap.size = w.heap.size + 1 := by simp
  rw [g1] at H1
  clear g1
  have S1 : YRel w (w.heap.size + 1) w.heap.size day (t / 60 % 24) (t % 60) ((day + 6) % 7) (.int .i64 (day % 146097)) _ := ⟨2000 + 400 * (day / 146097), day % 146097, rfl, by omega, by omega, by rw [yb_400]; omega, H1⟩
  clear H1
  go_enter Tryd.func22, Tryd.ntmps22
  go_upto_block 0 with fail
  generalize t / 60 % 24 = h at *
  generalize t % 60 = mi at *
  generalize (day + 6) % 7 = wk at *
  rw [hday]
  clear hday
  refine gen_world' (fun X => YRel w (w.heap.size + 1) w.heap.size day h mi wk (.int .i64 (day % 146097)) X) S1 ?_
  clear S1
  intro w1 S1
  obtain ⟨g, hg⟩ : ∃ g, w.heap.size + 1 = g := ⟨_, rfl⟩
  rw [hg] at S1 ⊢
  obtain ⟨g2, hg2⟩ : ∃ g, w.heap.size = g := ⟨_, rfl⟩
  rw [hg2] at S1 ⊢
  clear hg hg2
  go_cut [5] (fun v wx => ∃ y r, v = .int .i64 r ∧ 2000 ≤ y ∧ 0 ≤ r ∧ day = yb y + r ∧ r < 365 + lp y ∧ Has w wx [blkA g 82 (six y 0 0 h mi wk), blkA g2 82 (six 0 0 0 0 0 0)])
  case first =>
    go_wp2_with fail
    go_loopw [5] (fun v wr => YRel w g g2 day h mi wk v wr) (fun v _ => (intOf v).toNat)
    case atStart => exact S1
    case round =>
      clear S1
      obtain ⟨y, r, rfl, hy, hr, he, hH⟩ := hrel
      have hb := hH.blk0
      have c0 : wr.cell? ⟨g, 0, none⟩ = some (.int .i64 y) := cell_of_row _ _ 0 _ _ _ hb
      have f0 := hb.frozen 0
      have hge := yb_ge hy
      have hy1 : y ≤ 20000 := by omega
      have hr1 : r ≤ 3000000 := by have := yb_mono hy; have : yb 2000 = 0 := rfl; omega
      have hl := leap_any wr y (by omega) (by omega)
      clear hge
      have hys := yb_succ y
      have hn : leapB y = decide (lp y = 1) := by unfold lp; split <;> simp_all
      rw [hn] at hl
      have HE := Lib.hid he
      have hl01 := lp_01 y
      obtain ⟨L, hLe⟩ : ∃ L, lp y = L := ⟨_, rfl⟩
      rw [hLe] at hn hys hl01 hl
      have HLP := Lib.hid hLe
      clear hLe
      have HYS := Lib.hid hys
      have hL : L = 0 ∨ L = 1 := by omega
      clear hb hn he hys hl01
      by_cases hrn : r < 365 + L
      · rcases hL with rfl | rfl
        all_goals
          go_wp2_with fail
          refine hl.mono ?_
          rintro e w' ⟨rfl, rfl⟩
          clear hl
          go_wp2_with fail
          go_meet
          exact ⟨y, r, rfl, hy, hr, HE.out, by rw [HLP.out]; exact hrn, hH⟩
      · rcases hL with rfl | rfl
        all_goals
          go_wp2_with fail
          refine hl.mono ?_
          rintro e w' ⟨rfl, rfl⟩
          clear hl
          go_wp2_with fail
          refine ⟨⟨y + 1, _, rfl, by omega, by omega, by rw [HYS.out]; have := HE.out; omega, hH.set (.cons (blkA_loc _ _ _) .nil) 0 (.int .i64 (y + 1))⟩, ?_⟩
          simp only [intOf]; omega
  case rest =>
    obtain ⟨y, r, rfl, hy, hr, he, hlt, hH⟩ := hcut
    have hge := yb_ge hy
    have hy1 : y ≤ 1000000 := by omega
    have hy0 : 0 ≤ y := by omega
    have S2 : MRel w g g2 day h mi wk y (.int .i64 r) _ := ⟨1, r, rfl, by omega, by omega, hr, by rw [cum_1]; omega, by rw [cum_1]; omega, hH.set (.cons (blkA_loc _ _ _) .nil) 1 (.int .i64 1)⟩
    have hb := hH.blk0
    have k1 : wc.cell? ⟨g, 1, none⟩ = some (.int .i64 0) := cell_of_row _ _ 1 _ _ _ hb
    have f1 := hb.frozen 1
    have hr1 : r ≤ 3000000 := by have := yb_mono hy; have : yb 2000 = 0 := rfl; omega
    have HE := Lib.hid he
    have HY := Lib.hid hy
    clear S1 hb hge hlt hH he hy
    go_wp2_with fail
    go_loopw [5] (fun v wr => MRel w g g2 day h mi wk y v wr) (fun v _ => (intOf v).toNat)
    case atStart => exact S2
    case round =>
      clear S2
      obtain ⟨m, r, rfl, hm1, hm2, hr, he, hc, hH⟩ := hrel
      have hb := hH.blk0
      have c0 : wr.cell? ⟨g, 0, none⟩ = some (.int .i64 y) := cell_of_row _ _ 0 _ _ _ hb
      have c1 : wr.cell? ⟨g, 1, none⟩ = some (.int .i64 m) := cell_of_row _ _ 1 _ _ _ hb
      have c2 : wr.cell? ⟨g, 2, none⟩ = some (.int .i64 0) := cell_of_row _ _ 2 _ _ _ hb
      have f1 := hb.frozen 1
      have f2 := hb.frozen 2
      have hr1 : r ≤ 3000000 := by
        have := lp_01 y
        have := cum_mono y (show 1 ≤ (1 : Int) by omega) hm1 (by omega)
        rw [cum_1] at this
        omega
      have hl := days_any wr y m hy0 hy1
      have hcs := cum_succ y hm1 hm2
      have hdp := dm_pos y m
      have h13 := cum_13 y
      have HD : Hid (∀ d, d ≤ dm y m → 1 ≤ d → d = r + 1 → IsDate day y m d) := Lib.hid fun d h1 h2 h3 => ⟨HY.out, hm1, hm2, h2, h1, by omega⟩
      have HM : Hid (dm y m ≤ r → m + 1 ≤ 12 ∧ day = yb y + cum y (m + 1) + (r - dm y m) ∧ cum y (m + 1) + (r - dm y m) < 365 + lp y) := Lib.hid fun h1 => by
        rcases (show m ≤ 11 ∨ m = 12 by omega) with h | h
        · exact ⟨by omega, by omega, by omega⟩
        · subst h; have : cum y (12 + 1) = 365 + lp y := h13; omega
      clear he hc hcs h13
      generalize dm y m = D at *
      by_cases hrn : D ≤ r
      · go_wp2_with fail
        refine hl.mono ?_
        rintro e w' ⟨rfl, rfl⟩
        go_wp2_with fail
        refine hl.mono ?_
        rintro e w' ⟨rfl, rfl⟩
        clear hl
        obtain ⟨k1, k2, k3⟩ := HM.out hrn
        have HK2 := Lib.hid k2
        clear k2
        go_wp2_with fail
        refine ⟨⟨m + 1, _, rfl, by omega, k1, by omega, HK2.out, k3, hH.set (.cons (blkA_loc _ _ _) .nil) 1 (.int .i64 (m + 1))⟩, ?_⟩
        simp only [intOf]; omega
      · go_wp2_with fail
        refine hl.mono ?_
        rintro e w' ⟨rfl, rfl⟩
        clear hl
        have hH2 := (hH.set (.cons (blkA_loc _ _ _) .nil) 2 (.int .i64 (r + 1))).swap
        have hb2 := hH2.blk0
        have c3 : wr.cell? ⟨g, 3, none⟩ = some (.int .i64 h) := cell_of_row _ _ 3 _ _ _ hb
        have c4 : wr.cell? ⟨g, 4, none⟩ = some (.int .i64 mi) := cell_of_row _ _ 4 _ _ _ hb
        have c5 : wr.cell? ⟨g, 5, none⟩ = some (.int .i64 wk) := cell_of_row _ _ 5 _ _ _ hb
        go_wp2_with (refine wpList_store_row rfl _ _ _ rfl g2 (six y m (r + 1) h mi wk) rfl rfl _ _ hb2 dateInfo rfl (six_all _ _ _ _ _ _) ?_)
        have hb3 := setRow_blk (cs := six y m (r + 1) h mi wk) hb2
        refine bodyPost_ret (v := .tuple #[.agg (six y m (r + 1) h mi wk), .int .i64 0]) (results_cell2 Tryd.results22 _ _ g2 82 (six y m (r + 1) h mi wk) _ _ rfl hb3 Tryd.underlying82 rfl dateInfo) rfl ⟨?_, (hH2.row (.cons (blkA_loc _ _ _) .nil)).base⟩
        rw [HU.out y m (r + 1) (HD.out _ (by omega) (by omega) rfl)]
theorem date_bad (w : World) (t : Int) (h : t < 0 ∨ 4294967296 < t) :
    Calls Tryd.prog 22 #[.int .i64 t] w fun e w' => e = .returned (.tuple #[.agg (six 0 0 0 0 0 0), .int .i64 1]) ∧ Ext w w' := by
  rcases h with h | h
  · have H1 := (Has.nil (Ext.refl w)).new .nil 82 (six 0 0 0 0 0 0)
    have hb := H1.blk0
    go_enter Tryd.func22, Tryd.ntmps22
    go_wp2_with (refine wpList_store_row rfl _ _ _ rfl w.heap.size (six 0 0 0 0 0 0) rfl rfl _ _ hb dateInfo rfl (six_all _ _ _ _ _ _) ?_)
    have hb3 := setRow_blk (cs := six 0 0 0 0 0 0) hb
    refine bodyPost_ret (v := .tuple #[.agg (six 0 0 0 0 0 0), .int .i64 1]) (results_cell2 Tryd.results22 _ _ w.heap.size 82 (six 0 0 0 0 0 0) _ _ rfl hb3 Tryd.underlying82 rfl dateInfo) rfl ⟨rfl, (H1.row .nil).base⟩
  · have h2 : ¬ t < 0 := by omega
    have H1 := (Has.nil (Ext.refl w)).new .nil 82 (six 0 0 0 0 0 0)
    have hb := H1.blk0
    go_enter Tryd.func22, Tryd.ntmps22
    go_wp2_with (refine wpList_store_row rfl _ _ _ rfl w.heap.size (six 0 0 0 0 0 0) rfl rfl _ _ hb dateInfo rfl (six_all _ _ _ _ _ _) ?_)
    have hb3 := setRow_blk (cs := six 0 0 0 0 0 0) hb
    refine bodyPost_ret (v := .tuple #[.agg (six 0 0 0 0 0 0), .int .i64 1]) (results_cell2 Tryd.results22 _ _ w.heap.size 82 (six 0 0 0 0 0 0) _ _ rfl hb3 Tryd.underlying82 rfl dateInfo) rfl ⟨rfl, (H1.row .nil).base⟩
theorem civY_i {day : Int} (h : 0 ≤ day) : let z := day + 730425; let doe := z % 146097; let yoe := (doe - doe / 1460 + doe / 36524 - doe / 146096) / 365; let doy := doe - (365 * yoe + yoe / 4 - yoe / 100); let mp := (5 * doy + 2) / 153
    civY day = yoe + 400 * (z / 146097) + (if 9 < mp then 1 else 0) ∧ civM day = mp + 3 - (if 9 < mp then 12 else 0) ∧ civD day = doy - (153 * mp + 2) / 5 + 1 ∧ 0 ≤ doy ∧ doy < 366 ∧ 0 ≤ yoe ∧ yoe < 400 := by
  intro z doe yoe doy mp
  have hz : z = day + 730425 := rfl
  obtain ⟨D, hD⟩ : ∃ D : Nat, doe = D := ⟨doe.toNat, by have : doe = z % 146097 := rfl; omega⟩
  have hDl : D < 146097 := by have : doe = z % 146097 := rfl; omega
  have e1 : (z % 146097).toNat = D := by have : doe = z % 146097 := rfl; omega
  obtain ⟨h1, h2, h3⟩ := yoe_eq hDl
  have h4 := st_top _ h1
  rw [st_lt _ h1] at h2
  have hy : yoe = (g4 D / 365 : Nat) := by
    have : yoe = (doe - doe / 1460 + doe / 36524 - doe / 146096) / 365 := rfl
    rw [this, hD]; unfold g4; omega
  generalize hY : g4 D / 365 = Y at *
  have hdoy : doy = (D - (365 * Y + Y / 4 - Y / 100) : Nat) := by
    have : doy = doe - (365 * yoe + yoe / 4 - yoe / 100) := rfl
    rw [this, hD, hy]; omega
  have hlt : D - (365 * Y + Y / 4 - Y / 100) < 366 := by split at h4 <;> omega
  have hmp : mp = (mpN (D - (365 * Y + Y / 4 - Y / 100)) : Nat) := by
    have : mp = (5 * doy + 2) / 153 := rfl
    rw [this, hdoy]; unfold mpN; omega
  unfold civY civM civD
  simp only []
  rw [← hz, e1, hY]
  generalize hE : D - (365 * Y + Y / 4 - Y / 100) = E at *
  refine ⟨?_, ?_, ?_, by omega, by omega, by omega, by omega⟩
  · rw [hy, hmp]
    by_cases g : 9 < mpN E
    · rw [if_pos g, if_pos (by omega)]
    · rw [if_neg g, if_neg (by omega)]
  · rw [hmp]
    by_cases g : 9 < mpN E
    · rw [if_pos g, if_pos (by omega)]
    · rw [if_neg g, if_neg (by omega)]
  · rw [hdoy, hmp]; unfold mdN; omega
end Go.Proofs.YtnbdcdeidhhgoaaDoor
