/- A log's lay: a frame behind the others. -/
import Derived.Test.YthghflfgldcmbaaWSettle
namespace Go.Proofs.Ythghflfgldcmbaa
set_option maxRecDepth 4000
set_option linter.unusedVariables false
set_option linter.unusedSimpArgs false
open Go Go.RowKit
theorem dkH.comm {w W : World} {d : Nat} {s : DS} {a b c : List Asr} (h : dkH w W d s (a ++ (b ++ c))) : dkH w W d s (b ++ (a ++ c)) := h.perm (by
  rw [← List.append_assoc, ← List.append_assoc]
  exact List.Perm.append_right c List.perm_append_comm)
theorem dkH.dropA {w W : World} {d : Nat} {s : DS} {ps : List Asr} : ∀ {a : List Asr}, dkH w W d s (a ++ ps) → dkH w W d s ps
  | [], h => h
  | _ :: _, h => dkH.dropA (dkH.drop h)
def LyOut (w W' : World) (d : Nat) (s : DS) (g T : Nat) (pr : Option Addr) (rc : Nat) (R P : List UInt8) (ps : List Asr) (e : Ending) : Prop :=
  ∃ s' z a, s.chunks (T / 128) (R ++ P) = (s', z) ∧ e = .returned (.tuple #[.int .u64 a, .int .i64 z]) ∧ (z ≠ 0 → dkH w W' d s' (rgL g d T pr rc R ps)) ∧ (z = 0 → ∃ p' c', dkH w W' d s' (rgL g d (T + P.length) p' c' (tailR (R ++ P)) ps))
def LyC1 (w : World) (d : Nat) (s : DS) (T n : Nat) (L : List Asr) (v6 v7 : Value) (wx : World) : Prop :=
  ∃ pp cp, v6 = .int .u64 ((T + padN T n : Nat) : Int) ∧ v7 = .slice pp (padN T n) cp ∧ dkH w wx d s (viewA pp cp (List.replicate (padN T n) 0) :: L)
def LyC2 (w : World) (d : Nat) (s : DS) (a : Nat) (b : List UInt8) (L : List Asr) (v9 : Value) (wx : World) : Prop :=
  ∃ ph ch, v9 = .slice ph 9 ch ∧ dkH w wx d s (rowA 5 1 (.slice ph 9 ch) 9 (u8s (hdrB a b)) :: L)
abbrev Fr (W : World) (fb : Nat) (pb : Option Addr) (n cb : Nat) : Prop := Blk W fb 74 #[.int .i64 1, .slice pb n cb]
def frA (fb : Nat) (pb : Option Addr) (n cb : Nat) : Asr := blkA fb 74 #[.int .i64 1, .slice pb n cb]
theorem frA_loc (fb : Nat) (pb : Option Addr) (n cb : Nat) : Loc (frA fb pb n cb) := blkA_loc _ _ _
set_option maxHeartbeats 8000000 in
theorem lay_any {w W : World} {d : Nat} {s : DS} {ps : List Asr} {lg rg tl T : Nat} {wv : Value} {pr : Option Addr} {rc : Nat} {R : List UInt8} (h : dkH w W d s (rgL rg d T pr rc R ps)) (hl : Locs ps) (hLm : logA lg d rg 0 tl wv false ∈ ps) (hn : s.n = 194) (hR : R.length = T % 128)
    (pb : Option Addr) (cb : Nat) (b : List UInt8) (hB : ∀ X, Has w X ps → View X pb cb b) (hb : b.length ≤ 300) (hfit : T + (padN T b.length + (9 + b.length)) ≤ 24576) :
    Calls Try.prog 19 #[.pointer (some ⟨lg, 0, none⟩), .agg #[.int .i64 1, .slice pb b.length cb]] W fun e W' => LyOut w W' d s rg T pr rc R (frameB T b) ps e := by
  obtain ⟨i0, hi0, hz0, hz1, hz2⟩ := info_parts u8Info
  have h1 : dkH w _ d s (frA W.heap.size pb b.length cb :: rgL rg d T pr rc R ps) := h.new (rgL_locs hl) 74 #[.int .i64 1, .slice pb b.length cb]
  clear h
  go_enter Try.func19, Try.ntmps19
  go_upto_region 1 with fail
  refine gen_world' (fun X => dkH w X d s (frA W.heap.size pb b.length cb :: rgL rg d T pr rc R ps)) h1 ?_
  clear h1
  generalize W.heap.size = fb at *
  intro w1 h1
  have hlog : Lg w1 lg d rg 0 tl wv false := h1.rest.drop.drop.drop.blk hLm
  have hring : Ring w1 rg d T (.slice pr R.length rc) := h1.rest.drop.blk0
  have hfr : Fr w1 fb pb b.length cb := h1.rest.blk0
  have k1 : World.cell? w1 ⟨lg, 1, none⟩ = some (.pointer (some ⟨rg, 0, none⟩)) := Blk.cell hlog 1
  go_wp2_with fail
  refine (tail_any hring).mono ?_
  rintro e _ ⟨rfl, rfl⟩
  go_wp2_with fail
  refine (room_any w1 T (by omega)).mono ?_
  rintro e _ ⟨rfl, rfl⟩
  have f1 : World.cell? w1 ⟨fb, 1, none⟩ = some (.slice pb b.length cb) := Blk.cell hfr 1
  obtain ⟨r, hr⟩ : ∃ r, 2048 - T % 2048 = r := ⟨_, rfl⟩
  rw [hr]
  have hpd : padN T b.length = if r < 9 + b.length then r else 0 := by unfold padN; rw [hr]
  have hr0 : 0 < r := by omega
  have hr2 : r ≤ 2048 := by omega
  have hT2 : (T : Int) ≤ 24576 := by omega
  have HR := Lib.hid hr
  have HRT := Lib.hid hR
  clear hr hR
  have LF : Locs (frA fb pb b.length cb :: rgL rg d T pr rc R ps) := .cons (frA_loc _ _ _ _) (rgL_locs hl)
  go_upto_if 22 with fail
  go_cut [6, 7] (fun v6 v7 wx => LyC1 w d s T b.length (frA fb pb b.length cb :: rgL rg d T pr rc R ps) v6 v7 wx)
  case first =>
    by_cases hp : r < 9 + b.length
    · have hp' : (r : Int) < 9 + b.length := by omega
      rw [if_pos hp] at hpd
      have hmk := make_bytes w1 r (by omega)
      have h2 := h1.fresh LF (ext_alloc w1 (.cells (zrow r) 5)) (zrow_own w1 r (by unfold maxLen; omega))
      have HPD := Lib.hid hpd
      clear h1 hp hpd hfit
      go_wp2_with fail
      go_meet
      exact ⟨_, _, by rw [HPD.out]; go_num, by rw [HPD.out], by rw [HPD.out]; exact h2.turn (fun hl h => h.viewRow hl) LF⟩
    · have hp' : ¬ (r : Int) < 9 + b.length := by omega
      rw [if_neg hp] at hpd
      have HPD := Lib.hid hpd
      clear hp hpd hfit
      go_wp2_with fail
      go_meet
      exact ⟨none, 0, by rw [HPD.out]; rfl, by rw [HPD.out], by rw [HPD.out]; exact h1.with_ (fun hl h => h.viewNil hl) LF⟩
  case rest =>
    obtain ⟨pp, cp, rfl, rfl, h2⟩ := hcut
    clear h1 hpd hlog hring hfr k1 f1
    obtain ⟨pn, hpn⟩ : ∃ pn, padN T b.length = pn := ⟨_, rfl⟩
    rw [hpn] at h2 hfit ⊢
    obtain ⟨a, ha⟩ : ∃ a, T + pn = a := ⟨_, rfl⟩
    rw [ha]
    have ha2 : a ≤ 24576 := by omega
    have HPN := Lib.hid hpn
    have HA := Lib.hid ha
    clear hpn ha
    go_upto_region 7 with fail
    have hBL' : ∀ X, Has w X (viewA pp cp (List.replicate pn 0) :: frA fb pb b.length cb :: rgL rg d T pr rc R ps) → View X pb cb b := fun X h => hB X h.drop.drop.drop.drop
    have hFm' : frA fb pb b.length cb ∈ viewA pp cp (List.replicate pn 0) :: frA fb pb b.length cb :: rgL rg d T pr rc R ps := .tail _ (.head _)
    have hLL' : Locs (viewA pp cp (List.replicate pn 0) :: frA fb pb b.length cb :: rgL rg d T pr rc R ps) := .cons (viewA_loc _ _ _) LF
    obtain ⟨LL, hLL⟩ : ∃ LL, viewA pp cp (List.replicate pn 0) :: frA fb pb b.length cb :: rgL rg d T pr rc R ps = LL := ⟨_, rfl⟩
    rw [hLL] at h2 hBL' hFm' hLL'
    have HLL := Lib.hid hLL
    have hBL := hBL'
    have hFm := hFm'
    have LLl := hLL'
    clear hLL hBL' hFm' hLL'
    have hb3 : (b.length : Int) % 4294967296 = b.length := by omega
    go_cut [9] (fun v9 wx => LyC2 w d s a b LL v9 wx)
    case first =>
      have d0 : ∀ x : Of (fun X => Fr X fb pb b.length cb), x.val.cell? ⟨fb, 0, none⟩ = some (.int .i64 1) := fun x => Blk.cell x.property 0
      have d1 : ∀ x : Of (fun X => Fr X fb pb b.length cb), x.val.cell? ⟨fb, 1, none⟩ = some (.slice pb b.length cb) := fun x => Blk.cell x.property 1
      have hFd := (show Fr wc.drew fb pb b.length cb from h2.rest.blk hFm)
      have hne_ : Nonempty (Of ((fun X => Fr X fb pb b.length cb))) := ⟨⟨_, hFd⟩⟩
      refine region_plan (.seg [0,1,2,3,5,6,7,8,9,13,14,15] [true,true,true,true,true,true,true,true,true,true,true,true] (.fork 4 (.fork 10 (.fork 11 (.fork 12 (.seg [16,17,18] [false,false,true] .done) 16 (.seg [12,17,18] [false,false,true] .done)) 16 (.seg [11,12,17,18] [false,false,false,true] .done)) 16 (.seg [10,11,12,17,18] [false,false,false,false,true] .done)) 16 (.seg [4,10,11,12,17,18] [false,false,false,false,false,true] .done))) ((fun X => Fr X fb pb b.length cb)) (by kernel_rfl) (by kernel_rfl) hFd ?_
      refine walkP_seg ?_
      simp only [List.filterMap_cons, List.filterMap_nil, List.getElem?_cons_zero, List.getElem?_cons_succ]
      refine steps_quiet 12 (by kernel_rfl) ?_
      simp only [List.take_succ_cons, List.take_zero, List.drop_succ_cons, List.drop_zero]
      repeat (go_big_quiet_step (fail))
      refine wpQuiet_nil ?_
      have h3 := h2.ext LLl (Ext.refl wc).drew
      clear h2 d0 d1
      generalize World.drew wc = w2 at *
      have L1 : ∀ {e1 : TypeId} {z1 n1 : Nat} {v1 : Value} {x1 : List Value}, Locs (rowA e1 z1 v1 n1 x1 :: LL) := .cons (rowA_loc _ _ _ _ _) LLl
      have L2 : ∀ {e1 e2 : TypeId} {z1 n1 z2 n2 : Nat} {v1 v2 : Value} {x1 x2 : List Value}, Locs (rowA e1 z1 v1 n1 x1 :: rowA e2 z2 v2 n2 x2 :: LL) := .cons (rowA_loc _ _ _ _ _) L1
      have hxe : (u8s (d4 b.length) ++ u8s (d4 (sealN a 1 b))) ++ [.int .u8 1] = u8s (hdrB a b) := by
        unfold hdrB
        rw [u8s_append, u8s_append, List.append_assoc]; rfl
      refine steps_end ?_
      refine walkP_fork ?_ ?_
      all_goals simp only [List.filterMap_cons, List.filterMap_nil, List.getElem?_cons_zero, List.getElem?_cons_succ]
      · refine steps_want rfl (fun K hK => ?_)
        go_simp
        refine (digits_any _ b.length (by omega)).mono ?_
        rintro e w4 ⟨p1, c1, rfl, hEx, hrx⟩
        have h4 := (h3).fresh LLl hEx hrx
        refine hK _ _ (fun X => Fr X fb pb b.length cb) ((h4).rest.blk (by first | exact hFm | exact .tail _ hFm | exact .tail _ (.tail _ hFm) | exact .tail _ (.tail _ (.tail _ hFm)))) (fun _ h => h) ?_
        clear hK K
        (try simp only [Act.put, List.setIfInBounds_toArray, List.set_cons_succ, List.set_cons_zero])
        clear h3 hEx hrx
        refine steps_end ?_
        refine walkP_fork ?_ ?_
        all_goals simp only [List.filterMap_cons, List.filterMap_nil, List.getElem?_cons_zero, List.getElem?_cons_succ]
        · refine steps_want rfl (fun K hK => ?_)
          go_simp
          refine (seal_any _ a 1 ha2 (by omega) pb cb b (by omega) (by first | exact hBL _ (h4).rest | exact hBL _ (h4).rest.drop | exact hBL _ (h4).rest.drop.drop)).mono ?_
          rintro e w5 ⟨rfl, hEx⟩
          have h5 := (h4).ext L1 hEx
          refine hK _ _ (fun X => Fr X fb pb b.length cb) ((h5).rest.blk (by first | exact hFm | exact .tail _ hFm | exact .tail _ (.tail _ hFm) | exact .tail _ (.tail _ (.tail _ hFm)))) (fun _ h => h) ?_
          clear hK K
          (try simp only [Act.put, List.setIfInBounds_toArray, List.set_cons_succ, List.set_cons_zero])
          clear h4 hEx
          refine steps_end ?_
          refine walkP_fork ?_ ?_
          all_goals simp only [List.filterMap_cons, List.filterMap_nil, List.getElem?_cons_zero, List.getElem?_cons_succ]
          · refine steps_want rfl (fun K hK => ?_)
            go_simp
            refine (digits_any _ (sealN a 1 b) (sealN_lt _ _ _)).mono ?_
            rintro e w6 ⟨p2, c2, rfl, hEx, hrx⟩
            have h6 := (h5).fresh L1 hEx hrx
            refine hK _ _ (fun X => Fr X fb pb b.length cb) ((h6).rest.blk (by first | exact hFm | exact .tail _ hFm | exact .tail _ (.tail _ hFm) | exact .tail _ (.tail _ (.tail _ hFm)))) (fun _ h => h) ?_
            clear hK K
            (try simp only [Act.put, List.setIfInBounds_toArray, List.set_cons_succ, List.set_cons_zero])
            clear h5 hEx hrx
            refine steps_end ?_
            refine walkP_fork ?_ ?_
            all_goals simp only [List.filterMap_cons, List.filterMap_nil, List.getElem?_cons_zero, List.getElem?_cons_succ]
            · have h7 := dkH.pick (l := [_, _]) h6 [1, 0] (by rfl)
              refine steps_want rfl (fun K hK => ?_)
              refine wp_append_new _ _ 36 rfl 5 i0 (.int .u8 0) 1 1 Try.underlying36 hi0 hz0 hz1 hz2 rfl (by decide) _ 4 ((u8s (d4 b.length))) rfl (h7).rest.row0 p2 4 c2 ((u8s (d4 (sealN a 1 b)))) rfl rfl (row_nil (h7).rest.drop.row0) (row_news (h7).rest.drop.row0) (u8s_one _) (by unfold maxLen; omega) (by omega) ?_
              intro v' w8 hownx hgx hfx
              obtain ⟨p3, c3, rfl⟩ := ownsRow_slice hownx
              have h8 := (h7).turn (q := rowA 5 1 (.slice p3 (4 + 4) c3) (4 + 4) ((u8s (d4 b.length)) ++ (u8s (d4 (sealN a 1 b))))) (fun hl h => h.grow hl hownx hgx hfx) L1
              refine hK _ _ (fun X => Fr X fb pb b.length cb) ((h8).rest.blk (by first | exact hFm | exact .tail _ hFm | exact .tail _ (.tail _ hFm) | exact .tail _ (.tail _ (.tail _ hFm)))) (fun _ h => h) ?_
              clear hK K
              (try simp only [Act.put, List.setIfInBounds_toArray, List.set_cons_succ, List.set_cons_zero])
              clear h7 hownx hgx hfx
              refine steps_end ?_
              refine walkP_seg ?_
              simp only [List.filterMap_cons, List.filterMap_nil, List.getElem?_cons_zero, List.getElem?_cons_succ]
              have h9 : dkH w (World.alloc w8 (.cells #[.int .u8 1] 5)) d s _ := (h8).fresh L2 (ext_alloc w8 (.cells #[.int .u8 1] 5)) (World.ownsRow_lit (size := 1) w8 #[.int .u8 1] 1 (Nat.le_refl _) (by unfold maxLen; omega) rfl)
              refine steps_want rfl (fun K hK => ?_)
              go_simp
              refine hK _ _ (fun X => Fr X fb pb b.length cb) ((h9).rest.blk (by first | exact hFm | exact .tail _ hFm | exact .tail _ (.tail _ hFm) | exact .tail _ (.tail _ (.tail _ hFm)))) (fun _ h => h) ?_
              clear hK K
              (try simp only [Act.put, List.setIfInBounds_toArray, List.set_cons_succ, List.set_cons_zero])
              clear h8
              generalize World.alloc w8 (.cells #[.int .u8 1] 5) = w9 at *
              have h10 := dkH.pick (l := [_, _, _]) h9 [1, 0, 2] (by rfl)
              refine steps_want rfl (fun K hK => ?_)
              refine wp_append_new _ _ 36 rfl 5 i0 (.int .u8 0) 1 1 Try.underlying36 hi0 hz0 hz1 hz2 rfl (by decide) _ (4 + 4) ((u8s (d4 b.length) ++ u8s (d4 (sealN a 1 b)))) rfl (h10).rest.row0 (some ⟨w8.heap.size, 0, none⟩) 1 1 ([.int .u8 1]) rfl rfl (row_nil (h10).rest.drop.row0) (row_news (h10).rest.drop.row0) (oneC1 _ _) (by unfold maxLen; omega) (by omega) ?_
              intro v' w11 hownx hgx hfx
              obtain ⟨p4, c4, rfl⟩ := ownsRow_slice hownx
              have h11 := (h10).turn (q := rowA 5 1 (.slice p4 ((4 + 4) + 1) c4) ((4 + 4) + 1) ((u8s (d4 b.length) ++ u8s (d4 (sealN a 1 b))) ++ [.int .u8 1])) (fun hl h => h.grow hl hownx hgx hfx) L2
              refine hK _ _ (fun X => Fr X fb pb b.length cb) ((h11).rest.blk (by first | exact hFm | exact .tail _ hFm | exact .tail _ (.tail _ hFm) | exact .tail _ (.tail _ (.tail _ hFm)))) (fun _ h => h) ?_
              clear hK K
              (try simp only [Act.put, List.setIfInBounds_toArray, List.set_cons_succ, List.set_cons_zero])
              clear h10 hownx hgx hfx
              refine steps_quiet 1 (by kernel_rfl) ?_
              simp only [List.take_succ_cons, List.take_zero, List.drop_succ_cons, List.drop_zero]
              repeat (go_big_quiet_step (fail))
              refine wpQuiet_nil ?_
              refine steps_end ?_
              refine walkP_done ?_
              go_wp2_with fail
              go_meet
              refine ⟨p4, c4, rfl, ?_⟩
              have h12 := (dkH.pick (l := [_, _, _]) h11 [1, 2, 0] (by rfl)).drop.drop
              rw [hxe] at h12
              exact h12
            · have h7 : dkH w (World.alloc w6 (.cells #[.int .u8 1] 5)) d s _ := (h6).fresh L2 (ext_alloc w6 (.cells #[.int .u8 1] 5)) (World.ownsRow_lit (size := 1) w6 #[.int .u8 1] 1 (Nat.le_refl _) (by unfold maxLen; omega) rfl)
              refine steps_want rfl (fun K hK => ?_)
              go_simp
              refine hK _ _ (fun X => Fr X fb pb b.length cb) ((h7).rest.blk (by first | exact hFm | exact .tail _ hFm | exact .tail _ (.tail _ hFm) | exact .tail _ (.tail _ (.tail _ hFm)))) (fun _ h => h) ?_
              clear hK K
              (try simp only [Act.put, List.setIfInBounds_toArray, List.set_cons_succ, List.set_cons_zero])
              clear h6
              generalize World.alloc w6 (.cells #[.int .u8 1] 5) = w7 at *
              refine steps_end ?_
              refine walkP_seg ?_
              simp only [List.filterMap_cons, List.filterMap_nil, List.getElem?_cons_zero, List.getElem?_cons_succ]
              have h8 := dkH.pick (l := [_, _, _]) h7 [2, 1, 0] (by rfl)
              refine steps_want rfl (fun K hK => ?_)
              refine wp_append_new _ _ 36 rfl 5 i0 (.int .u8 0) 1 1 Try.underlying36 hi0 hz0 hz1 hz2 rfl (by decide) _ 4 ((u8s (d4 b.length))) rfl (h8).rest.row0 p2 4 c2 ((u8s (d4 (sealN a 1 b)))) rfl rfl (row_nil (h8).rest.drop.row0) (row_news (h8).rest.drop.row0) (u8s_one _) (by unfold maxLen; omega) (by omega) ?_
              intro v' w9 hownx hgx hfx
              obtain ⟨p3, c3, rfl⟩ := ownsRow_slice hownx
              have h9 := (h8).turn (q := rowA 5 1 (.slice p3 (4 + 4) c3) (4 + 4) ((u8s (d4 b.length)) ++ (u8s (d4 (sealN a 1 b))))) (fun hl h => h.grow hl hownx hgx hfx) L2
              refine hK _ _ (fun X => Fr X fb pb b.length cb) ((h9).rest.blk (by first | exact hFm | exact .tail _ hFm | exact .tail _ (.tail _ hFm) | exact .tail _ (.tail _ (.tail _ hFm)))) (fun _ h => h) ?_
              clear hK K
              (try simp only [Act.put, List.setIfInBounds_toArray, List.set_cons_succ, List.set_cons_zero])
              clear h8 hownx hgx hfx
              have h10 := dkH.pick (l := [_, _, _]) h9 [0, 2, 1] (by rfl)
              refine steps_want rfl (fun K hK => ?_)
              refine wp_append_new _ _ 36 rfl 5 i0 (.int .u8 0) 1 1 Try.underlying36 hi0 hz0 hz1 hz2 rfl (by decide) _ (4 + 4) ((u8s (d4 b.length) ++ u8s (d4 (sealN a 1 b)))) rfl (h10).rest.row0 (some ⟨w6.heap.size, 0, none⟩) 1 1 ([.int .u8 1]) rfl rfl (row_nil (h10).rest.drop.row0) (row_news (h10).rest.drop.row0) (oneC1 _ _) (by unfold maxLen; omega) (by omega) ?_
              intro v' w11 hownx hgx hfx
              obtain ⟨p4, c4, rfl⟩ := ownsRow_slice hownx
              have h11 := (h10).turn (q := rowA 5 1 (.slice p4 ((4 + 4) + 1) c4) ((4 + 4) + 1) ((u8s (d4 b.length) ++ u8s (d4 (sealN a 1 b))) ++ [.int .u8 1])) (fun hl h => h.grow hl hownx hgx hfx) L2
              refine hK _ _ (fun X => Fr X fb pb b.length cb) ((h11).rest.blk (by first | exact hFm | exact .tail _ hFm | exact .tail _ (.tail _ hFm) | exact .tail _ (.tail _ (.tail _ hFm)))) (fun _ h => h) ?_
              clear hK K
              (try simp only [Act.put, List.setIfInBounds_toArray, List.set_cons_succ, List.set_cons_zero])
              clear h10 hownx hgx hfx
              refine steps_quiet 1 (by kernel_rfl) ?_
              simp only [List.take_succ_cons, List.take_zero, List.drop_succ_cons, List.drop_zero]
              repeat (go_big_quiet_step (fail))
              refine wpQuiet_nil ?_
              refine steps_end ?_
              refine walkP_done ?_
              go_wp2_with fail
              go_meet
              refine ⟨p4, c4, rfl, ?_⟩
              have h12 := (dkH.pick (l := [_, _, _]) h11 [1, 2, 0] (by rfl)).drop.drop
              rw [hxe] at h12
              exact h12
          · have h6 : dkH w (World.alloc w5 (.cells #[.int .u8 1] 5)) d s _ := (h5).fresh L1 (ext_alloc w5 (.cells #[.int .u8 1] 5)) (World.ownsRow_lit (size := 1) w5 #[.int .u8 1] 1 (Nat.le_refl _) (by unfold maxLen; omega) rfl)
            refine steps_want rfl (fun K hK => ?_)
            go_simp
            refine hK _ _ (fun X => Fr X fb pb b.length cb) ((h6).rest.blk (by first | exact hFm | exact .tail _ hFm | exact .tail _ (.tail _ hFm) | exact .tail _ (.tail _ (.tail _ hFm)))) (fun _ h => h) ?_
            clear hK K
            (try simp only [Act.put, List.setIfInBounds_toArray, List.set_cons_succ, List.set_cons_zero])
            clear h5
            generalize World.alloc w5 (.cells #[.int .u8 1] 5) = w6 at *
            refine steps_end ?_
            refine walkP_seg ?_
            simp only [List.filterMap_cons, List.filterMap_nil, List.getElem?_cons_zero, List.getElem?_cons_succ]
            refine steps_want rfl (fun K hK => ?_)
            go_simp
            refine (digits_any _ (sealN a 1 b) (sealN_lt _ _ _)).mono ?_
            rintro e w7 ⟨p2, c2, rfl, hEx, hrx⟩
            have h7 := (h6).fresh L2 hEx hrx
            refine hK _ _ (fun X => Fr X fb pb b.length cb) ((h7).rest.blk (by first | exact hFm | exact .tail _ hFm | exact .tail _ (.tail _ hFm) | exact .tail _ (.tail _ (.tail _ hFm)))) (fun _ h => h) ?_
            clear hK K
            (try simp only [Act.put, List.setIfInBounds_toArray, List.set_cons_succ, List.set_cons_zero])
            clear h6 hEx hrx
            have h8 := dkH.pick (l := [_, _, _]) h7 [2, 0, 1] (by rfl)
            refine steps_want rfl (fun K hK => ?_)
            refine wp_append_new _ _ 36 rfl 5 i0 (.int .u8 0) 1 1 Try.underlying36 hi0 hz0 hz1 hz2 rfl (by decide) _ 4 ((u8s (d4 b.length))) rfl (h8).rest.row0 p2 4 c2 ((u8s (d4 (sealN a 1 b)))) rfl rfl (row_nil (h8).rest.drop.row0) (row_news (h8).rest.drop.row0) (u8s_one _) (by unfold maxLen; omega) (by omega) ?_
            intro v' w9 hownx hgx hfx
            obtain ⟨p3, c3, rfl⟩ := ownsRow_slice hownx
            have h9 := (h8).turn (q := rowA 5 1 (.slice p3 (4 + 4) c3) (4 + 4) ((u8s (d4 b.length)) ++ (u8s (d4 (sealN a 1 b))))) (fun hl h => h.grow hl hownx hgx hfx) L2
            refine hK _ _ (fun X => Fr X fb pb b.length cb) ((h9).rest.blk (by first | exact hFm | exact .tail _ hFm | exact .tail _ (.tail _ hFm) | exact .tail _ (.tail _ (.tail _ hFm)))) (fun _ h => h) ?_
            clear hK K
            (try simp only [Act.put, List.setIfInBounds_toArray, List.set_cons_succ, List.set_cons_zero])
            clear h8 hownx hgx hfx
            have h10 := dkH.pick (l := [_, _, _]) h9 [0, 2, 1] (by rfl)
            refine steps_want rfl (fun K hK => ?_)
            refine wp_append_new _ _ 36 rfl 5 i0 (.int .u8 0) 1 1 Try.underlying36 hi0 hz0 hz1 hz2 rfl (by decide) _ (4 + 4) ((u8s (d4 b.length) ++ u8s (d4 (sealN a 1 b)))) rfl (h10).rest.row0 (some ⟨w5.heap.size, 0, none⟩) 1 1 ([.int .u8 1]) rfl rfl (row_nil (h10).rest.drop.row0) (row_news (h10).rest.drop.row0) (oneC1 _ _) (by unfold maxLen; omega) (by omega) ?_
            intro v' w11 hownx hgx hfx
            obtain ⟨p4, c4, rfl⟩ := ownsRow_slice hownx
            have h11 := (h10).turn (q := rowA 5 1 (.slice p4 ((4 + 4) + 1) c4) ((4 + 4) + 1) ((u8s (d4 b.length) ++ u8s (d4 (sealN a 1 b))) ++ [.int .u8 1])) (fun hl h => h.grow hl hownx hgx hfx) L2
            refine hK _ _ (fun X => Fr X fb pb b.length cb) ((h11).rest.blk (by first | exact hFm | exact .tail _ hFm | exact .tail _ (.tail _ hFm) | exact .tail _ (.tail _ (.tail _ hFm)))) (fun _ h => h) ?_
            clear hK K
            (try simp only [Act.put, List.setIfInBounds_toArray, List.set_cons_succ, List.set_cons_zero])
            clear h10 hownx hgx hfx
            refine steps_quiet 1 (by kernel_rfl) ?_
            simp only [List.take_succ_cons, List.take_zero, List.drop_succ_cons, List.drop_zero]
            repeat (go_big_quiet_step (fail))
            refine wpQuiet_nil ?_
            refine steps_end ?_
            refine walkP_done ?_
            go_wp2_with fail
            go_meet
            refine ⟨p4, c4, rfl, ?_⟩
            have h12 := (dkH.pick (l := [_, _, _]) h11 [1, 2, 0] (by rfl)).drop.drop
            rw [hxe] at h12
            exact h12
        · have h5 : dkH w (World.alloc w4 (.cells #[.int .u8 1] 5)) d s _ := (h4).fresh L1 (ext_alloc w4 (.cells #[.int .u8 1] 5)) (World.ownsRow_lit (size := 1) w4 #[.int .u8 1] 1 (Nat.le_refl _) (by unfold maxLen; omega) rfl)
          refine steps_want rfl (fun K hK => ?_)
          go_simp
          refine hK _ _ (fun X => Fr X fb pb b.length cb) ((h5).rest.blk (by first | exact hFm | exact .tail _ hFm | exact .tail _ (.tail _ hFm) | exact .tail _ (.tail _ (.tail _ hFm)))) (fun _ h => h) ?_
          clear hK K
          (try simp only [Act.put, List.setIfInBounds_toArray, List.set_cons_succ, List.set_cons_zero])
          clear h4
          generalize World.alloc w4 (.cells #[.int .u8 1] 5) = w5 at *
          refine steps_end ?_
          refine walkP_seg ?_
          simp only [List.filterMap_cons, List.filterMap_nil, List.getElem?_cons_zero, List.getElem?_cons_succ]
          refine steps_want rfl (fun K hK => ?_)
          go_simp
          refine (seal_any _ a 1 ha2 (by omega) pb cb b (by omega) (by first | exact hBL _ (h5).rest | exact hBL _ (h5).rest.drop | exact hBL _ (h5).rest.drop.drop)).mono ?_
          rintro e w6 ⟨rfl, hEx⟩
          have h6 := (h5).ext L2 hEx
          refine hK _ _ (fun X => Fr X fb pb b.length cb) ((h6).rest.blk (by first | exact hFm | exact .tail _ hFm | exact .tail _ (.tail _ hFm) | exact .tail _ (.tail _ (.tail _ hFm)))) (fun _ h => h) ?_
          clear hK K
          (try simp only [Act.put, List.setIfInBounds_toArray, List.set_cons_succ, List.set_cons_zero])
          clear h5 hEx
          refine steps_want rfl (fun K hK => ?_)
          go_simp
          refine (digits_any _ (sealN a 1 b) (sealN_lt _ _ _)).mono ?_
          rintro e w7 ⟨p2, c2, rfl, hEx, hrx⟩
          have h7 := (h6).fresh L2 hEx hrx
          refine hK _ _ (fun X => Fr X fb pb b.length cb) ((h7).rest.blk (by first | exact hFm | exact .tail _ hFm | exact .tail _ (.tail _ hFm) | exact .tail _ (.tail _ (.tail _ hFm)))) (fun _ h => h) ?_
          clear hK K
          (try simp only [Act.put, List.setIfInBounds_toArray, List.set_cons_succ, List.set_cons_zero])
          clear h6 hEx hrx
          have h8 := dkH.pick (l := [_, _, _]) h7 [2, 0, 1] (by rfl)
          refine steps_want rfl (fun K hK => ?_)
          refine wp_append_new _ _ 36 rfl 5 i0 (.int .u8 0) 1 1 Try.underlying36 hi0 hz0 hz1 hz2 rfl (by decide) _ 4 ((u8s (d4 b.length))) rfl (h8).rest.row0 p2 4 c2 ((u8s (d4 (sealN a 1 b)))) rfl rfl (row_nil (h8).rest.drop.row0) (row_news (h8).rest.drop.row0) (u8s_one _) (by unfold maxLen; omega) (by omega) ?_
          intro v' w9 hownx hgx hfx
          obtain ⟨p3, c3, rfl⟩ := ownsRow_slice hownx
          have h9 := (h8).turn (q := rowA 5 1 (.slice p3 (4 + 4) c3) (4 + 4) ((u8s (d4 b.length)) ++ (u8s (d4 (sealN a 1 b))))) (fun hl h => h.grow hl hownx hgx hfx) L2
          refine hK _ _ (fun X => Fr X fb pb b.length cb) ((h9).rest.blk (by first | exact hFm | exact .tail _ hFm | exact .tail _ (.tail _ hFm) | exact .tail _ (.tail _ (.tail _ hFm)))) (fun _ h => h) ?_
          clear hK K
          (try simp only [Act.put, List.setIfInBounds_toArray, List.set_cons_succ, List.set_cons_zero])
          clear h8 hownx hgx hfx
          have h10 := dkH.pick (l := [_, _, _]) h9 [0, 2, 1] (by rfl)
          refine steps_want rfl (fun K hK => ?_)
          refine wp_append_new _ _ 36 rfl 5 i0 (.int .u8 0) 1 1 Try.underlying36 hi0 hz0 hz1 hz2 rfl (by decide) _ (4 + 4) ((u8s (d4 b.length) ++ u8s (d4 (sealN a 1 b)))) rfl (h10).rest.row0 (some ⟨w4.heap.size, 0, none⟩) 1 1 ([.int .u8 1]) rfl rfl (row_nil (h10).rest.drop.row0) (row_news (h10).rest.drop.row0) (oneC1 _ _) (by unfold maxLen; omega) (by omega) ?_
          intro v' w11 hownx hgx hfx
          obtain ⟨p4, c4, rfl⟩ := ownsRow_slice hownx
          have h11 := (h10).turn (q := rowA 5 1 (.slice p4 ((4 + 4) + 1) c4) ((4 + 4) + 1) ((u8s (d4 b.length) ++ u8s (d4 (sealN a 1 b))) ++ [.int .u8 1])) (fun hl h => h.grow hl hownx hgx hfx) L2
          refine hK _ _ (fun X => Fr X fb pb b.length cb) ((h11).rest.blk (by first | exact hFm | exact .tail _ hFm | exact .tail _ (.tail _ hFm) | exact .tail _ (.tail _ (.tail _ hFm)))) (fun _ h => h) ?_
          clear hK K
          (try simp only [Act.put, List.setIfInBounds_toArray, List.set_cons_succ, List.set_cons_zero])
          clear h10 hownx hgx hfx
          refine steps_quiet 1 (by kernel_rfl) ?_
          simp only [List.take_succ_cons, List.take_zero, List.drop_succ_cons, List.drop_zero]
          repeat (go_big_quiet_step (fail))
          refine wpQuiet_nil ?_
          refine steps_end ?_
          refine walkP_done ?_
          go_wp2_with fail
          go_meet
          refine ⟨p4, c4, rfl, ?_⟩
          have h12 := (dkH.pick (l := [_, _, _]) h11 [1, 2, 0] (by rfl)).drop.drop
          rw [hxe] at h12
          exact h12
      · have h4 : dkH w (World.alloc w2 (.cells #[.int .u8 1] 5)) d s _ := (h3).fresh LLl (ext_alloc w2 (.cells #[.int .u8 1] 5)) (World.ownsRow_lit (size := 1) w2 #[.int .u8 1] 1 (Nat.le_refl _) (by unfold maxLen; omega) rfl)
        refine steps_want rfl (fun K hK => ?_)
        go_simp
        refine hK _ _ (fun X => Fr X fb pb b.length cb) ((h4).rest.blk (by first | exact hFm | exact .tail _ hFm | exact .tail _ (.tail _ hFm) | exact .tail _ (.tail _ (.tail _ hFm)))) (fun _ h => h) ?_
        clear hK K
        (try simp only [Act.put, List.setIfInBounds_toArray, List.set_cons_succ, List.set_cons_zero])
        clear h3
        generalize World.alloc w2 (.cells #[.int .u8 1] 5) = w3 at *
        refine steps_end ?_
        refine walkP_seg ?_
        simp only [List.filterMap_cons, List.filterMap_nil, List.getElem?_cons_zero, List.getElem?_cons_succ]
        refine steps_want rfl (fun K hK => ?_)
        go_simp
        refine (digits_any _ b.length (by omega)).mono ?_
        rintro e w5 ⟨p1, c1, rfl, hEx, hrx⟩
        have h5 := (h4).fresh L1 hEx hrx
        refine hK _ _ (fun X => Fr X fb pb b.length cb) ((h5).rest.blk (by first | exact hFm | exact .tail _ hFm | exact .tail _ (.tail _ hFm) | exact .tail _ (.tail _ (.tail _ hFm)))) (fun _ h => h) ?_
        clear hK K
        (try simp only [Act.put, List.setIfInBounds_toArray, List.set_cons_succ, List.set_cons_zero])
        clear h4 hEx hrx
        refine steps_want rfl (fun K hK => ?_)
        go_simp
        refine (seal_any _ a 1 ha2 (by omega) pb cb b (by omega) (by first | exact hBL _ (h5).rest | exact hBL _ (h5).rest.drop | exact hBL _ (h5).rest.drop.drop)).mono ?_
        rintro e w6 ⟨rfl, hEx⟩
        have h6 := (h5).ext L2 hEx
        refine hK _ _ (fun X => Fr X fb pb b.length cb) ((h6).rest.blk (by first | exact hFm | exact .tail _ hFm | exact .tail _ (.tail _ hFm) | exact .tail _ (.tail _ (.tail _ hFm)))) (fun _ h => h) ?_
        clear hK K
        (try simp only [Act.put, List.setIfInBounds_toArray, List.set_cons_succ, List.set_cons_zero])
        clear h5 hEx
        refine steps_want rfl (fun K hK => ?_)
        go_simp
        refine (digits_any _ (sealN a 1 b) (sealN_lt _ _ _)).mono ?_
        rintro e w7 ⟨p2, c2, rfl, hEx, hrx⟩
        have h7 := (h6).fresh L2 hEx hrx
        refine hK _ _ (fun X => Fr X fb pb b.length cb) ((h7).rest.blk (by first | exact hFm | exact .tail _ hFm | exact .tail _ (.tail _ hFm) | exact .tail _ (.tail _ (.tail _ hFm)))) (fun _ h => h) ?_
        clear hK K
        (try simp only [Act.put, List.setIfInBounds_toArray, List.set_cons_succ, List.set_cons_zero])
        clear h6 hEx hrx
        have h8 := dkH.pick (l := [_, _, _]) h7 [1, 0, 2] (by rfl)
        refine steps_want rfl (fun K hK => ?_)
        refine wp_append_new _ _ 36 rfl 5 i0 (.int .u8 0) 1 1 Try.underlying36 hi0 hz0 hz1 hz2 rfl (by decide) _ 4 ((u8s (d4 b.length))) rfl (h8).rest.row0 p2 4 c2 ((u8s (d4 (sealN a 1 b)))) rfl rfl (row_nil (h8).rest.drop.row0) (row_news (h8).rest.drop.row0) (u8s_one _) (by unfold maxLen; omega) (by omega) ?_
        intro v' w9 hownx hgx hfx
        obtain ⟨p3, c3, rfl⟩ := ownsRow_slice hownx
        have h9 := (h8).turn (q := rowA 5 1 (.slice p3 (4 + 4) c3) (4 + 4) ((u8s (d4 b.length)) ++ (u8s (d4 (sealN a 1 b))))) (fun hl h => h.grow hl hownx hgx hfx) L2
        refine hK _ _ (fun X => Fr X fb pb b.length cb) ((h9).rest.blk (by first | exact hFm | exact .tail _ hFm | exact .tail _ (.tail _ hFm) | exact .tail _ (.tail _ (.tail _ hFm)))) (fun _ h => h) ?_
        clear hK K
        (try simp only [Act.put, List.setIfInBounds_toArray, List.set_cons_succ, List.set_cons_zero])
        clear h8 hownx hgx hfx
        have h10 := dkH.pick (l := [_, _, _]) h9 [0, 2, 1] (by rfl)
        refine steps_want rfl (fun K hK => ?_)
        refine wp_append_new _ _ 36 rfl 5 i0 (.int .u8 0) 1 1 Try.underlying36 hi0 hz0 hz1 hz2 rfl (by decide) _ (4 + 4) ((u8s (d4 b.length) ++ u8s (d4 (sealN a 1 b)))) rfl (h10).rest.row0 (some ⟨w2.heap.size, 0, none⟩) 1 1 ([.int .u8 1]) rfl rfl (row_nil (h10).rest.drop.row0) (row_news (h10).rest.drop.row0) (oneC1 _ _) (by unfold maxLen; omega) (by omega) ?_
        intro v' w11 hownx hgx hfx
        obtain ⟨p4, c4, rfl⟩ := ownsRow_slice hownx
        have h11 := (h10).turn (q := rowA 5 1 (.slice p4 ((4 + 4) + 1) c4) ((4 + 4) + 1) ((u8s (d4 b.length) ++ u8s (d4 (sealN a 1 b))) ++ [.int .u8 1])) (fun hl h => h.grow hl hownx hgx hfx) L2
        refine hK _ _ (fun X => Fr X fb pb b.length cb) ((h11).rest.blk (by first | exact hFm | exact .tail _ hFm | exact .tail _ (.tail _ hFm) | exact .tail _ (.tail _ (.tail _ hFm)))) (fun _ h => h) ?_
        clear hK K
        (try simp only [Act.put, List.setIfInBounds_toArray, List.set_cons_succ, List.set_cons_zero])
        clear h10 hownx hgx hfx
        refine steps_quiet 1 (by kernel_rfl) ?_
        simp only [List.take_succ_cons, List.take_zero, List.drop_succ_cons, List.drop_zero]
        repeat (go_big_quiet_step (fail))
        refine wpQuiet_nil ?_
        refine steps_end ?_
        refine walkP_done ?_
        go_wp2_with fail
        go_meet
        refine ⟨p4, c4, rfl, ?_⟩
        have h12 := (dkH.pick (l := [_, _, _]) h11 [1, 2, 0] (by rfl)).drop.drop
        rw [hxe] at h12
        exact h12
    case rest =>
      obtain ⟨ph, ch, rfl, h3⟩ := hcut
      rw [← HLL.out] at h3
      clear h2 hBL hFm LLl
      have LH : Locs (rowA 5 1 (.slice ph 9 ch) 9 (u8s (hdrB a b)) :: viewA pp cp (List.replicate pn 0) :: frA fb pb b.length cb :: rgL rg d T pr rc R ps) := .cons (rowA_loc _ _ _ _ _) (.cons (viewA_loc _ _ _) LF)
      go_upto_region 8 with fail
      have d1 : ∀ x : Of (fun X => Lg X lg d rg 0 tl wv false ∧ Fr X fb pb b.length cb), x.val.cell? ⟨lg, 1, none⟩ = some (.pointer (some ⟨rg, 0, none⟩)) := fun x => Blk.cell x.property.1 1
      have d2 : ∀ x : Of (fun X => Lg X lg d rg 0 tl wv false ∧ Fr X fb pb b.length cb), x.val.cell? ⟨lg, 2, none⟩ = some (.int .u64 0) := fun x => Blk.cell x.property.1 2
      have d3 : ∀ x : Of (fun X => Lg X lg d rg 0 tl wv false ∧ Fr X fb pb b.length cb), x.val.cell? ⟨fb, 1, none⟩ = some (.slice pb b.length cb) := fun x => Blk.cell x.property.2 1
      have hFd := (show Lg wc.drew lg d rg 0 tl wv false ∧ Fr wc.drew fb pb b.length cb from ⟨h3.rest.drop.drop.drop.drop.drop.blk hLm, h3.rest.drop.drop.blk0⟩)
      have hne_ : Nonempty (Of ((fun X => Lg X lg d rg 0 tl wv false ∧ Fr X fb pb b.length cb))) := ⟨⟨_, hFd⟩⟩
      refine region_steps [0,1,2,3,4,5,6,7,8,9,10,11,12,13,14,15,16] [true,true,true,true,true,true,true,true,true,true,true,true,true,false,false,true,true] ((fun X => Lg X lg d rg 0 tl wv false ∧ Fr X fb pb b.length cb)) (by kernel_rfl) (by kernel_rfl) hFd ?_
      simp only [List.filterMap_cons, List.filterMap_nil, List.getElem?_cons_zero, List.getElem?_cons_succ]
      have h4 := h3.ext LH (Ext.refl wc).drew
      refine steps_quiet 13 (by kernel_rfl) ?_
      simp only [List.take_succ_cons, List.take_zero, List.drop_succ_cons, List.drop_zero]
      repeat (go_big_quiet_step (fail))
      refine wpQuiet_nil ?_
      clear h3 d1 d2 d3
      generalize World.drew wc = w2 at *
      have h5 := h4.fresh LH (ext_alloc w2 (.cells #[.slice pp pn cp, .slice ph 9 ch, .slice pb b.length cb] 36)) (World.ownsRow_lit (size := 1) w2 #[.slice pp pn cp, .slice ph 9 ch, .slice pb b.length cb] 3 (Nat.le_refl _) (by unfold maxLen; omega) rfl)
      clear h4
      refine steps_want rfl (fun K hK => ?_)
      go_simp
      refine hK _ _ (fun X => Lg X lg d rg 0 tl wv false ∧ Fr X fb pb b.length cb) ⟨h5.rest.drop.drop.drop.drop.drop.drop.blk hLm, h5.rest.drop.drop.drop.blk0⟩ (fun _ h => h) ?_
      clear hK K
      (try simp only [Act.put, List.setIfInBounds_toArray, List.set_cons_succ, List.set_cons_zero])
      generalize World.alloc w2 (.cells #[.slice pp pn cp, .slice ph 9 ch, .slice pb b.length cb] 36) = w3 at *
      generalize w2.heap.size = gp at *
      have h6 : dkH w w3 d s (rgL rg d T pr rc R ([rowA 36 1 (.slice (some ⟨gp, 0, none⟩) 3 3) 3 [.slice pp pn cp, .slice ph 9 ch, .slice pb b.length cb], rowA 5 1 (.slice ph 9 ch) 9 (u8s (hdrB a b)), viewA pp cp (List.replicate pn 0), frA fb pb b.length cb] ++ ps)) := dkH.comm (a := [rowA 36 1 (.slice (some ⟨gp, 0, none⟩) 3 3) 3 [.slice pp pn cp, .slice ph 9 ch, .slice pb b.length cb], rowA 5 1 (.slice ph 9 ch) 9 (u8s (hdrB a b)), viewA pp cp (List.replicate pn 0), frA fb pb b.length cb]) (b := [ringA rg d T (.slice pr R.length rc), viewA pr rc R]) (c := ps) h5
      clear h5
      have hfl : [List.replicate pn (0 : UInt8), hdrB a b, b].flatten = frameB T b := by unfold frameB; rw [HPN.out, HA.out]; simp
      have hfll : (frameB T b).length = pn + (9 + b.length) := by rw [frameB_length, HPN.out]
      have LT : Locs ([rowA 36 1 (.slice (some ⟨gp, 0, none⟩) 3 3) 3 [.slice pp pn cp, .slice ph 9 ch, .slice pb b.length cb], rowA 5 1 (.slice ph 9 ch) 9 (u8s (hdrB a b)), viewA pp cp (List.replicate pn 0), frA fb pb b.length cb] ++ ps) := .cons (rowA_loc _ _ _ _ _) (.cons (rowA_loc _ _ _ _ _) (.cons (viewA_loc _ _ _) (.cons (frA_loc _ _ _ _) hl)))
      have hap := rappend_any h6 LT hn (by omega) HRT.out (some ⟨gp, 0, none⟩) 3 [List.replicate pn (0 : UInt8), hdrB a b, b] (fun X hX => by
        have hrow := hX.row0
        obtain ⟨F, hF⟩ := hX.drop.drop.head
        have hlt : gp < X.heap.size := (hrow.lt gp rfl).2
        exact parts_in [(pp, cp, List.replicate pn 0), (ph, ch, hdrB a b), (pb, cb, b)] hlt (fun i hi => by
          match i, hi with
          | 0, _ =>
            obtain ⟨g', hg', hc'⟩ := row_at hrow (i := 0) rfl
            injection hg' with hg'
            injection hg' with hg'
            rw [hg', hc']
            simp
          | 1, _ =>
            obtain ⟨g', hg', hc'⟩ := row_at hrow (i := 1) rfl
            injection hg' with hg'
            injection hg' with hg'
            rw [hg', hc']; rfl
          | 2, _ =>
            obtain ⟨g', hg', hc'⟩ := row_at hrow (i := 2) rfl
            injection hg' with hg'
            injection hg' with hg'
            rw [hg', hc']; rfl) (fun q hq => by
          simp only [List.mem_cons, List.not_mem_nil, or_false] at hq
          rcases hq with rfl | rfl | rfl
          · exact hF.1
          · exact View.of_row hX.drop.row0
          · exact hB X hX.drop.drop.drop.drop)) (by rw [hfl, hfll]; omega) (by rw [hfl, hfll]; omega) (by simp)
      rw [hfl] at hap
      refine steps_want rfl (fun K hK => ?_)
      go_simp
      refine hap.mono ?_
      clear hap
      rintro e w4 (⟨hbad, _⟩ | ⟨hgood, s', z, hch, rfl, hz1, hz0⟩)
      · omega
      · have hcl : Lg w4 lg d rg 0 tl wv false ∧ Fr w4 fb pb b.length cb := by
          by_cases hz : z = 0
          · obtain ⟨p', c', h7⟩ := hz0 hz
            exact ⟨h7.rest.drop.drop.drop.drop.drop.drop.blk hLm, h7.rest.drop.drop.drop.drop.drop.blk0⟩
          · have h7 := hz1 hz
            exact ⟨h7.rest.drop.drop.drop.drop.drop.drop.blk hLm, h7.rest.drop.drop.drop.drop.drop.blk0⟩
        refine hK _ _ (fun X => Lg X lg d rg 0 tl wv false ∧ Fr X fb pb b.length cb) hcl (fun _ h => h) ?_
        clear hK K
        (try simp only [Act.put, List.setIfInBounds_toArray, List.set_cons_succ, List.set_cons_zero])
        have HZ1 := Lib.hid hz1
        have HZ0 := Lib.hid hz0
        clear hz1 hz0
        refine steps_quiet 2 (by kernel_rfl) ?_
        simp only [List.take_succ_cons, List.take_zero, List.drop_succ_cons, List.drop_zero]
        repeat (go_big_quiet_step (fail))
        refine wpQuiet_nil ?_
        refine steps_nil ?_
        go_wp2_with fail
        go_ret2
        have drp : ∀ {s2 : DS} {T2 : Nat} {p2 : Option Addr} {c2 : Nat} {R2 : List UInt8}, dkH w w4 d s2 (rgL rg d T2 p2 c2 R2 ([rowA 36 1 (.slice (some ⟨gp, 0, none⟩) 3 3) 3 [.slice pp pn cp, .slice ph 9 ch, .slice pb b.length cb], rowA 5 1 (.slice ph 9 ch) 9 (u8s (hdrB a b)), viewA pp cp (List.replicate pn 0), frA fb pb b.length cb] ++ ps)) → dkH w w4 d s2 (rgL rg d T2 p2 c2 R2 ps) := fun {s2 T2 p2 c2 R2} h =>
          (dkH.comm (a := [ringA rg d T2 (.slice p2 R2.length c2), viewA p2 c2 R2]) (b := [rowA 36 1 (.slice (some ⟨gp, 0, none⟩) 3 3) 3 [.slice pp pn cp, .slice ph 9 ch, .slice pb b.length cb], rowA 5 1 (.slice ph 9 ch) 9 (u8s (hdrB a b)), viewA pp cp (List.replicate pn 0), frA fb pb b.length cb]) (c := ps) h).drop.drop.drop.drop
        refine ⟨s', z, a, hch, rfl, fun hz => drp (HZ1.out hz), fun hz => ?_⟩
        obtain ⟨p', c', h7⟩ := HZ0.out hz
        exact ⟨p', c', drp h7⟩
end Go.Proofs.Ythghflfgldcmbaa
