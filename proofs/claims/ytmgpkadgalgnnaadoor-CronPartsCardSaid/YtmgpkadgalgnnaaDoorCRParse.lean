/- cron: the document's Parse. -/
import Derived.Test.YtmgpkadgalgnnaaDoorCRPart
namespace Go.Proofs.YtmgpkadgalgnnaaDoor
set_option maxRecDepth 4000
set_option linter.unusedVariables false
set_option linter.unusedSimpArgs false
open Go Go.RowKit
theorem Has.call {w W W' : World} {p : Asr} {ps : List Asr} (h : Has w W ps) (hl : Locs ps) (h2 : Has W W' [p]) : Has w W' (p :: ps) := by
  have hE := h2.base
  obtain ⟨F, h3, h4, _⟩ := h2
  exact h.add hl hE h3 (fun k hk => (h4 k hk).1)
theorem Has.fourth {w W : World} {p q r s : Asr} {ps : List Asr} (h : Has w W (p :: q :: r :: s :: ps)) : Has w W (s :: p :: q :: r :: ps) := by
  have h1 : Has w W (p :: q :: s :: r :: ps) := h.perm (List.Perm.cons _ (List.Perm.cons _ (List.Perm.swap _ _ _)))
  exact h1.third
/-- a field: its numbers' slice, its numbers, its star -/
structure Fd where
  v : Value
  l : List Nat
  z : Bool
def flatF (fs : List Fd) : List Value := fs.flatMap fun f => [f.v, .bool f.z]
def nRows (fs : List Fd) : List Asr := fs.map fun f => nRow f.v f.l
theorem nRows_locs : ∀ fs, Locs (nRows fs)
  | [] => .nil
  | f :: fs => .cons (nRow_loc _ _) (nRows_locs fs)
theorem flatF_snoc (fs : List Fd) (f : Fd) : flatF (fs ++ [f]) = flatF fs ++ [f.v, .bool f.z] := by simp [flatF]
theorem flatF_len (fs : List Fd) : (flatF fs).length = fs.length * 2 := by
  induction fs with
  | nil => rfl
  | cons f fs ih => rw [flatF, List.flatMap_cons, List.length_append]; show 2 + (flatF fs).length = _; rw [ih]; simp; omega
theorem flatF_get (fs : List Fd) (k : Nat) (h : k < fs.length) : (flatF fs)[2 * k]? = some fs[k].v ∧ (flatF fs)[2 * k + 1]? = some (.bool fs[k].z) := by
  induction fs generalizing k with
  | nil => simp at h
  | cons f fs ih =>
    cases k with
    | zero => exact ⟨rfl, rfl⟩
    | succ k =>
      have := ih k (by simpa using h)
      rw [show 2 * (k + 1) = 2 * k + 1 + 1 by omega]
      exact this
def fd0 : Fd := ⟨undef, [], false⟩
def good (fs : List Fd) (q : List (List Prt)) (b : List Bool) : Prop :=
  fs.length = q.length ∧ b.length = q.length ∧ ∀ k, k < q.length → (fs.getD k fd0).z = b.getD k false ∧ ∀ n, n ∈ (fs.getD k fd0).l ↔ hasP (q.getD k []) n = true
theorem getD_l {α : Type} (l r : List α) (k : Nat) (d : α) (h : k < l.length) : (l ++ r).getD k d = l.getD k d := by
  rw [List.getD_eq_getElem?_getD, List.getD_eq_getElem?_getD, List.getElem?_append_left h]
theorem getD_r {α : Type} (l : List α) (a d : α) (k : Nat) (h : k = l.length) : (l ++ [a]).getD k d = a := by
  subst h
  rw [List.getD_eq_getElem?_getD, List.getElem?_append_right (Nat.le_refl _), Nat.sub_self]; rfl
theorem good_nil : good [] [] [] := ⟨rfl, rfl, fun k hk => by simp at hk⟩
theorem good_snoc {fs : List Fd} {q : List (List Prt)} {b : List Bool} {f : Fd} {p : List Prt} (h : good fs q b) (hm : ∀ n, n ∈ f.l ↔ hasP p n = true) : good (fs ++ [f]) (q ++ [p]) (b ++ [f.z]) := by
  obtain ⟨h1, h2, h3⟩ := h
  refine ⟨by simp [h1], by simp [h2], fun k hk => ?_⟩
  rw [List.length_append, List.length_singleton] at hk
  rcases Nat.lt_or_ge k q.length with h | h
  · rw [getD_l _ _ _ _ (by omega), getD_l _ _ _ _ (by omega), getD_l _ _ _ _ (by omega)]
    exact h3 k h
  · have e : k = q.length := by omega
    subst e
    rw [getD_r _ _ _ _ (by omega), getD_r _ _ _ _ (by omega), getD_r _ _ _ _ (by omega)]
    exact ⟨rfl, hm⟩
theorem fdInfo' : (Tryd.prog.info? 68).map (fun i => (i.zero, i.size, i.bytes)) = some (some (.agg #[.slice none 0 0, .bool false]), 2, 32) := by kernel_rfl
def IRel (w : World) (L H : Nat) (sub : List (List UInt8)) (vs : Value) (bf : Nat) (z : Bool) (R : List Asr) (vj : Value) (wr : World) : Prop :=
  ∃ (j : Nat) (q : List Prt) (l : List Nat) (vn : Value), vj = .int .i64 j ∧ j ≤ sub.length ∧ partsS L H (sub.take j) = .ok q ∧ (∀ n, n ∈ l ↔ hasP q n = true) ∧ l.length ≤ 60 * j ∧
    Has w wr (blkA bf 68 #[vn, .bool z] :: nRow vn l :: tRow vs sub :: R)
def ORel (w : World) (ps : List (List UInt8)) (v4 : Value) (v vi : Value) (wr : World) : Prop :=
  ∃ (i : Nat) (q : List (List Prt)) (fs : List Fd), vi = .int .i64 i ∧ i ≤ 5 ∧ fieldsS 0 (ps.take i) = .ok q ∧ good fs q (stars (ps.take i)) ∧
    Has w wr (rowA 68 2 v i (flatF fs) :: tRow v4 ps :: nRows fs)
/-- the numbers of a slice -/
def NumsR (W : World) (v : Value) (l : List Nat) : Prop := ∃ p c, v = .slice p l.length c ∧ l.length ≤ 9223372036854775807 ∧ ∀ i x, l[i]? = some x → ∃ g, p = some ⟨g, 0, none⟩ ∧ W.cell? ⟨g, i, none⟩ = some (nV x)
theorem NumsR.ext {W W' : World} {v : Value} {l : List Nat} (h : NumsR W v l) (hE : Ext W W') : NumsR W' v l := by
  obtain ⟨p, c, rfl, h3, h2⟩ := h
  refine ⟨p, c, rfl, h3, fun i x hx => ?_⟩
  obtain ⟨g, rfl, hc⟩ := h2 i x hx
  exact ⟨g, rfl, (hE.cell _ _ (World.block_lt_of_cell? W _ hc)).trans hc⟩
theorem NumsR.of {W : World} {v : Value} {l : List Nat} {b : Nat} (h : W.ownsRow b 3 1 v l.length (l.map nV)) : NumsR W v l := by
  have hl : l.length ≤ 9223372036854775807 := by
    have hm : Go.maxLen = 9223372036854775807 := by decide
    rcases h.2 with ⟨_, hn⟩ | ⟨_, _, _, _, _, _, h1, h2, _⟩
    · omega
    · omega
  obtain ⟨p, c, rfl⟩ := ownsRow_slice h
  refine ⟨p, c, rfl, hl, fun i x hx => ?_⟩
  exact row_at h (by rw [List.getElem?_map, hx]; rfl)
def FldsAt (W : World) (v : Value) (S : Sp) : Prop :=
  ∃ g c, v = .slice (some ⟨g, 0, none⟩) 5 c ∧ ∀ k, k < 5 → ∃ vn l, W.cell? ⟨g, 2 * k, none⟩ = some vn ∧ W.cell? ⟨g, 2 * k + 1, none⟩ = some (.bool (S.star k)) ∧ NumsR W vn l ∧ ∀ n, n ∈ l ↔ hasP (S.q.getD k []) n = true
theorem FldsAt.ext {W W' : World} {v : Value} {S : Sp} (h : FldsAt W v S) (hE : Ext W W') : FldsAt W' v S := by
  obtain ⟨g, c, rfl, h2⟩ := h
  refine ⟨g, c, rfl, fun k hk => ?_⟩
  obtain ⟨vn, l, h3, h4, h5, h6⟩ := h2 k hk
  exact ⟨vn, l, (hE.cell _ _ (World.block_lt_of_cell? W _ h3)).trans h3, (hE.cell _ _ (World.block_lt_of_cell? W _ h4)).trans h4, h5.ext hE, h6⟩
def RParseR (r : Except Int Sp) (w : World) (e : Ending) (w' : World) : Prop :=
  match r with
  | .error c => e = .returned (.tuple #[.slice none 0 0, .int .i64 c]) ∧ Ext w w'
  | .ok S => ∃ v, e = .returned (.tuple #[v, .int .i64 0]) ∧ Ext w w' ∧ FldsAt w' v S
theorem rows_mem {w W : World} {fs : List Fd} {ps : List Asr} (h : Has w W (ps ++ nRows fs)) (k : Nat) (hk : k < fs.length) : NumsR W fs[k].v fs[k].l := by
  have hm : nRow fs[k].v fs[k].l ∈ ps ++ nRows fs := by
    refine List.mem_append_right _ ?_
    unfold nRows
    exact List.mem_map.2 ⟨fs[k], List.getElem_mem hk, rfl⟩
  have hs : ∀ {qs : List Asr} {X : Nat → Prop}, Side w W qs X → ∀ {p : Asr}, p ∈ qs → ∃ F, p W F := by
    intro qs
    induction qs with
    | nil => intro _ _ _ hp; simp at hp
    | cons q qs ih =>
      intro X hX p hp
      obtain ⟨F, h1, _, h3⟩ := hX
      rcases List.mem_cons.1 hp with rfl | hp
      · exact ⟨F, h1⟩
      · exact ih h3 hp
  obtain ⟨F, hF⟩ := hs h hm
  exact NumsR.of hF.1
theorem flds_of {w W : World} {fs : List Fd} {q : List (List Prt)} {ps : List (List UInt8)} {v : Value} {R : List Asr} (h : Has w W (rowA 68 2 v 5 (flatF fs) :: R ++ nRows fs)) (hg : good fs q (stars ps)) (hq : q.length = 5) : FldsAt W v ⟨q, stars ps⟩ := by
  have hrow := Has.row0 (ps := R ++ nRows fs) h
  obtain ⟨h1, h2, h3⟩ := hg
  rcases hrow.2 with ⟨hv, hn⟩ | ⟨g, cap, cur, hv, _⟩
  · omega
  · have hc := hrow.cells (g := g) (by rw [hv]; rfl)
    have hat : ∀ j x, (flatF fs)[j]? = some x → W.cell? ⟨g, j, none⟩ = some x := fun j x hx => by
      have := hc j x hx
      rwa [Go.WideShapes.add_plain, Nat.zero_add] at this
    refine ⟨g, cap, hv, fun k hk => ?_⟩
    have hk2 : k < fs.length := by omega
    have hd : fs.getD k fd0 = fs[k] := by rw [List.getD_eq_getElem?_getD, List.getElem?_eq_getElem hk2]; rfl
    obtain ⟨e1, e2⟩ := h3 k (by omega)
    rw [hd] at e1 e2
    obtain ⟨c1, c2⟩ := flatF_get fs k hk2
    refine ⟨fs[k].v, fs[k].l, hat _ _ c1, ?_, rows_mem (ps := rowA 68 2 v 5 (flatF fs) :: R) h k hk2, e2⟩
    rw [hat _ _ c2, e1]
    rfl
theorem split_str (w : World) (x : List UInt8) (c : UInt8) (hs : x.length ≤ 1000) :
    Calls Tryd.prog 24 #[.string (strOf x), .int .u8 c.toNat] w fun e w' => ∃ v, e = .returned v ∧ Has w w' [tRow v (splitL c x)] := by
  have h := refsplit_any w (strOf x) c (by rw [strOf_size]; omega)
  rw [tl_strOf] at h
  exact h
theorem part_cl (w : World) (x : List UInt8) (k : Nat) (hk : k < 5) (hs : x.length ≤ 1000) :
    Calls Tryd.prog 25 #[.int .i64 k, .string (strOf x)] w fun e w' => RPartR (partS (lo k) (Go.Proofs.YtmgpkadgalgnnaaDoor.hi k) x) w e w' := by
  have h := refpart_any w (strOf x) k hk (by rw [strOf_size]; exact hs)
  rw [tl_strOf] at h
  exact h
set_option maxHeartbeats 1000000 in
theorem refparse_any (w : World) (x : List UInt8) (hs : x.length ≤ 1000) :
    Calls Tryd.prog 12 #[strV x] w fun e w' => RParseR (parseS x) w e w' := by
  obtain ⟨i0, hi0, hz0, hz1, hz2⟩ := info_parts intInfo'
  obtain ⟨f0, hf0, hy0, hy1, hy2⟩ := info_parts fdInfo'
  obtain ⟨R, hR⟩ : ∃ R, parseS x = R := ⟨_, rfl⟩
  rw [hR]
  unfold parseS at hR
  by_cases h1 : 128 < x.length
  · rw [if_pos h1] at hR
    subst hR
    have i1 : (128 : Int) < (strOf x).size := by rw [strOf_size]; omega
    go_enter Tryd.func12, Tryd.ntmps12
    rw [show strV x = .string (strOf x) from rfl]
    go_wp2_with fail
    go_ret2
    exact ⟨rfl, Ext.refl _⟩
  rw [if_neg h1] at hR
  have i1 : ¬ (128 : Int) < (strOf x).size := by rw [strOf_size]; omega
  have hsp := split_str w x 32 hs
  have hle := splitL_le 32 x
  generalize splitL 32 x = ps at *
  by_cases h2 : ps.length = 5
  · rw [if_neg (by omega)] at hR
    have HR := Lib.hid hR
    clear hR
    go_enter Tryd.func12, Tryd.ntmps12
    rw [show strV x = .string (strOf x) from rfl]
    go_wp2_with fail
    refine hsp.mono ?_
    rintro e w2 ⟨v, rfl, H2⟩
    clear hsp
    obtain ⟨p, c, rfl⟩ := ownsRow_slice H2.row0
    have hl5 : ((ps.length : Int) == 5) = true := by simp [h2]
    have H3 := H2.rowNil (.cons (tRow_loc _ _) .nil) 68 2
    rw [h2] at H3 ⊢
    go_wp2_with fail
    go_loopw [5, 6] (fun v vi wr => ORel w ps (.slice p 5 c) v vi wr) (fun _ vi _ => (6 - intOf vi).toNat)
    case atStart => exact ⟨0, [], [], rfl, by omega, rfl, good_nil, H3⟩
    case round =>
      clear H3 H2
      obtain ⟨i, q, fs, rfl, hi5, hq, hg, hH⟩ := hrel
      by_cases hlt : i < 5
      · have hin : i < ps.length := by omega
        obtain ⟨hbad, hok⟩ := fields_round hin hq
        have hrow := hH.swap.row0
        have hst : stars (ps.take (i + 1)) = stars (ps.take i) ++ [ps[i] == [42]] := by
          rw [List.take_succ_eq_append_getElem hin]; unfold stars; rw [List.map_append]; rfl
        obtain ⟨g, rfl, hc⟩ := row_at (n := 5) (h2 ▸ hrow) (show (ps.map strV)[i]? = some (.string (strOf ps[i])) by rw [List.getElem?_map, List.getElem?_eq_getElem hin]; rfl)
        have hx := hle _ (List.getElem_mem hin)
        generalize ps[i] = y at *
        have hz : ((strOf y).toList == [42]) = (y == [42]) := by rw [strOf_toList]
        have hsp := fun W => split_str W y 44 (by omega)
        have HB := Lib.hid hbad
        have HO := Lib.hid hok
        have HT := Lib.hid hst
        have HG := Lib.hid hg
        have i7 : (i : Int) < 5 := by omega
        clear hbad hok hst hrow hg hq
        have hgl : g < wr.heap.size := World.block_lt_of_cell? wr _ hc
        have LR : Locs (rowA 68 2 u5 i (flatF fs) :: tRow (.slice (some ⟨g, 0, none⟩) 5 c) ps :: nRows fs) := .cons (rowA_loc _ _ _ _ _) (.cons (tRow_loc _ _) (nRows_locs fs))
        generalize hRR : rowA 68 2 u5 i (flatF fs) :: tRow (.slice (some ⟨g, 0, none⟩) 5 c) ps :: nRows fs = RR at *
        have HRR := Lib.hid hRR
        clear hRR
        have H4 := ((hH.new LR 68 #[.slice none 0 0, .bool (y == [42])]).rowNil (.cons (blkA_loc _ _ _) LR) 3 1).swap
        go_wp2_with fail
        refine (hsp _).mono ?_
        rintro e w4 ⟨vs, rfl, hvs⟩
        clear hsp hc hH
        have H5 : Has w w4 (blkA wr.heap.size 68 #[.slice none 0 0, .bool (y == [42])] :: nRow (.slice none 0 0) [] :: tRow vs (splitL 44 y) :: RR) := (Has.call H4 (.cons (blkA_loc _ _ _) (.cons (rowA_loc _ _ _ _ _) LR)) hvs).third.third
        have hle2 := splitL_le 44 y
        have hll2 := splitL_len 44 y
        obtain ⟨pv, cv, rfl⟩ := ownsRow_slice hvs.row0
        clear hvs H4
        generalize wr.heap.size = bf at *
        generalize (y == [42]) = z at *
        have hfe : fieldS (lo i) (Go.Proofs.YtmgpkadgalgnnaaDoor.hi i) y = partsS (lo i) (Go.Proofs.YtmgpkadgalgnnaaDoor.hi i) (splitL 44 y) := rfl
        generalize splitL 44 y = sub at *
        have HF := Lib.hid hfe
        clear hfe
        go_wp2_with fail
        go_loopw [9] (fun vj wr => IRel w (lo i) (Go.Proofs.YtmgpkadgalgnnaaDoor.hi i) sub (.slice pv sub.length cv) bf z RR vj wr) (fun vj _ => ((sub.length : Int) + 1 - intOf vj).toNat)
        case atStart => exact ⟨0, [], [], _, rfl, by omega, rfl, fun n => by simp [hasP], by simp, H5⟩
        case round =>
          clear H5
          obtain ⟨j, q', l, vn, rfl, hj, hq', hm, hl60, hX⟩ := hrel
          have LX : Locs (blkA bf 68 #[vn, .bool z] :: nRow vn l :: tRow (.slice pv sub.length cv) sub :: RR) := .cons (blkA_loc _ _ _) (.cons (nRow_loc _ _) (.cons (tRow_loc _ _) LR))
          by_cases hlt2 : j < sub.length
          · obtain ⟨hbad2, hok2⟩ := parts_round hlt2 hq'
            obtain ⟨g2, rfl, hc2⟩ := row_at hX.third.row0 (show (sub.map strV)[j]? = some (.string (strOf sub[j])) by rw [List.getElem?_map, List.getElem?_eq_getElem hlt2]; rfl)
            have hx2 := hle2 _ (List.getElem_mem hlt2)
            generalize sub[j] = y2 at *
            have hp := fun W => part_cl W y2 i hlt (by omega)
            have i8 : (j : Int) < sub.length := by omega
            have HB2 := Lib.hid hbad2
            have HO2 := Lib.hid hok2
            clear hbad2 hok2 hq'
            go_wp2_with fail
            refine (hp _).mono ?_
            rintro e w5 hr
            clear hp hc2
            cases hpy : partS (lo i) (Go.Proofs.YtmgpkadgalgnnaaDoor.hi i) y2 with
            | error e' =>
              rw [hpy] at hr
              have e1 := HB.out e' (HF.out.trans (HB2.out e' hpy))
              have e2 := HR.out
              rw [e1] at e2
              subst e2
              obtain ⟨rfl, hE⟩ := hr
              rcases partS_err hpy with rfl | rfl
              · go_wp2_with fail
                go_ret2
                exact ⟨rfl, hX.base.trans hE⟩
              · go_wp2_with fail
                go_ret2
                exact ⟨rfl, hX.base.trans hE⟩
            | ok pp =>
              rw [hpy] at hr
              obtain ⟨v', rfl, hv'⟩ := hr
              have HQ := Lib.hid (HO2.out pp hpy)
              have hpo := partS_ok hpy
              obtain ⟨hk1, hk2, hk3⟩ := lohi i
              have hln := numsTo_len pp (pp.t + 1)
              have HM : Hid (∀ n, n ∈ l ++ numsTo pp (pp.t + 1) ↔ hasP (q' ++ [pp]) n = true) := Lib.hid fun n => by
                rw [List.mem_append, hm, numsTo_mem (by omega), hasP_snoc, Bool.or_eq_true]
              have X1 := Has.call hX LX hv'
              generalize numsTo pp (pp.t + 1) = lp at *
              have hrow' := hv'.row0
              obtain ⟨p3, c3, rfl⟩ := ownsRow_slice hrow'
              clear hX hv' hm
              have hb5 := X1.swap.blk0
              have k0 : w5.cell? ⟨bf, 0, none⟩ = some vn := cell_of_row _ _ 0 _ _ _ hb5
              have hown := X1.third.row0
              have LY : Locs (nRow (.slice p3 lp.length c3) lp :: blkA bf 68 #[vn, .bool z] :: tRow (.slice (some ⟨g2, 0, none⟩) sub.length cv) sub :: RR) := .cons (nRow_loc _ _) (.cons (blkA_loc _ _ _) (.cons (tRow_loc _ _) LR))
              have X2 := X1.third
              have hu1 : ∀ u ∈ lp.map nV, u.oneCell' = true := by
                intro u hu
                obtain ⟨n, _, rfl⟩ := List.mem_map.1 hu
                rfl
              clear X1 hb5
              go_wp2_with (at_builtin; refine wpList_append_new rfl _ _ 66 rfl 3 i0 (.int .i64 0) 1 8 Tryd.underlying66 hi0 hz0 hz1 hz2 rfl (by decide) _ _ _ rfl hown p3 lp.length c3 (lp.map nV) rfl (by rw [List.length_map, Nat.mul_one]) (row_nil hrow') (row_news hrow') hu1 (by unfold maxLen; omega) (by omega) ?_)
              intro v3 w6 hown3 hg3 hf3
              obtain ⟨p6, c6, rfl⟩ := ownsRow_slice hown3
              have X3 : Has w w6 (rowA 3 1 (.slice p6 (l.length + lp.length) c6) (l.length + lp.length) (l.map nV ++ lp.map nV) :: nRow (.slice p3 lp.length c3) lp :: blkA bf 68 #[vn, .bool z] :: tRow (.slice (some ⟨g2, 0, none⟩) sub.length cv) sub :: RR) := Has.grow X2 LY hown3 hg3 hf3
              rw [← List.map_append] at X3
              have X4 := X3.swap.drop.swap
              have hb6 := X4.blk0
              have k6 : w6.cell? ⟨bf, 0, none⟩ = some vn := cell_of_row _ _ 0 _ _ _ hb6
              have f6 := hb6.frozen 0
              have X5 := X4.set (.cons (rowA_loc _ _ _ _ _) (.cons (tRow_loc _ _) LR)) 0 (.slice p6 (l.length + lp.length) c6)
              clear hown hown3 hg3 hf3 X2 X3 X4 hb6 hu1 hrow' k0
              go_wp2_with fail
              exact ⟨⟨j + 1, q' ++ [pp], l ++ lp, .slice p6 (l.length + lp.length) c6, by go_num, by omega, HQ.out, HM.out, by rw [List.length_append]; omega, by unfold nRow; rw [List.length_append]; exact X5⟩, by simp [intOf]; omega⟩
          · have hj' : j = sub.length := by omega
            subst hj'
            rw [take_len] at hq'
            have hfs := HO.out q' (HF.out.trans hq')
            obtain ⟨pn, cn, rfl⟩ := ownsRow_slice hX.swap.row0
            rw [← HRR.out] at hX
            have X1 := hX.fourth
            have hb := X1.swap.blk0
            have k0 : wr.cell? ⟨bf, 0, none⟩ = some (.slice pn l.length cn) := cell_of_row _ _ 0 _ _ _ hb
            have k1 : wr.cell? ⟨bf, 1, none⟩ = some (.bool z) := cell_of_row _ _ 1 _ _ _ hb
            have hbl : bf < wr.heap.size := hb.lt
            have LZ : Locs (blkA bf 68 #[.slice pn l.length cn, .bool z] :: nRow (.slice pn l.length cn) l :: tRow (.slice pv sub.length cv) sub :: tRow (.slice (some ⟨g, 0, none⟩) 5 c) ps :: nRows fs) := .cons (blkA_loc _ _ _) (.cons (nRow_loc _ _) (.cons (tRow_loc _ _) (.cons (tRow_loc _ _) (nRows_locs fs))))
            have hown1 := ownsRow_ext X1.row0 (ext_alloc wr (.cells #[.slice pn l.length cn, .bool z] 68))
            have hX1 := X1.ext (.cons (rowA_loc _ _ _ _ _) LZ) (ext_alloc wr (.cells #[.slice pn l.length cn, .bool z] 68))
            have hnews := news_new wr [.slice pn l.length cn, .bool z] 68
            have hu1 : ∀ u ∈ [Value.slice pn l.length cn, .bool z], u.oneCell' = true := by
              intro u hu
              simp at hu
              rcases hu with rfl | rfl <;> rfl
            have HGN : Hid (good (fs ++ [⟨.slice pn l.length cn, l, z⟩]) (q ++ [q']) (stars (ps.take (i + 1)))) := Lib.hid (by
              rw [HT.out]; exact good_snoc HG.out hm)
            clear hX X1 hb hm LX
            go_wp2_with (at_builtin; refine wpList_append_new rfl _ _ 28 rfl 68 f0 (.agg #[.slice none 0 0, .bool false]) 2 32 Tryd.underlying28 hf0 hy0 hy1 hy2 rfl (by decide) _ _ _ rfl hown1 _ 1 1 [.slice pn l.length cn, .bool z] rfl rfl (fun h => by cases h) hnews hu1 (by unfold maxLen; omega) (by omega) ?_)
            intro v3 w6 hown3 hg3 hf3
            have X3 := Has.grow hX1 LZ hown3 hg3 hf3
            have X4 : Has w w6 (rowA 68 2 v3 (i + 1) (flatF (fs ++ [⟨.slice pn l.length cn, l, z⟩])) :: tRow (.slice (some ⟨g, 0, none⟩) 5 c) ps :: nRows (fs ++ [⟨.slice pn l.length cn, l, z⟩])) := by
              rw [flatF_snoc]
              refine Has.perm ?_ X3.swap.drop.third.drop
              refine List.Perm.cons _ ((List.Perm.swap _ _ _).trans (List.Perm.cons _ ?_))
              unfold nRows
              rw [List.map_append]
              exact (List.perm_append_singleton _ _).symm
            clear hown1 hown3 hg3 hf3 X3 hX1 hnews hu1 k0 k1
            have HFS := Lib.hid hfs
            clear hfs hq'
            go_wp2_with fail
            exact ⟨⟨i + 1, q ++ [q'], fs ++ [⟨.slice pn l.length cn, l, z⟩], by go_num, by omega, HFS.out, HGN.out, X4⟩, by simp [intOf]; omega⟩
      · have hi' : i = 5 := by omega
        subst hi'
        rw [List.take_of_length_le (by omega)] at hq hg
        have hql := fieldsS_len hq
        have e := HR.out
        rw [hq] at e
        simp only [] at e
        subst e
        go_wp2_with fail
        go_ret2
        exact ⟨_, rfl, hH.base, flds_of (R := [_]) hH hg (by omega)⟩
  · rw [if_pos h2] at hR
    subst hR
    have hl5 : ((ps.length : Int) == 5) = false := by rw [beq_eq_false_iff_ne]; omega
    go_enter Tryd.func12, Tryd.ntmps12
    rw [show strV x = .string (strOf x) from rfl]
    go_wp2_with fail
    refine hsp.mono ?_
    rintro e w2 ⟨v, rfl, H2⟩
    clear hsp
    obtain ⟨p, c, rfl⟩ := ownsRow_slice H2.row0
    go_wp2_with fail
    go_ret2
    exact ⟨rfl, H2.base⟩
end Go.Proofs.YtmgpkadgalgnnaaDoor
