/- Add: what it makes of a hash. -/
import Derived.Test.YtkkhcpknldlpoaaSHash
namespace Go.Proofs.Ytkkhcpknldlpoaa
set_option maxRecDepth 4000
set_option linter.unusedVariables false
set_option linter.unusedSimpArgs false
open Go Go.RowKit
/-- slices of bytes, in a slice, that can be read and are no part of F -/
def PartsAt (F : Nat → Prop) (w : World) (p : Option Addr) (ps : List (List UInt8)) : Prop :=
  ∀ i (h : i < ps.length), ∃ b o, p = some ⟨b, o, none⟩ ∧ b < w.heap.size ∧ ¬ F b ∧ ∃ q c, w.cell? ⟨b, o + i, none⟩ = some (.slice q ps[i].length c) ∧ NumsAt .u8 w q (byI ps[i]) ∧ (0 < ps[i].length → ∀ a, q = some a → ¬ F a.block) ∧ (q = none → ps[i].length = 0 ∧ c = 0) ∧ ps[i].length ≤ c ∧ c ≤ maxLen
theorem NumsAt.tch {k : IntKind} {F : Nat → Prop} {w w' : World} {p : Option Addr} {zs : List Int} (h : NumsAt k w p zs) (ht : Tch F w w') (hf : 0 < zs.length → ∀ a, p = some a → ¬ F a.block) : NumsAt k w' p zs := by
  intro i hi
  obtain ⟨a, rfl, hal, hac⟩ := h i hi
  have hab : (a.add i).block = a.block := by unfold Addr.add; first | rfl | (split <;> rfl)
  exact ⟨a, rfl, Nat.lt_of_lt_of_le hal ht.size, (World.cell?_of_block (w := w) (a := a.add i) (by rw [hab]; exact ht.block _ hal (hf (by omega) a rfl))).trans hac⟩
theorem PartsAt.get {F : Nat → Prop} {w w' : World} {p : Option Addr} {ps : List (List UInt8)} (h : PartsAt F w p ps) (ht : Tch F w w') (i : Nat) (hi : i < ps.length) :
    ∃ b o, p = some ⟨b, o, none⟩ ∧ ∃ q c, w'.cell? ⟨b, o + i, none⟩ = some (.slice q ps[i].length c) ∧ (∀ w2, Tch F w w2 → NumsAt .u8 w2 q (byI ps[i])) ∧ (q = none → ps[i].length = 0 ∧ c = 0) ∧ ps[i].length ≤ c ∧ c ≤ maxLen := by
  obtain ⟨b, o, h1, h2, h3, q, c, h4, h5, h6, h7, h8, h9⟩ := h i hi
  exact ⟨b, o, h1, q, c, (ht.cell h4 h2 h3), fun w2 h2 => h5.tch h2 (by rw [byI_length]; exact h6), h7, h8, h9⟩
theorem wp_store_hst {op : Oper} {a : Act} {K : Act → World → Prop} {Q : Exit → Act → World → Prop} {F : Nat → Prop} {W wr : World} {q n : Nat} {v : Value} {s t : St} {any : Bool} {rest : List UInt8} (h : HSt F W wr q v s any rest n) (x y : Operand) (ho : op.op = .store 137 x y)
    (hx : a.eval x = .pointer (some ⟨q, 0, none⟩)) (hy : a.eval y = stV t) (hk : ∀ w2, HSt F W w2 q v t any rest n → K (a.put op.dst undef) w2) : op.wp Try.prog a wr K Q :=
  wp_store_mid _ _ _ ho q 0 (u32s t.list).toArray hx hy h.there (stSize rfl) (u32s_one _) (hk _ (h.state t))
def AddRel (F : Nat → Prop) (W : World) (q : Nat) (h : HS) (ps : List (List UInt8)) (k : Value) (wr : World) : Prop :=
  ∃ (i : Nat) (v : Value) (g : HS), i ≤ ps.length ∧ k = .int .i64 i ∧ (ps.take i).foldl HS.push h = g ∧ g.rest.length < 64 ∧ g.n < 18446744073709551616 ∧ g.any = true ∧ HSt F W wr q v g.s true g.rest g.n
def restLen (q : Nat) (w : World) : Nat := match w.cell? ⟨q, 9, none⟩ with
  | some (.slice _ n _) => n
  | _ => 0
def EatRel (F : Nat → Prop) (W : World) (q n : Nat) (t : St × List UInt8) (wr : World) : Prop :=
  ∃ (v : Value) (s : St) (rest : List UInt8), eat s rest = t ∧ rest.length ≤ 70368744177728 ∧ HSt F W wr q v s true rest n
theorem row_big {w : World} {p : Option Addr} {c : Nat} {l : List UInt8} (h : w.ownsRow 0 5 1 (.slice p l.length c) l.length (u8s l)) (hl : 0 < l.length) :
    ∃ g, p = some ⟨g, 0, none⟩ ∧ l.length ≤ c ∧ ∀ i, i < l.length → w.cell? ⟨g, i, none⟩ = some (.int .u8 ((l.getD i 0).toNat : Int)) := by
  have hc := row_news h
  rcases h.2 with ⟨h1, h2⟩ | ⟨g, cap, cur, heq, h1, h2, h3, h4, h5⟩
  · simp at h1; omega
  · injection heq with e1 e2 e3
    subst e1
    refine ⟨g, rfl, by omega, fun i hi => ?_⟩
    have := hc _ rfl i _ (u8s_get l i hi)
    rwa [Go.WideShapes.add_plain, Nat.zero_add] at this
theorem u8Info' : (Try.prog.info? 5).map (fun i => (i.zero, i.size, i.bytes)) = some (some (.int .u8 0), 1, 1) := by kernel_rfl
set_option maxRecDepth 100000 in
set_option maxHeartbeats 4000000 in
theorem add_any {W : World} {q : Nat} {h : HS} {F : Nat → Prop} (hh : hA q h W F) (p : Option Addr) (c : Nat) (ps : List (List UInt8)) (hp : PartsAt F W p ps) (hl : ps.length ≤ maxLen) (hsm : ∀ x ∈ ps, x.length ≤ 70368744177664) :
    Calls Try.prog 78 #[.pointer (some ⟨q, 0, none⟩), .slice p ps.length c] W fun e W' => e = .returned (.tuple #[]) ∧ Next F W W' (hA q (h.addAll ps)) := by
  obtain ⟨i0, hi0, hz0, hz1, hz2⟩ := info_parts u8Info'
  obtain ⟨v, hS, hr64, hn64⟩ := HSt.of hh
  clear hh
  have c8 : W.cell? ⟨q, 8, none⟩ = some (.bool h.any) := hS.blk.cell 8
  go_enter Try.func78, Try.ntmps78
  refine wp_seq_k fun K hK => ?_
  go_cut [] (fun wx => HSt F W wx q v h.start.s true h.start.rest h.start.n ∧ h.start.rest.length < 64 ∧ h.start.n < 18446744073709551616)
  case first =>
    by_cases ha : h.any = true
    · have hst : h.start = h := by unfold HS.start; rw [if_pos ha]
      rw [ha] at c8 hS
      go_wp2_with fail
      go_meet
      rw [hst]
      exact ⟨hS, hr64, hn64⟩
    · have ha' : h.any = false := by simpa using ha
      have hst : h.start = ⟨St.begin, true, h.rest, h.n⟩ := by unfold HS.start; rw [if_neg ha]
      have hbg := begin_any W
      generalize St.begin = B0 at hbg hst
      rw [ha'] at c8 hS
      go_wp2_with fail
      refine hbg.mono ?_
      rintro e w1 ⟨rfl, hE1⟩
      have hS1 := hS.ext hE1
      clear hS c8 hE1 hbg
      go_wp2_with (refine wpList_store_hst hS1 rfl _ _ rfl rfl rfl ?_)
      intro w2 hS2
      clear hS1
      obtain ⟨e8, f8⟩ := hS2.c8
      have hS3 := hS2.cell (t := B0) (a := true) (m := h.n) (i := 8) (u := .bool true) rfl
      go_wp2_with fail
      go_meet
      rw [hst]
      exact ⟨hS3, hr64, hn64⟩
  case rest =>
    clear hS c8 hr64 hn64
    obtain ⟨hS, hr64, hn64⟩ := hcut
    have hadd : h.addAll ps = ps.foldl HS.push h.start := rfl
    have HA := Lib.hid hadd
    clear hadd
    have hany : h.start.any = true := by unfold HS.start; split <;> first | assumption | rfl
    generalize h.start = g0 at *
    have hpl : (ps.length : Int) ≤ 9223372036854775807 := by unfold maxLen at hl; omega
    clear hl
    go_wp2_with fail
    go_loopw [20] (fun k wr => AddRel F W q g0 ps k wr) (fun k _ => ((ps.length : Int) + 1 - intOf k).toNat)
    case atStart => exact ⟨0, v, g0, by omega, rfl, rfl, hr64, hn64, hany, hS⟩
    case round =>
      clear hS hr64 hn64 hany
      obtain ⟨i, v, g, hi, rfl, hfold, hr64, hn64, hga, hS⟩ := hrel
      by_cases gi : (i : Int) < ps.length
      · obtain ⟨b, o, rfl, qq, cq, hc, hN, hn, hc1, hc2⟩ := hp.get hS.tch i (by omega)
        have hxs := hsm _ (List.getElem_mem (show i < ps.length by omega))
        have hsucc : (ps.take (i + 1)).foldl HS.push g0 = g.push (ps[i]'(by omega)) := by
          rw [List.take_succ_eq_append_getElem (by omega), List.foldl_append, hfold]; rfl
        have HX := Lib.hid hsucc
        clear hsucc hfold
        generalize ps[i]'(by omega) = x at *
        obtain ⟨pv, cv, rfl⟩ := ownsRow_slice hS.own
        obtain ⟨c10, f10⟩ := hS.c10
        have hxi : (x.length : Int) ≤ 70368744177664 := by omega
        have hsum : IntKind.u64.wrap ((g.n : Int) + (x.length : Int)) = (((g.n + x.length) % 18446744073709551616 : Nat) : Int) := by rw [IntKind.wrap_u64]; omega
        have hS2 := hS.cell (t := g.s) (a := true) (m := (g.n + x.length) % 18446744073709551616) (i := 10) (u := .int .u64 (((g.n + x.length) % 18446744073709551616 : Nat) : Int)) rfl
        generalize hm : (g.n + x.length) % 18446744073709551616 = m at *
        have hb1 : g.rest.length + x.length ≤ maxLen := by unfold maxLen; omega
        have hb2 : (g.rest.length + x.length) * 1 ≤ 140737488355328 := by omega
        obtain ⟨e9, f9⟩ := hS2.c9
        go_upto_region 6 with fail
        clear hS c10 f10
        generalize World.setCell wr _ _ = w1 at *
        have hown := hS2.own
        have hN1 := hN w1 hS2.tch
        clear hN
        go_wp2_with (at_builtin; refine wpList_append_new rfl _ _ 30 rfl 5 i0 (.int .u8 0) 1 1 Try.underlying30 hi0 hz0 hz1 hz2 rfl (by decide) _ _ _ rfl hown qq x.length cq (u8s x) rfl (u8s_length x ▸ (Nat.mul_one _).symm) hn (news_at hN1) (u8s_one x) hb1 hb2 ?_)
        intro v3 w3 hown3 hg3 hf3
        obtain ⟨pv3, cv3, rfl⟩ := ownsRow_slice hown3
        have hS3 := hS2.row (rest' := g.rest ++ x) (by rw [List.length_append, u8s_append]; exact hown3) hg3 hf3
        have hb3 := hS2.grow hg3
        have d9 : w3.cell? ⟨q, 9, none⟩ = some (.slice pv g.rest.length cv) := hb3.cell 9
        have df9 := hb3.frozen 9
        clear hS2 hown hown3 hg3 hf3 hb3 e9 f9 hN1
        go_upto_block 2 with fail
        generalize World.setCell w3 _ _ = w4 at *
        clear d9 df9
        go_wp2_with fail
        go_loopw [] (fun wr => EatRel F W q m (eat g.s (g.rest ++ x)) wr) (fun wr => restLen q wr)
        case atStart => exact ⟨_, g.s, g.rest ++ x, rfl, by rw [List.length_append]; omega, hS3⟩
        case round =>
          clear hS3
          obtain ⟨v5, s5, r5, heat, hr5, hS5⟩ := hrel
          obtain ⟨c9, f9⟩ := hS5.c9
          obtain ⟨pv5, cv5, rfl⟩ := ownsRow_slice hS5.own
          have HRL := Lib.hid (show restLen q wr = r5.length by unfold restLen; rw [c9])
          by_cases gl : (64 : Int) ≤ r5.length
          · obtain ⟨gb, rfl, hcap, hcells⟩ := row_big hS5.own (by omega)
            have hcv : ∀ n, (convert 30 9 (.slice (some ⟨gb, 0, none⟩) 64 cv5)).run Try.prog (wr.drewN n) = .ok (.string (strOf (r5.take 64))) (wr.drewN n) := fun n => by
              have := conv_str Try.underlying30 Try.underlying5 Try.underlying9 (wr.drewN n) gb 0 cv5 (r5.take 64) (fun i hi => by
                rw [List.length_take] at hi
                have := hcells i (by omega)
                rw [Nat.zero_add, List.getD_eq_getElem?_getD, List.getElem?_take, if_pos (by omega), ← List.getD_eq_getElem?_getD]
                exact this)
              rwa [List.length_take, Nat.min_eq_left (by omega)] at this
            have k0 : wr.cell? ⟨q, 0, none⟩ = some (.int .u32 (wv s5.a)) := hS5.blk.cell 0
            have k1 : wr.cell? ⟨q, 1, none⟩ = some (.int .u32 (wv s5.b)) := hS5.blk.cell 1
            have k2 : wr.cell? ⟨q, 2, none⟩ = some (.int .u32 (wv s5.c)) := hS5.blk.cell 2
            have k3 : wr.cell? ⟨q, 3, none⟩ = some (.int .u32 (wv s5.d)) := hS5.blk.cell 3
            have k4 : wr.cell? ⟨q, 4, none⟩ = some (.int .u32 (wv s5.e)) := hS5.blk.cell 4
            have k5 : wr.cell? ⟨q, 5, none⟩ = some (.int .u32 (wv s5.f)) := hS5.blk.cell 5
            have k6 : wr.cell? ⟨q, 6, none⟩ = some (.int .u32 (wv s5.g)) := hS5.blk.cell 6
            have k7 : wr.cell? ⟨q, 7, none⟩ = some (.int .u32 (wv s5.h)) := hS5.blk.cell 7
            go_upto_region 8 with fail
            go_cut [] (fun wx => HSt F W wx q (.slice (some ⟨gb, 0, none⟩) r5.length cv5) (s5.block (r5.take 64)) true r5 m)
            case first =>
              have hS5' := hS5.ext (Ext.refl wr).drew
              have hcv' : (convert 30 9 (.slice (some ⟨gb, 0, none⟩) 64 cv5)).run Try.prog wr.drew = .ok (.string (strOf (r5.take 64))) wr.drew := hcv 1
              have j0 : wr.drew.cell? ⟨q, 0, none⟩ = some (.int .u32 (wv s5.a)) := k0
              have j1 : wr.drew.cell? ⟨q, 1, none⟩ = some (.int .u32 (wv s5.b)) := k1
              have j2 : wr.drew.cell? ⟨q, 2, none⟩ = some (.int .u32 (wv s5.c)) := k2
              have j3 : wr.drew.cell? ⟨q, 3, none⟩ = some (.int .u32 (wv s5.d)) := k3
              have j4 : wr.drew.cell? ⟨q, 4, none⟩ = some (.int .u32 (wv s5.e)) := k4
              have j5 : wr.drew.cell? ⟨q, 5, none⟩ = some (.int .u32 (wv s5.f)) := k5
              have j6 : wr.drew.cell? ⟨q, 6, none⟩ = some (.int .u32 (wv s5.g)) := k6
              have j7 : wr.drew.cell? ⟨q, 7, none⟩ = some (.int .u32 (wv s5.h)) := k7
              have j9 : wr.drew.cell? ⟨q, 9, none⟩ = some (.slice (some ⟨gb, 0, none⟩) r5.length cv5) := c9
              clear hS5 k0 k1 k2 k3 k4 k5 k6 k7 c9 hcv
              have hS5 := hS5'
              clear hS5'
              have hne_ : Nonempty (Of (fun _ : World => True)) := trueOf_ne (W := wr)
              refine region_plan (.seg [0,1,2,3,5,6,7] [true,true,true,true,true,true,true] (.fork 4 (.seg [8,9,10,11,12,13,14] [false,true,false,false,true,true,false] .done) 8 (.seg [9] [true] (.fork 4 (.seg [10,11,12,13,14] [false,false,true,true,false] .done) 10 (.seg [4,11,12,13,14] [false,false,true,true,false] .done))))) (fun _ : World => True) (by kernel_rfl) (by kernel_rfl) trivial ?_
              generalize World.drew wr = w5 at *
              refine walkP_seg ?_
              simp only [List.filterMap_cons, List.filterMap_nil, List.getElem?_cons_zero, List.getElem?_cons_succ]
              refine steps_quiet 7 (by kernel_rfl) ?_
              simp only [List.take_succ_cons, List.take_zero, List.drop_succ_cons, List.drop_zero]
              repeat (go_big_quiet_step (fail))
              refine wpQuiet_nil ?_
              refine steps_end ?_
              refine walkP_fork ?_ ?_
              all_goals simp only [List.filterMap_cons, List.filterMap_nil, List.getElem?_cons_zero, List.getElem?_cons_succ]
              · refine steps_want rfl (fun K hK => ?_)
                go_simp
                refine hK _ _ (fun _ => True) trivial (fun _ _ => trivial) ?_
                clear hK K
                refine steps_end ?_
                refine walkP_seg ?_
                simp only [List.filterMap_cons, List.filterMap_nil, List.getElem?_cons_zero, List.getElem?_cons_succ]
                refine steps_want rfl (fun K hK => ?_)
                go_simp
                refine hK _ _ (fun _ => True) trivial (fun _ _ => trivial) ?_
                clear hK K
                refine steps_quiet 1 (by kernel_rfl) ?_
                simp only [List.take_succ_cons, List.take_zero, List.drop_succ_cons, List.drop_zero]
                repeat (go_big_quiet_step (fail))
                refine wpQuiet_nil ?_
                refine steps_want rfl (fun K hK => ?_)
                go_simp
                refine hK _ _ (fun _ => True) trivial (fun _ _ => trivial) ?_
                clear hK K
                refine steps_want rfl (fun K hK => ?_)
                go_simp
                refine (block_any s5 (r5.take 64) (by rw [List.length_take]; omega) _).mono ?_
                rintro e w6 ⟨rfl, hE6⟩
                have hS6 := hS5.ext hE6
                refine hK _ _ (fun _ => True) trivial (fun _ _ => trivial) ?_
                clear hK K
                refine steps_quiet 2 (by kernel_rfl) ?_
                simp only [List.take_succ_cons, List.take_zero, List.drop_succ_cons, List.drop_zero]
                repeat (go_big_quiet_step (fail))
                refine wpQuiet_nil ?_
                refine steps_want rfl (fun K hK => ?_)
                refine wp_store_hst hS6 _ _ rfl rfl rfl (fun w7 hS7 => ?_)
                refine hK _ _ (fun _ => True) trivial (fun _ _ => trivial) ?_
                clear hK K
                refine steps_end ?_
                refine walkP_done ?_
                simp only [Act.put]
                go_wp2_with fail
                go_meet
                exact hS7
              · refine steps_want rfl (fun K hK => ?_)
                go_simp
                refine hK _ _ (fun _ => True) trivial (fun _ _ => trivial) ?_
                clear hK K
                refine steps_end ?_
                refine walkP_seg ?_
                simp only [List.filterMap_cons, List.filterMap_nil, List.getElem?_cons_zero, List.getElem?_cons_succ]
                refine steps_quiet 1 (by kernel_rfl) ?_
                simp only [List.take_succ_cons, List.take_zero, List.drop_succ_cons, List.drop_zero]
                repeat (go_big_quiet_step (fail))
                refine wpQuiet_nil ?_
                refine steps_end ?_
                refine walkP_fork ?_ ?_
                all_goals simp only [List.filterMap_cons, List.filterMap_nil, List.getElem?_cons_zero, List.getElem?_cons_succ]
                · refine steps_want rfl (fun K hK => ?_)
                  go_simp
                  refine hK _ _ (fun _ => True) trivial (fun _ _ => trivial) ?_
                  clear hK K
                  refine steps_end ?_
                  refine walkP_seg ?_
                  simp only [List.filterMap_cons, List.filterMap_nil, List.getElem?_cons_zero, List.getElem?_cons_succ]
                  refine steps_want rfl (fun K hK => ?_)
                  go_simp
                  refine hK _ _ (fun _ => True) trivial (fun _ _ => trivial) ?_
                  clear hK K
                  refine steps_want rfl (fun K hK => ?_)
                  go_simp
                  refine (block_any s5 (r5.take 64) (by rw [List.length_take]; omega) _).mono ?_
                  rintro e w6 ⟨rfl, hE6⟩
                  have hS6 := hS5.ext hE6
                  refine hK _ _ (fun _ => True) trivial (fun _ _ => trivial) ?_
                  clear hK K
                  refine steps_quiet 2 (by kernel_rfl) ?_
                  simp only [List.take_succ_cons, List.take_zero, List.drop_succ_cons, List.drop_zero]
                  repeat (go_big_quiet_step (fail))
                  refine wpQuiet_nil ?_
                  refine steps_want rfl (fun K hK => ?_)
                  refine wp_store_hst hS6 _ _ rfl rfl rfl (fun w7 hS7 => ?_)
                  refine hK _ _ (fun _ => True) trivial (fun _ _ => trivial) ?_
                  clear hK K
                  refine steps_end ?_
                  refine walkP_done ?_
                  simp only [Act.put]
                  go_wp2_with fail
                  go_meet
                  exact hS7
                · refine steps_want rfl (fun K hK => ?_)
                  go_simp
                  refine hK _ _ (fun _ => True) trivial (fun _ _ => trivial) ?_
                  clear hK K
                  refine steps_end ?_
                  refine walkP_seg ?_
                  simp only [List.filterMap_cons, List.filterMap_nil, List.getElem?_cons_zero, List.getElem?_cons_succ]
                  refine steps_want rfl (fun K hK => ?_)
                  go_simp
                  refine hK _ _ (fun _ => True) trivial (fun _ _ => trivial) ?_
                  clear hK K
                  refine steps_want rfl (fun K hK => ?_)
                  go_simp
                  refine (block_any s5 (r5.take 64) (by rw [List.length_take]; omega) _).mono ?_
                  rintro e w6 ⟨rfl, hE6⟩
                  have hS6 := hS5.ext hE6
                  refine hK _ _ (fun _ => True) trivial (fun _ _ => trivial) ?_
                  clear hK K
                  refine steps_quiet 2 (by kernel_rfl) ?_
                  simp only [List.take_succ_cons, List.take_zero, List.drop_succ_cons, List.drop_zero]
                  repeat (go_big_quiet_step (fail))
                  refine wpQuiet_nil ?_
                  refine steps_want rfl (fun K hK => ?_)
                  refine wp_store_hst hS6 _ _ rfl rfl rfl (fun w7 hS7 => ?_)
                  refine hK _ _ (fun _ => True) trivial (fun _ _ => trivial) ?_
                  clear hK K
                  refine steps_end ?_
                  refine walkP_done ?_
                  simp only [Act.put]
                  go_wp2_with fail
                  go_meet
                  exact hS7
            case rest =>
              clear hS5 k0 k1 k2 k3 k4 k5 k6 k7 c9 hcv hcells
              have hS6 := hcut
              obtain ⟨e9, f9⟩ := hS6.c9
              have hd : (r5.drop 64).length = r5.length - 64 := by simp
              have hlit := World.ownsRow_made (base := 0) (e := 5) (size := 1) wc #[] 0 (Nat.zero_le _) (by simp) rfl
              obtain ⟨gb', hgb', -, hcells⟩ := row_big hS6.own (by omega)
              injection hgb' with hgb'
              injection hgb' with hgb'
              subst hgb'
              have hnews : ∀ a, some (⟨gb, 64, none⟩ : Addr) = some a → ∀ j u, (u8s (r5.drop 64))[j]? = some u → (wc.alloc (.cells #[] 5)).cell? (a.add j) = some u := by
                rintro a ha j u hj
                injection ha with ha
                subst ha
                have hj' : j < (r5.drop 64).length := by have := (List.getElem?_eq_some_iff.1 hj).1; rwa [u8s_length] at this
                have := hcells (64 + j) (by omega)
                have hlt := World.block_lt_of_cell? wc _ this
                rw [Go.WideShapes.add_plain, (ext_alloc wc _).cell gb (64 + j) hlt, this]
                rw [u8s_get _ _ hj'] at hj
                rw [← hj, List.getD_eq_getElem?_getD, List.getD_eq_getElem?_getD, List.getElem?_drop]
              have x9 : (wc.alloc (.cells #[] 5)).cell? ⟨q, 9, none⟩ = some (.slice (some ⟨gb, 0, none⟩) r5.length cv5) := ((ext_alloc wc _).cell q 9 hS6.blk.lt).trans e9
              have xf : (wc.alloc (.cells #[] 5)).frozen? ⟨q, 9, none⟩ = false := ((ext_alloc wc _).frozen q 9 hS6.blk.lt).trans f9
              by_cases h64 : cv5 = 64
              · have hr64' : r5.length = 64 := by omega
                have hd0 : r5.drop 64 = [] := List.drop_of_length_le (by omega)
                have hlit' : (wc.alloc (.cells #[] 5)).ownsRow 0 5 1 (.slice (some ⟨wc.heap.size, 0, none⟩) 0 0) (r5.drop 64).length (u8s (r5.drop 64)) := by rw [hd0]; exact hlit
                have hlb : ∀ k, (Value.slice (some ⟨wc.heap.size, 0, none⟩) 0 0).ownBlock = some k → wc.heap.size ≤ k := fun k hk => Nat.le_of_eq (by simpa [Value.ownBlock] using hk)
                have hS7 := hS6.note (ext_alloc wc _) hlit' hlb
                have hrl := hS7.c9.1
                have hl0 : r5.length - 64 = 0 := by omega
                clear hnews hlit hlit' hcells hS6 e9 f9
                go_wp2_with fail
                refine ⟨⟨_, s5.block (r5.take 64), r5.drop 64, ?_, by omega, hS7⟩, ?_⟩
                · rw [← heat]; exact (eat_big (by omega)).symm
                · rw [HRL.out]
                  unfold restLen
                  rw [hrl]
                  show 0 < r5.length
                  omega
              · have hpn : (some (⟨gb, 64, none⟩ : Addr)) = none → r5.length - 64 = 0 ∧ cv5 - 64 = 0 := fun h => nomatch h
                have hb3 : 0 + (r5.length - 64) ≤ maxLen := by unfold maxLen; omega
                have hb4 : (0 + (r5.length - 64)) * 1 ≤ 140737488355328 := by omega
                have hlen7 : (u8s (r5.drop 64)).length = (r5.length - 64) * 1 := by rw [u8s_length, hd, Nat.mul_one]
                go_wp2_with (at_builtin; refine wpList_append_new rfl _ _ 30 rfl 5 i0 (.int .u8 0) 1 1 Try.underlying30 hi0 hz0 hz1 hz2 rfl (by decide) (.slice (some ⟨wc.heap.size, 0, none⟩) 0 0) 0 [] rfl hlit (some ⟨gb, 64, none⟩) (r5.length - 64) (cv5 - 64) (u8s (r5.drop 64)) rfl hlen7 hpn hnews (u8s_one _) hb3 hb4 ?_)
                intro v7 w7 hown7 hg7 hf7
                have hlb : ∀ k, (Value.slice (some ⟨wc.heap.size, 0, none⟩) 0 0).ownBlock = some k → wc.heap.size ≤ k := fun k hk => Nat.le_of_eq (by simpa [Value.ownBlock] using hk)
                obtain ⟨hE7, hb7⟩ := fresh_ext (ext_alloc wc (.cells #[] 5)) hlb hg7 hf7
                have hown7' : w7.ownsRow 0 5 1 v7 (r5.drop 64).length (u8s (r5.drop 64)) := by
                  rw [hd]
                  simpa using hown7
                obtain ⟨pv7, cv7, rfl⟩ := ownsRow_slice hown7'
                have hS7 : HSt F W (w7.setCell ⟨q, 9, none⟩ (.slice pv7 (r5.length - 64) cv7)) q (.slice pv7 (r5.length - 64) cv7) (s5.block (r5.take 64)) true (r5.drop 64) m := by
                  have := hS6.note hE7 hown7' hb7
                  rw [hd] at this
                  exact this
                have y9 := (hE7.cell q 9 hS6.blk.lt).trans e9
                have z9 := (hE7.frozen q 9 hS6.blk.lt).trans f9
                have hrl := hS7.c9.1
                clear hown7 hg7 hf7 hE7 hb7 hnews hlit x9 hcells hS6 e9 f9
                go_wp2_with fail
                refine ⟨⟨_, s5.block (r5.take 64), r5.drop 64, ?_, by omega, hS7⟩, ?_⟩
                · rw [← heat]; exact (eat_big (by omega)).symm
                · rw [HRL.out]
                  unfold restLen
                  rw [hrl]
                  show r5.length - 64 < r5.length
                  omega
          · go_wp2_with fail
            rw [eat_small (by omega)] at heat
            have hgp : g.push x = ⟨s5, true, r5, m⟩ := by
              show HS.mk (eat g.s (g.rest ++ x)).1 g.any (eat g.s (g.rest ++ x)).2 ((g.n + x.length) % 18446744073709551616) = _
              rw [← heat, hga, hm]
            refine ⟨⟨i + 1, _, ⟨s5, true, r5, m⟩, by omega, by go_num, by rw [HX.out, hgp], by show r5.length < 64; omega, by show m < _; rw [← hm]; exact Nat.mod_lt _ (by omega), rfl, hS5⟩, by simp [intOf]; omega⟩
      · have hi' : i = ps.length := by omega
        subst hi'
        rw [List.take_length] at hfold
        go_wp2_with fail
        go_end0
        refine ⟨rfl, ?_⟩
        rw [HA.out, hfold]
        have := hS.next hr64 hn64
        rw [← hga] at this
        exact this
end Go.Proofs.Ytkkhcpknldlpoaa
