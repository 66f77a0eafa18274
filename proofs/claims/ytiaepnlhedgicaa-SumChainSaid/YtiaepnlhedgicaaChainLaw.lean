/- SumChain, walked. -/
import Derived.Test.YtiaepnlhedgicaaSRef4
import Derived.Test.YtiaepnlhedgicaaSRowB
import Derived.Test.YtiaepnlhedgicaaOpenSum
namespace Go.Proofs.Ytiaepnlhedgicaa
set_option linter.unusedVariables false
set_option linter.unusedSimpArgs false
open Go Go.RowKit
theorem steps_load_mid {P : Program} {ops : Array Oper} {M : (World → Prop) → Act → World → Prop} {Q : Exit → Act → World → Prop} {F : World → Prop} {o : Oper} {ts : List Bool} {rest : List Oper} {a : Act} {w : World} (hw : Region.wanted o (yielded ops a.tmps) = true) (ty : TypeId) (x : Operand) (ho : o.op = .load ty x)
    (b off : Nat) (hx : a.eval x = .pointer (some ⟨b, off, none⟩)) (cs : List Value) (d : TypeDesc) (hS : ∀ w, F w → w.rangeAt b off cs) (hu : P.underlying ty = some d) (hd : d.isRow = true) (hi : (P.info? ty).map (·.size) = some cs.length)
    (h : walkL P ops M Q ts rest F (a.put o.dst (.agg cs.toArray)) w) : walkL P ops M Q (true :: ts) (o :: rest) F a w := by
  refine ⟨.agg cs.toArray, .inl ⟨hw, fun w' hw' => .inl ?_⟩, h⟩
  unfold execOp
  simp only [ho, hx, Instr.loadAt, Instr.sureAddr, Sem.run_bind, Sem.run_pure, Result.andThen_ok, run_loadVar_mid w' b off ty cs d (hS w' (cls_get hw')) hu hd hi]
theorem Has.cat {w X Y : World} {p : Asr} {ps : List Asr} (h : Has w X ps) (hl : Locs ps) (h2 : Has X Y [p]) : Has w Y (p :: ps) := by
  obtain ⟨F, hp, hlo, hE⟩ := h2
  exact h.add hl hE hp (fun k hk => (hlo k hk).1)
theorem flat_get : ∀ (ss : List (List UInt8)), (∀ x ∈ ss, x.length = 32) → ∀ i j, i < ss.length → j < 32 → ss.flatten[i * 32 + j]? = (ss.getD i [])[j]? := by
  intro ss
  induction ss with
  | nil => intro _ i j hi; simp at hi
  | cons x ss ih =>
    intro h i j hi hj
    have hx := h x (by simp)
    cases i with
    | zero => rw [List.flatten_cons, List.getElem?_append_left (by omega)]; simp
    | succ i =>
      rw [List.flatten_cons, List.getElem?_append_right (by omega), hx, show (i + 1) * 32 + j - 32 = i * 32 + j by omega, ih (fun y hy => h y (by simp [hy])) i j (by simpa using hi) hj]
      rfl
theorem sums_range {W : World} {base e g c n : Nat} {ss : List (List UInt8)} (h : W.ownsRow base e 32 (.slice (some ⟨g, 0, none⟩) n c) n (u8s ss.flatten)) (h32 : ∀ x ∈ ss, x.length = 32) (hn : ss.length = n) (i : Nat) (hi : i < n) : W.rangeAt g (i * 32) (u8s (ss.getD i [])) := by
  intro j v hj
  have hjl : j < 32 := by
    have h1 := (List.getElem?_eq_some_iff.1 hj).1
    rw [u8s_length] at h1
    have := h32 _ (getD_mem ss [] i (by omega))
    omega
  rw [h.cellAt (i * 32 + j) (by omega), u8s, List.getElem?_map, flat_get ss h32 i j (by omega) hjl]
  rw [u8s, List.getElem?_map] at hj
  exact hj
abbrev SRow (e : TypeId) (v : Value) (n : Nat) (ss : List (List UInt8)) : Asr := rowA e 32 v n (u8s ss.flatten)
theorem SRow.form {w W : World} {e n : Nat} {v : Value} {ss : List (List UInt8)} {ps : List Asr} (h : Has w W (SRow e v n ss :: ps)) (hn : 0 < n) : ∃ g c, v = .slice (some ⟨g, 0, none⟩) n c := by
  obtain ⟨F, hF⟩ := h.head
  rcases hF.1.2 with ⟨hv, h0⟩ | ⟨g, cap, cur, hv, _⟩
  · omega
  · exact ⟨g, cap, hv⟩
def sts (l : List (List UInt8)) : List Value := l.map fun t => Value.string (strOf t)
abbrev TRow (v : Value) (l : List (List UInt8)) : Asr := rowA 9 1 v l.length (sts l)
theorem TRow_loc (v : Value) (l : List (List UInt8)) : Loc (TRow v l) := rowA_loc _ _ _ _ _
theorem strInfo' : (Try.prog.info? 9).map (fun i => (i.zero, i.size, i.bytes)) = some (some (.string ⟨#[]⟩), 1, 16) := by kernel_rfl
theorem TRow.grow1 {w W W' : World} {v v' : Value} {l : List (List UInt8)} {b : List UInt8} {ps : List Asr} (h : Has w W (TRow v l :: ps)) (hl : Locs ps) (hown : W'.ownsRow 0 9 1 v' (l.length + 1) (sts l ++ [.string (strOf b)])) (hg : W.grownBy W' v.ownBlock) (hf : Fresh W v v') : Has w W' (TRow v' (l ++ [b]) :: ps) := by
  refine h.next hl fun F hF => ?_
  obtain ⟨_, rfl⟩ := hF
  refine Next.mk ⟨?_, rfl⟩ (grownBy.tch hg) hf.1
  rw [List.length_append]
  simpa [sts] using hown
theorem TRow.strs {w W : World} {p : Option Addr} {c n : Nat} {l : List (List UInt8)} {ps : List Asr} (h : Has w W (TRow (.slice p n c) l :: ps)) : StrsAt W p l := by
  intro i hi
  obtain ⟨F, hF⟩ := h.head
  rcases hF.1.2 with ⟨hv, h0⟩ | ⟨g, cap, cur, hv, _⟩
  · omega
  · injection hv with h1 h2 h3
    subst h1 h2 h3
    have := hF.1.cellAt i (by omega)
    rw [sts, List.getElem?_map, List.getElem?_eq_getElem hi] at this
    refine ⟨g, 0, rfl, World.block_lt_of_cell? W _ this, by rw [Nat.zero_add]; exact this⟩
def CaRel (w : World) (ps : List (List UInt8)) (q : Asr) (v k : Value) (wr : World) : Prop :=
  ∃ i : Nat, i ≤ ps.length ∧ k = .int .i64 i ∧ (∀ x ∈ ps.take i, x.length ≤ 100) ∧ Has w wr [TRow v (ps.take i), q]
theorem smSize' {l : List UInt8} (h : l.length = 32) : (Try.prog.info? 29).map (·.size) = some (u8s l).length := by
  rw [smInfo]; simp [u8s, h]
theorem aSize' {l : List UInt8} (h : l.length = 32) : (Try.prog.info? 28).map (·.size) = some (u8s l).length := by
  rw [aInfo]; simp [u8s, h]
def CbRel (w : World) (n : Nat) (qs : List Asr) (k : Value) (wr : World) : Prop := ∃ i : Nat, i ≤ n ∧ k = .int .i64 i ∧ Has w wr qs
set_option maxRecDepth 100000 in
set_option maxHeartbeats 4000000 in
theorem chainlaw_any (w : World) (first : List UInt8) (hf : first.length = 32) (p : Option Addr) (c : Nat) (ps : List (List UInt8)) (hP : PartsAt (fun _ => False) w p ps) :
    Calls Try.prog 7 #[smV first, .slice p ps.length c] w fun e w' => e = .returned (.bool true) ∧ Ext w w' := by
  obtain ⟨i0, hi0, hz0, hz1, hz2⟩ := info_parts strInfo'
  go_enter Try.func7, Try.ntmps7
  go_wp2_with fail
  have h1 := (Has.nil (Ext.refl w)).add .nil (ext_alloc w (.cells (u8s first).toArray 29)) (p := SmA w.heap.size first) (F := fun k => k = w.heap.size) ⟨Blk.new _ _ _, rfl⟩ (fun k hk => by omega)
  refine gen_calls (fun X => Has w X [SmA w.heap.size first]) h1 ?_
  clear h1
  intro X h1
  generalize w.heap.size = bx at *
  refine (known_any X).mono ?_
  rintro e w1 ⟨rfl, hE1⟩
  have h2 := h1.ext (.cons (SmA_loc _ _) .nil) hE1
  clear h1 hE1
  rcases (show (8 : Int) < ps.length ∨ ¬ (8 : Int) < ps.length by omega) with g | g1
  · go_wp2_with fail
    go_ret
    exact ⟨rfl, h2.base⟩
  go_wp2_with fail
  have hH : Has w w1 [TRow (.slice none 0 0) [], SmA bx first] := h2.add (.cons (SmA_loc _ _) .nil) (Ext.refl w1) (p := TRow (.slice none 0 0) []) (F := fun k => (Value.slice none 0 0).ownBlock = some k) ⟨World.ownsRow_nil _ _ _ _, rfl⟩ (fun k hk => by simp [Value.ownBlock] at hk)
  go_loopw [5, 19] (fun v k wr => CaRel w ps (SmA bx first) v k wr) (fun _ k _ => ((ps.length : Int) + 1 - intOf k).toNat)
  case atStart => exact ⟨0, by omega, rfl, by simp, hH⟩
  case round =>
    clear hH h2
    obtain ⟨i, hi, rfl, hsm, hH⟩ := hrel
    by_cases gi : (i : Int) < ps.length
    · obtain ⟨b, o, rfl, qq, cq, hc, hN, hn, hc1, hc2⟩ := hP.get (Tch.of_ext hH.base) i (by omega)
      have hNr := hN wr (Tch.of_ext hH.base)
      have htk : ps.take (i + 1) = ps.take i ++ [ps[i]'(by omega)] := by rw [List.take_succ_eq_append_getElem (by omega)]
      have hsm' : (ps[i]'(by omega)).length ≤ 100 → ∀ x ∈ ps.take (i + 1), x.length ≤ 100 := by
        intro h x hx
        rw [htk] at hx
        rcases List.mem_append.1 hx with hx | hx
        · exact hsm x hx
        · simp at hx; subst hx; exact h
      have HF := Lib.hid htk
      have HS := Lib.hid hsm'
      have htl : (ps.take i).length = i := by rw [List.length_take]; omega
      clear htk hsm' hsm
      generalize ps[i]'(by omega) = x at *
      generalize ps.take i = ts at *
      rcases (show (100 : Int) < x.length ∨ ¬ (100 : Int) < x.length by omega) with g3 | g3
      · go_wp2_with fail
        go_ret
        exact ⟨rfl, hH.base⟩
      have hcv := conv_arg (P := Try.prog) Try.underlying22 Try.underlying5 Try.underlying9 hNr hn
      obtain ⟨F, hF⟩ := hH.head
      have hown := ownsRow_ext hF.1 (ext_alloc wr (.cells #[.string (strOf x)] 9))
      have hH2 := hH.ext (.cons (TRow_loc _ _) (.cons (SmA_loc _ _) .nil)) (ext_alloc wr (.cells #[.string (strOf x)] 9))
      have hnews := news_new wr [.string (strOf x)] 9
      have hu1 : ∀ u ∈ [Value.string (strOf x)], u.oneCell' = true := by intro u hu; simp at hu; subst hu; rfl
      have htb : ts.length ≤ 8 := by omega
      have HTL := Lib.hid htl
      clear htl
      go_wp2_with (at_builtin; refine wpList_append_new rfl _ _ 41 rfl 9 i0 (.string ⟨#[]⟩) 1 16 Try.underlying41 hi0 hz0 hz1 hz2 rfl (by decide) _ _ _ rfl hown _ 1 1 [.string (strOf x)] rfl rfl (fun h => by cases h) hnews hu1 (by unfold maxLen; omega) (by omega) ?_)
      intro v3 w3 hown3 hg3 hf3
      have hH3 := TRow.grow1 hH2 (.cons (SmA_loc _ _) .nil) hown3 hg3 hf3
      clear hF hown hown3 hg3 hf3 hH hN hNr hc hcv hH2 hnews
      go_wp2_with fail
      exact ⟨⟨i + 1, by omega, by go_num, HS.out (by omega), by rw [HF.out]; exact hH3⟩, by simp [intOf]; omega⟩
    · have hi' : i = ps.length := by omega
      subst hi'
      rw [List.take_length] at *
      obtain ⟨pt, ct, rfl⟩ : ∃ p c, u5 = .slice p ps.length c := by
        obtain ⟨F, hF⟩ := hH.head
        exact ownsRow_slice hF.1
      have LF : Locs [TRow (.slice pt ps.length ct) ps, SmA bx first] := .cons (TRow_loc _ _) (.cons (SmA_loc _ _) .nil)
      have hCh := fun {X : World} (h : Has w X [TRow (.slice pt ps.length ct) ps, SmA bx first]) => chain_any X first hf p c ps (hP.new h.base (fun k h => h.elim)) (by omega) (fun x hx => Nat.le_trans (hsm x hx) (by omega))
      have hRc := fun {X : World} (h : Has w X [TRow (.slice pt ps.length ct) ps, SmA bx first]) => refchain_any X first hf pt ct ps (TRow.strs h) (by omega) (fun x hx => Nat.le_trans (hsm x hx) (by omega))
      have hcl := chain_len ps first
      have hc32 := chain_mem ps first
      have hcg := fun i hi => chain_get ps first i hi
      have hce := fun i hi => chainEnd_get ps first i hi
      generalize hS : chain first ps = ss at *
      have HCG := Lib.hid hcg
      have HCE := Lib.hid hce
      have HSM := Lib.hid hsm
      clear hcg hce hS hsm
      go_upto_region 13 with fail
      have hFd := (hH.ext LF (Ext.refl wr).drew)
      have hne_ : Nonempty (Of (fun X => Has w X [TRow (.slice pt ps.length ct) ps, SmA bx first])) := ⟨⟨_, hFd⟩⟩
      refine region_steps [1,4,0,3,2,5,6,7] [true,true,true,true,false,false,false,false] (fun X => Has w X [TRow (.slice pt ps.length ct) ps, SmA bx first]) (by kernel_rfl) (by kernel_rfl) hFd ?_
      simp only [List.filterMap_cons, List.filterMap_nil, List.getElem?_cons_zero, List.getElem?_cons_succ]
      refine steps_quiet 2 (by kernel_rfl) ?_
      simp only [List.take_succ_cons, List.take_zero, List.drop_succ_cons, List.drop_zero]
      repeat (go_big_quiet_step (fail))
      refine wpQuiet_nil ?_
      refine steps_load_row rfl _ _ rfl bx rfl 29 (u8s first).toArray _ (fun X hX => (show Has w X _ from hX).swap.head.choose_spec.1) Try.underlying29 rfl (smSize hf) ?_
      refine steps_load_row rfl _ _ rfl bx rfl 29 (u8s first).toArray _ (fun X hX => (show Has w X _ from hX).swap.head.choose_spec.1) Try.underlying29 rfl (smSize hf) ?_
      have hHd := hH.ext LF (Ext.refl wr).drew
      clear hH hFd
      generalize World.drew wr = wd at *
      refine steps_want rfl (fun K hK => ?_)
      go_simp
      refine (hCh hHd).mono ?_
      rintro e w4 ⟨v8, rfl, h8⟩
      have hH8 := hHd.cat LF h8
      refine hK _ _ _ hH8.drop (fun _ h => h) ?_
      clear hK K hHd hCh h8
      refine steps_want rfl (fun K hK => ?_)
      go_simp
      refine (hRc hH8.drop).mono ?_
      rintro e w5 ⟨v9, rfl, h9⟩
      have hH9 := hH8.cat (.cons (rowA_loc _ _ _ _ _) LF) h9
      have hcls : Has w w5 [TRow (.slice pt ps.length ct) ps, SmA bx first] := hH9.drop.drop
      refine hK _ _ _ hcls (fun _ h => h) ?_
      clear hK K hH8 hRc h9
      refine steps_want rfl (fun K hK => ?_)
      go_simp
      refine hK _ _ _ hcls (fun _ h => h) ?_
      clear hK K
      refine steps_want rfl (fun K hK => ?_)
      go_simp
      refine hK _ _ _ hcls (fun _ h => h) ?_
      clear hK K hcls
      refine steps_nil ?_
      try simp only [Act.put]
      have hH10 : Has w w5 [SRow 28 v9 ps.length ss, SRow 29 v8 ps.length ss, SmA bx first] := hH9.third.drop.swap.swap
      clear hH9
      obtain ⟨p9, c9, rfl⟩ : ∃ p c, v9 = .slice p ps.length c := by
        obtain ⟨F, hF⟩ := hH10.head
        exact ownsRow_slice hF.1
      obtain ⟨p8, c8, rfl⟩ : ∃ p c, v8 = .slice p ps.length c := by
        obtain ⟨F, hF⟩ := hH10.swap.head
        exact ownsRow_slice hF.1
      have LQ : Locs [SRow 28 (.slice p9 ps.length c9) ps.length ss, SRow 29 (.slice p8 ps.length c8) ps.length ss, SmA bx first] := .cons (rowA_loc _ _ _ _ _) (.cons (rowA_loc _ _ _ _ _) (.cons (SmA_loc _ _) .nil))
      go_wp2_with fail
      go_loopw [45] (fun k wr => CbRel w ps.length [SRow 28 (.slice p9 ps.length c9) ps.length ss, SRow 29 (.slice p8 ps.length c8) ps.length ss, SmA bx first] k wr) (fun k _ => ((ps.length : Int) + 1 - intOf k).toNat)
      case atStart => exact ⟨0, by omega, rfl, hH10⟩
      case round =>
        clear hH10
        obtain ⟨i, hi, rfl, hH⟩ := hrel
        by_cases gi : (i : Int) < ps.length
        · obtain ⟨b, o, hpe, qq, cq, hc, hN, hn, hc1, hc2⟩ := hP.get (Tch.refl _ w) i (by omega)
          subst hpe
          have hbw := World.block_lt_of_cell? w _ hc
          have hPc : ∀ X, Ext w X → X.cell? ⟨b, o + i, none⟩ = some (.slice qq ps[i].length cq) := fun X hE => (hE.cell b (o + i) hbw).trans hc
          clear hc
          obtain ⟨g9, cc, hv9⟩ := SRow.form hH (by omega)
          injection hv9 with hv9 _ hcc
          subst hv9 hcc
          obtain ⟨g8, cc, hv8⟩ := SRow.form hH.swap (by omega)
          injection hv8 with hv8 _ hcc
          subst hv8 hcc
          have hx1 := HCG.out i (by omega)
          have hx3 := HSM.out _ (List.getElem_mem (show i < ps.length by omega))
          have h32i := hc32 _ (getD_mem ss [] i (by omega))
          have hpv : (if i = 0 then first else ss.getD (i - 1) []).length = 32 ∧ chainEnd first (ps.take i) = (if i = 0 then first else ss.getD (i - 1) []) := by
            by_cases h0 : i = 0
            · subst h0; exact ⟨hf, rfl⟩
            · rw [if_neg h0]
              refine ⟨hc32 _ (getD_mem ss [] (i - 1) (by omega)), ?_⟩
              have := HCE.out (i - 1) (by omega)
              rw [show i - 1 + 1 = i by omega] at this
              exact this
          generalize ps[i]'(by omega) = x at *
          obtain ⟨y, hy⟩ : ∃ y, y = ss.getD i [] := ⟨_, rfl⟩
          have hR9 := fun {X : World} (h : Has w X [SRow 28 (.slice (some ⟨g9, 0, none⟩) ps.length c9) ps.length ss, SRow 29 (.slice (some ⟨g8, 0, none⟩) ps.length c8) ps.length ss, SmA bx first]) => sums_range h.head.choose_spec.1 hc32 hcl i (by omega)
          have hR8 := fun {X : World} (h : Has w X [SRow 28 (.slice (some ⟨g9, 0, none⟩) ps.length c9) ps.length ss, SRow 29 (.slice (some ⟨g8, 0, none⟩) ps.length c8) ps.length ss, SmA bx first]) => sums_range h.swap.head.choose_spec.1 hc32 hcl i (by omega)
          rw [← hy] at hx1 h32i
          simp only [← hy] at hR8 hR9
          have HY := Lib.hid hy
          have HX1 := Lib.hid hx1
          have HPV := Lib.hid hpv
          clear hy hx1 hpv
          go_upto_region 19 with fail
          have hFd := (hH.ext LQ (Ext.refl wr).drew)
          have hne_ : Nonempty (Of (fun X => Has w X [SRow 28 (.slice (some ⟨g9, 0, none⟩) ps.length c9) ps.length ss, SRow 29 (.slice (some ⟨g8, 0, none⟩) ps.length c8) ps.length ss, SmA bx first])) := ⟨⟨_, hFd⟩⟩
          refine region_steps [0,1,2,4,5,6,3,7,8] [true,true,true,true,true,true,true,true,false] (fun X => Has w X [SRow 28 (.slice (some ⟨g9, 0, none⟩) ps.length c9) ps.length ss, SRow 29 (.slice (some ⟨g8, 0, none⟩) ps.length c8) ps.length ss, SmA bx first]) (by kernel_rfl) (by kernel_rfl) hFd ?_
          simp only [List.filterMap_cons, List.filterMap_nil, List.getElem?_cons_zero, List.getElem?_cons_succ]
          refine steps_quiet 6 (by kernel_rfl) ?_
          simp only [List.take_succ_cons, List.take_zero, List.drop_succ_cons, List.drop_zero]
          repeat (go_big_quiet_step (fail))
          refine wpQuiet_nil ?_
          refine steps_load_mid rfl _ _ rfl g8 (i * 32) rfl (u8s y) _ (fun X hX => hR8 hX) Try.underlying29 rfl (smSize' h32i) ?_
          refine steps_load_mid rfl _ _ rfl g9 (i * 32) rfl (u8s y) _ (fun X hX => hR9 hX) Try.underlying28 rfl (aSize' h32i) ?_
          have hHd := hH.ext LQ (Ext.refl wr).drew
          clear hH hFd
          generalize World.drew wr = wd at *
          have hcm := eq_sum wd y y h32i h32i
          rw [decide_eq_true rfl] at hcm
          refine steps_want rfl (fun K hK => ?_)
          go_simp
          refine hK _ _ _ hHd (fun _ h => h) ?_
          clear hK K hcm
          refine steps_nil ?_
          try simp only [Act.put]
          obtain ⟨Fb, hFb⟩ := hHd.third.head
          have hBx := hFb.1
          have hBn := Blk.new wd 29 (u8s (zb 32)).toArray
          have hHn : Has w (wd.alloc (.cells (u8s (zb 32)).toArray 29)) (SmA wd.heap.size (zb 32) :: [SRow 28 (.slice (some ⟨g9, 0, none⟩) ps.length c9) ps.length ss, SRow 29 (.slice (some ⟨g8, 0, none⟩) ps.length c8) ps.length ss, SmA bx first]) := hHd.add LQ (ext_alloc wd (.cells (u8s (zb 32)).toArray 29)) (p := SmA wd.heap.size (zb 32)) (F := fun k => k = wd.heap.size) ⟨Blk.new _ _ _, rfl⟩ (fun k hk => by omega)
          have hHm := BdA_row (l' := first) hHn LQ
          go_upto_if 59 with (first
            | (refine wpList_load_row rfl _ _ rfl bx rfl _ _ _ _ hBx Try.underlying29 rfl (smSize hf) ?_)
            | (refine wpList_store_row rfl _ _ _ rfl wd.heap.size (u8s first).toArray rfl rfl _ _ hBn (smSize hf) (by simp [zb, u8s, hf]) (u8s_oneAll _) ?_))
          refine gen_world' (fun X => Has w X (SmA wd.heap.size first :: [SRow 28 (.slice (some ⟨g9, 0, none⟩) ps.length c9) ps.length ss, SRow 29 (.slice (some ⟨g8, 0, none⟩) ps.length c8) ps.length ss, SmA bx first])) hHm ?_
          clear hHm hHn hBn hBx hFb hHd
          intro we hHe
          generalize wd.heap.size = gp at *
          go_cut [] (fun wx => Has w wx (SmA gp (if i = 0 then first else ss.getD (i - 1) []) :: [SRow 28 (.slice (some ⟨g9, 0, none⟩) ps.length c9) ps.length ss, SRow 29 (.slice (some ⟨g8, 0, none⟩) ps.length c8) ps.length ss, SmA bx first]))
          case first =>
            by_cases h0 : i = 0
            · have g0 : ¬ (0 : Int) < (i : Int) := by omega
              have HZ := Lib.hid h0
              clear h0
              go_wp2_with fail
              go_meet
              rw [if_pos HZ.out]
              exact hHe
            · have HZ := Lib.hid h0
              have g0 : (0 : Int) < (i : Int) := by omega
              obtain ⟨j, hj⟩ : ∃ j, j = i - 1 := ⟨_, rfl⟩
              have HJ := Lib.hid hj
              have hji : (i : Int) - 1 = (j : Int) := by omega
              have hjn : (j : Int) < ps.length := by omega
              have h32j := hc32 _ (getD_mem ss [] j (by omega))
              have hRj := sums_range hHe.drop.swap.head.choose_spec.1 hc32 hcl j (by omega)
              clear h0 hj
              obtain ⟨z, hz⟩ : ∃ z, z = ss.getD j [] := ⟨_, rfl⟩
              rw [← hz] at hRj h32j
              have HZZ := Lib.hid hz
              clear hz
              obtain ⟨Fp, hFp⟩ := hHe.head
              have hBp := hFp.1
              have hHq := BdA_row (l' := z) hHe LQ
              go_wp2_with (first
                | (refine wpList_load_mid rfl _ _ rfl g8 (j * 32) rfl (u8s z) _ hRj Try.underlying29 rfl (smSize' h32j) ?_)
                | (refine wpList_store_row rfl _ _ _ rfl gp (u8s z).toArray rfl rfl _ _ hBp (smSize h32j) (by simp [u8s, hf, h32j]) (u8s_oneAll _) ?_))
              go_meet
              rw [if_neg HZ.out, ← HJ.out, ← HZZ.out]
              exact hHq
          case rest =>
            clear hHe
            obtain ⟨hpl, hpe⟩ := HPV.out
            rw [hpe] at HX1
            generalize (if i = 0 then first else ss.getD (i - 1) []) = prv at *
            clear hpe HPV
            have LC : Locs (SmA gp prv :: [SRow 28 (.slice (some ⟨g9, 0, none⟩) ps.length c9) ps.length ss, SRow 29 (.slice (some ⟨g8, 0, none⟩) ps.length c8) ps.length ss, SmA bx first]) := .cons (SmA_loc _ _) LQ
            have hNr := fun {X : World} (h : Ext w X) => hN X (Tch.of_ext h)
            have hcx := fun (X : Of fun X => Has w X (SmA gp prv :: [SRow 28 (.slice (some ⟨g9, 0, none⟩) ps.length c9) ps.length ss, SRow 29 (.slice (some ⟨g8, 0, none⟩) ps.length c8) ps.length ss, SmA bx first])) => hPc X.val X.property.base
            have HL := fun {X : World} (h : Ext w X) => link_any X prv x hpl qq cq (hNr h) hn hc1 hc2 (by omega)
            rw [← HX1.out] at HL
            go_upto_region 24 with fail
            have hFd := (hcut.ext LC (Ext.refl wc).drew)
            have hne_ : Nonempty (Of (fun X => Has w X (SmA gp prv :: [SRow 28 (.slice (some ⟨g9, 0, none⟩) ps.length c9) ps.length ss, SRow 29 (.slice (some ⟨g8, 0, none⟩) ps.length c8) ps.length ss, SmA bx first]))) := ⟨⟨_, hFd⟩⟩
            refine region_steps [1,2,3,6,7,8,4,0,9,5,10] [true,true,true,true,true,true,true,true,true,false,false] (fun X => Has w X (SmA gp prv :: [SRow 28 (.slice (some ⟨g9, 0, none⟩) ps.length c9) ps.length ss, SRow 29 (.slice (some ⟨g8, 0, none⟩) ps.length c8) ps.length ss, SmA bx first])) (by kernel_rfl) (by kernel_rfl) hFd ?_
            simp only [List.filterMap_cons, List.filterMap_nil, List.getElem?_cons_zero, List.getElem?_cons_succ]
            refine steps_quiet 7 (by kernel_rfl) ?_
            simp only [List.take_succ_cons, List.take_zero, List.drop_succ_cons, List.drop_zero]
            repeat (go_big_quiet_step (fail))
            refine wpQuiet_nil ?_
            refine steps_load_row rfl _ _ rfl gp rfl 29 (u8s prv).toArray _ (fun X hX => (show Has w X _ from hX).head.choose_spec.1) Try.underlying29 rfl (smSize hpl) ?_
            refine steps_load_mid rfl _ _ rfl g8 (i * 32) rfl (u8s y) _ (fun X hX => hR8 (show Has w X _ from hX).drop) Try.underlying29 rfl (smSize' h32i) ?_
            have hHd := hcut.ext LC (Ext.refl wc).drew
            clear hcut hFd hcx
            generalize World.drew wc = wd2 at *
            refine steps_want rfl (fun K hK => ?_)
            go_simp
            refine (HL hHd.base).mono ?_
            rintro e w7 ⟨rfl, hE7⟩
            have hH7 := hHd.ext LC hE7
            refine hK _ _ _ hH7 (fun _ h => h) ?_
            clear hK K HL hHd
            have hcm := eq_sum w7 y y h32i h32i
            rw [decide_eq_true rfl] at hcm
            refine steps_want rfl (fun K hK => ?_)
            go_simp
            refine hK _ _ _ hH7 (fun _ h => h) ?_
            clear hK K hcm
            refine steps_nil ?_
            try simp only [Act.put]
            go_wp2_with fail
            exact ⟨⟨i + 1, by omega, by go_num, hH7.drop⟩, by simp [intOf]; omega⟩
        · have hi' : i = ps.length := by omega
          subst hi'
          go_wp2_with fail
          go_ret
          exact ⟨rfl, hH.base⟩
end Go.Proofs.Ytiaepnlhedgicaa
