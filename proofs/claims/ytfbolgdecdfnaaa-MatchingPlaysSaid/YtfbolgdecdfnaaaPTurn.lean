/- The document's matches: turn. -/
import Derived.Test.YtfbolgdecdfnaaaPLeave
namespace Go.Proofs.Ytfbolgdecdfnaaa
set_option maxRecDepth 4000
set_option linter.unusedVariables false
set_option linter.unusedSimpArgs false
open Go Go.RowKit Go.Maps Go.ChangeMaps Go.MapKept
theorem snoc_ind {α : Type} {P : List α → Prop} (h0 : P []) (h1 : ∀ l a, P l → P (l ++ [a])) (l : List α) : P l := by
  rw [← List.reverse_reverse l]
  induction l.reverse with
  | nil => exact h0
  | cons a r ih => rw [List.reverse_cons]; exact h1 _ _ ih
abbrev TS := List Hd × List Hd × Nat
def stays (k worker now : Int) (h : Hd) : Bool := h.worker != k || worker == 0 && decide (now - h.since < 5)
def tstep (k worker now : Int) (lost : Bool) (s : TS) (h : Hd) : TS :=
  if stays k worker now h = true then (s.1 ++ [h], s.2.1, s.2.2)
  else if s.2.2 < 128 then (s.1, s.2.1 ++ [⟨h.run, h.kind, h.id, 0, now⟩], s.2.2 + 1)
  else if lost = false then (s.1 ++ [h], s.2.1, s.2.2) else s
def tfold (k worker now : Int) (lost : Bool) (n : Nat) (ws : List Hd) : TS := ws.foldl (tstep k worker now lost) ([], [], n)
theorem tfold_snoc (k worker now : Int) (lost : Bool) (n : Nat) (ws : List Hd) (h : Hd) : tfold k worker now lost n (ws ++ [h]) = tstep k worker now lost (tfold k worker now lost n ws) h := by simp [tfold]
def turnK (k worker now : Int) (lost : Bool) (ws : List Hd) : List Hd := (tfold k worker now lost (rcount ws 0) ws).1 ++ (tfold k worker now lost (rcount ws 0) ws).2.1
def rturn (worker now : Int) (lost : Bool) (ws : List Hd) : Nat → List Hd
  | 0 => ws
  | j + 1 => if worker ≠ 0 ∧ worker ≠ ((j : Int) + 1) then rturn worker now lost ws j else turnK ((j : Int) + 1) worker now lost (rturn worker now lost ws j)
theorem tfold_len (k worker now : Int) (lost : Bool) (n : Nat) : ∀ ws : List Hd, (tfold k worker now lost n ws).1.length + (tfold k worker now lost n ws).2.1.length ≤ ws.length ∧ (tfold k worker now lost n ws).2.2 ≤ n + ws.length := by
  intro ws
  refine snoc_ind (P := fun ws => (tfold k worker now lost n ws).1.length + (tfold k worker now lost n ws).2.1.length ≤ ws.length ∧ (tfold k worker now lost n ws).2.2 ≤ n + ws.length) ?_ ?_ ws
  · exact ⟨by simp [tfold], by simp [tfold]⟩
  · intro ws h ih
    rw [tfold_snoc, tstep]
    obtain ⟨h1, h2⟩ := ih
    split
    · constructor <;> simp only [List.length_append, List.length_cons, List.length_nil] <;> omega
    · split
      · constructor <;> simp only [List.length_append, List.length_cons, List.length_nil] <;> omega
      · split
        · constructor <;> simp only [List.length_append, List.length_cons, List.length_nil] <;> omega
        · constructor <;> simp only [List.length_append, List.length_cons, List.length_nil] <;> omega
theorem tfold_mem (k worker now : Int) (lost : Bool) (n : Nat) : ∀ (ws : List Hd) (y : Hd), y ∈ (tfold k worker now lost n ws).1 ∨ y ∈ (tfold k worker now lost n ws).2.1 → ∃ x ∈ ws, y = x ∨ y = ⟨x.run, x.kind, x.id, 0, now⟩ := by
  intro ws
  refine snoc_ind (P := fun ws => ∀ (y : Hd), y ∈ (tfold k worker now lost n ws).1 ∨ y ∈ (tfold k worker now lost n ws).2.1 → ∃ x ∈ ws, y = x ∨ y = ⟨x.run, x.kind, x.id, 0, now⟩) ?_ ?_ ws
  · intro y hy; simp [tfold] at hy
  · intro ws h ih
    intro y hy
    rw [tfold_snoc, tstep] at hy
    have old : (y ∈ (tfold k worker now lost n ws).1 ∨ y ∈ (tfold k worker now lost n ws).2.1) → ∃ x ∈ ws ++ [h], y = x ∨ y = ⟨x.run, x.kind, x.id, 0, now⟩ := fun hy => by
      obtain ⟨x, hx, e⟩ := ih y hy
      exact ⟨x, by simp [hx], e⟩
    split at hy
    · simp only [List.mem_append, List.mem_singleton] at hy
      rcases hy with (hy | rfl) | hy
      · exact old (Or.inl hy)
      · exact ⟨y, by simp, Or.inl rfl⟩
      · exact old (Or.inr hy)
    · split at hy
      · simp only [List.mem_append, List.mem_singleton] at hy
        rcases hy with hy | hy | hy
        · exact old (Or.inl hy)
        · exact old (Or.inr hy)
        · exact ⟨h, by simp, Or.inr hy⟩
      · split at hy
        · simp only [List.mem_append, List.mem_singleton] at hy
          rcases hy with (hy | rfl) | hy
          · exact old (Or.inl hy)
          · exact ⟨y, by simp, Or.inl rfl⟩
          · exact old (Or.inr hy)
        · exact old hy
theorem rturn_len (worker now : Int) (lost : Bool) (ws : List Hd) : ∀ j, (rturn worker now lost ws j).length ≤ ws.length
  | 0 => Nat.le_refl _
  | j + 1 => by
    rw [rturn]
    split
    · exact rturn_len worker now lost ws j
    · have := (tfold_len ((j : Int) + 1) worker now lost (rcount (rturn worker now lost ws j) 0) (rturn worker now lost ws j)).1
      have h2 := rturn_len worker now lost ws j
      rw [turnK, List.length_append]; omega
def Since (now : Int) (ws : List Hd) : Prop := ∀ h ∈ ws, 0 ≤ h.since ∧ h.since ≤ now
theorem rturn_since {worker now : Int} {lost : Bool} {ws : List Hd} (h0 : 0 ≤ now) (h : Since now ws) : ∀ j, Since now (rturn worker now lost ws j)
  | 0 => h
  | j + 1 => by
    rw [rturn]
    split
    · exact rturn_since h0 h j
    · intro y hy
      rw [turnK, List.mem_append] at hy
      obtain ⟨x, hx, e⟩ := tfold_mem _ _ _ _ _ _ y hy
      have := rturn_since (worker := worker) (lost := lost) h0 h j x hx
      rcases e with rfl | rfl
      · exact this
      · exact ⟨h0, Int.le_refl _⟩
theorem hdInfo : (Try.prog.info? 95).map (·.size) = some 5 := by kernel_rfl
def TiRel (wo : World) (ws : List Hd) (k worker now : Int) (lost : Bool) (n : Nat) (v10 v11 v12 v31 : Value) (wr : World) : Prop :=
  ∃ pre post, ws = pre ++ post ∧ v31 = .int .i64 pre.length ∧ v12 = .int .i64 (tfold k worker now lost n pre).2.2 ∧
    Has wo wr [rowA 95 5 v10 (tfold k worker now lost n pre).1.length (flatH (tfold k worker now lost n pre).1), rowA 95 5 v11 (tfold k worker now lost n pre).2.1.length (flatH (tfold k worker now lost n pre).2.1)]
theorem Has.two_nilH (w : World) : Has w w [rowA 95 5 (.slice none 0 0) 0 (flatH []), rowA 95 5 (.slice none 0 0) 0 (flatH [])] :=
  ⟨_, ⟨World.ownsRow_nil _ _ _ _, rfl⟩, fun k hk => by simp [Value.ownBlock] at hk, _, ⟨World.ownsRow_nil _ _ _ _, rfl⟩, fun k hk => by simp [Value.ownBlock] at hk, Ext.refl w⟩
theorem results_cell1 {P : Program} {fn : Func} {p : Tmp} {ty : TypeId} (h : fn.results = #[.cell p ty]) (tmps : Array Value) (w : World) (g : Nat) (t : TypeId) (cs : Array Value) (fr : Nat × Nat) (d : TypeDesc)
    (hp : tmps.getD p undef = .pointer (some ⟨g, 0, none⟩)) (hg : w.heap[g]? = some (.cells cs t fr)) (hu : P.underlying ty = some d) (hd : (match d with | .struct _ | .array _ _ => true | _ => false) = true) (hi : (P.info? ty).map (·.size) = some cs.size) :
    (results fn tmps).run P w = .ok (.agg cs) w := by
  have hp' : tmps[p]?.getD undef = .pointer (some ⟨g, 0, none⟩) := by simpa using hp
  simp [results, h, hp', asAddr, run_loadVar_row w g t ty cs fr d hg hu hd hi]
structure TW (W : World) (bx : Nat) (vw vl : Value) (t : Int) (ws : List Hd) (vw' : Value) (wr : World) : Prop where
  e : Ext W wr
  b : Blk wr bx 65 #[vw', vl, .int .u64 t]
  b8 : Blk wr (bx + 1) 65 #[.slice none 0 0, .slice none 0 0, .int .u64 0]
  r : wr.ownsRow 0 95 5 vw' ws.length (flatH ws)
  f : ∀ g, vw'.ownBlock = some g → g ≠ bx ∧ g ≠ bx + 1 ∧ (vw.ownBlock = some g ∨ W.heap.size ≤ g)
theorem TW.ext {W : World} {bx : Nat} {vw vl : Value} {t : Int} {ws : List Hd} {vw' : Value} {wr w' : World} (h : TW W bx vw vl t ws vw' wr) (hE : Ext wr w') : TW W bx vw vl t ws vw' w' :=
  ⟨h.e.trans hE, h.b.of_eq (hE.block _ h.b.lt), h.b8.of_eq (hE.block _ h.b8.lt), ownsRow_ext h.r hE, h.f⟩
def ToRel (W : World) (bx : Nat) (vw vl : Value) (t : Int) (ws : List Hd) (worker now : Int) (lost : Bool) (v9 : Value) (wr : World) : Prop :=
  ∃ (j : Nat) (vw' : Value), j ≤ 64 ∧ v9 = .int .i64 ((j : Int) + 1) ∧ TW W bx vw vl t (rturn worker now lost ws j) vw' wr
def RTurned (W : World) (vw vl : Value) (t : Int) (ws ws' : List Hd) (ls : List Ls) (e : Ending) (W' : World) : Prop :=
  ∃ vw', e = .returned (rwV vw' vl t) ∧ RRows W' vw' ws' vl ls ∧ Ext W W' ∧ Rows' W W' vw vl vw'
set_option maxRecDepth 100000 in
set_option maxHeartbeats 40000000 in
theorem rturn_any (W : World) (vw vl : Value) (t : Int) (ws : List Hd) (ls : List Ls) (worker now : Int) (lost : Bool) (h : RRows W vw ws vl ls) (hw : ws.length ≤ 900) (hs : Since now ws) (hn1 : 0 ≤ now) (hn2 : now ≤ 1000000) :
    Calls Try.prog 19 #[rwV vw vl t, .int .i64 worker, .int .i64 now, .bool lost] W fun e W' => RTurned W vw vl t ws (rturn worker now lost ws 64) ls e W' := by
  have hR := h
  have hX := hm_blk (hm_blk (Has.nil (Ext.refl W)) .nil 65 #[vw, vl, .int .u64 t]) (by repeat first | exact Locs.nil | refine Locs.cons (mP_loc _ _) ?_ | refine Locs.cons (blkA_loc _ _ _) ?_ | refine Locs.cons (rowA_loc _ _ _ _ _) ?_) 65 #[.slice none 0 0, .slice none 0 0, .int .u64 0]
  have ea : ∀ (w : World) (o : Obj), (w.alloc o).heap.size = w.heap.size + 1 := fun w o => by simp
  rw [ea] at hX
  clear ea
  obtain ⟨pw, cw, rfl⟩ := ownsRow_slice h.w
  obtain ⟨pl, cl, rfl⟩ := ownsRow_slice h.l
  obtain ⟨K, hK⟩ : ∃ n, ws.length = n := ⟨_, rfl⟩
  obtain ⟨L, hL⟩ : ∃ n, ls.length = n := ⟨_, rfl⟩
  rw [hK] at hX hR hw ⊢
  rw [hL] at hX hR ⊢
  have HL := Lib.hid hL
  have HKK := Lib.hid hK
  clear hL hK h
  obtain ⟨i0, hi0, hi1, hi2, hi3⟩ := info_parts6 hdInfo5
  go_enter Try.func19, Try.ntmps19
  go_upto_region 1 with fail
  generalize hw0 : World.alloc (World.alloc W _) _ = w1 at *
  generalize hbxn : W.heap.size = bx at *
  have HBX := Lib.hid hbxn
  clear hw0
  have hTW : TW W bx (.slice pw K cw) (.slice pl L cl) t ws (.slice pw K cw) w1 := by
    refine ⟨hX.base, hX.blk (by simp), hX.blk (by simp), (hR.ext hX.base).w, fun g hg => ?_⟩
    have := (hR.w.lt g hg).2
    exact ⟨by omega, by omega, Or.inl hg⟩
  clear hX hbxn
  go_wp2_with fail
  go_loopw [9] (fun v9 wr => ToRel W bx (.slice pw K cw) (.slice pl L cl) t ws worker now lost v9 wr) (fun v9 _ => (66 - intOf v9).toNat)
  case atStart => exact ⟨0, _, by omega, rfl, hTW⟩
  case round =>
    clear hTW
    obtain ⟨j, vw', hj, rfl, hT⟩ := hrel
    have hlen := rturn_len worker now lost ws j
    have hsin := rturn_since (worker := worker) (lost := lost) hn1 hs j
    rw [HKK.out] at hlen
    obtain ⟨pv, cv, rfl⟩ := ownsRow_slice hT.r
    by_cases gj : (j : Int) + 1 ≤ 64
    · by_cases hw0 : worker ≠ 0 ∧ worker ≠ (j : Int) + 1
      · have e1 : (worker != 0) = true := by simpa using hw0.1
        have e2 : (worker != (j : Int) + 1) = true := by simpa using hw0.2
        have HR1 : Hid (rturn worker now lost ws (j + 1) = rturn worker now lost ws j) := Lib.hid (by rw [rturn, if_pos hw0])
        clear hw0
        go_wp2_with fail
        exact ⟨⟨j + 1, _, by omega, by go_num, by rw [HR1.out]; exact hT⟩, by simp [intOf]; omega⟩
      · have HR1 : Hid (rturn worker now lost ws (j + 1) = turnK ((j : Int) + 1) worker now lost (rturn worker now lost ws j)) := Lib.hid (by rw [rturn, if_neg hw0])
        generalize rturn worker now lost ws j = ws1 at *
        by_cases hw1 : worker = 0
        · have e1 : (worker != 0) = false := by simpa using hw1
          have e3 : (worker == 0) = true := by simpa using hw1
          clear hw0 hw1
          obtain ⟨Q, hQ⟩ : ∃ n, ws1.length = n := ⟨_, rfl⟩
          rw [hQ] at hT hlen
          have HQ := Lib.hid hQ
          clear hQ
          have a0 : wr.cell? ⟨bx, 0, none⟩ = some (.slice pv Q cv) := hT.b.cell 0
          have a1 : wr.cell? ⟨bx, 1, none⟩ = some (.slice pl L cl) := hT.b.cell 1
          have a2 : wr.cell? ⟨bx, 2, none⟩ = some (.int .u64 t) := hT.b.cell 2
          go_wp2_with fail
          refine (rcount_any wr (.slice pv Q cv) (.slice pl L cl) t ws1 ls 0 ⟨hT.r, by have := (hR.ext hT.e).l; exact this⟩ (by rw [HQ.out]; omega)).mono ?_
          clear a0 a1 a2
          rintro e w2 ⟨rfl, hE2⟩
          replace hT := hT.ext hE2
          clear hE2
          obtain ⟨n0, hn0⟩ : ∃ n, rcount ws1 0 = n := ⟨_, rfl⟩
          have hnQ : n0 ≤ Q := by rw [← hn0, ← HQ.out]; exact List.countP_le_length
          have HN0 := Lib.hid hn0
          rw [hn0]
          clear hn0
          have hH0 := Has.two_nilH w2
          have a0 : w2.cell? ⟨bx, 0, none⟩ = some (.slice pv Q cv) := hT.b.cell 0
          go_wp2_with fail
          clear a0
          go_loopw [10, 11, 12, 31] (fun v10 v11 v12 v31 wr => TiRel w2 ws1 ((j : Int) + 1) worker now lost n0 v10 v11 v12 v31 wr) (fun _ _ _ v31 _ => ((Q : Int) + 1 - intOf v31).toNat)
          case atStart => exact ⟨[], ws1, rfl, rfl, rfl, hH0⟩
          case round =>
            clear hH0
            obtain ⟨pre, post, hx, rfl, rfl, hH⟩ := hrel
            have hbd := tfold_len ((j : Int) + 1) worker now lost n0 pre
            have hpq : pre.length ≤ Q := by rw [← HQ.out, hx]; simp
            obtain ⟨⟨A, B, n⟩, hS⟩ : ∃ s, tfold ((j : Int) + 1) worker now lost n0 pre = s := ⟨_, rfl⟩
            rw [hS] at hH hbd ⊢
            have HS := Lib.hid hS
            clear hS
            obtain ⟨hbd1, hbd2⟩ := hbd
            obtain ⟨LA, hLA⟩ : ∃ n, A.length = n := ⟨_, rfl⟩
            obtain ⟨LB, hLB⟩ : ∃ n, B.length = n := ⟨_, rfl⟩
            replace hbd1 : A.length + B.length ≤ pre.length := hbd1
            replace hbd2 : n ≤ n0 + pre.length := hbd2
            replace hH : Has w2 wr [rowA 95 5 u10 A.length (flatH A), rowA 95 5 u11 B.length (flatH B)] := hH
            rw [hLA, hLB] at hH hbd1
            have HLA := Lib.hid hLA
            have HLB := Lib.hid hLB
            clear hLA hLB
            try simp only
            cases post with
            | nil =>
              obtain rfl : ws1 = pre := by simpa using hx
              have hl2 : ¬ ((ws1.length : Int) < Q) := by rw [← HQ.out]; omega
              clear hx
              obtain ⟨ow1, -⟩ := hH.owned (e := 95) (size := 5) (v := u10) (n := LA) (xs := flatH A) (by simp)
              obtain ⟨ow2, -⟩ := hH.owned (e := 95) (size := 5) (v := u11) (n := LB) (xs := flatH B) (by simp)
              obtain ⟨p11, d11, rfl⟩ := ownsRow_slice ow2
              have hlB := flatH_length B
              rw [HLB.out] at hlB
              have hnil := row_nil ow2
              have hnews := row_news ow2
              have HNIL := Lib.hid hnil
              have HNEWS := Lib.hid hnews
              have hbw := hT.ext hH.base
              have a0 : wr.cell? ⟨bx, 0, none⟩ = some (.slice pv Q cv) := hbw.b.cell 0
              clear hnil hnews
              go_wp2_with (at_builtin; refine wpList_append_new rfl _ _ 63 rfl 95 i0 (.agg (hdA zeroH)) 5 40 Try.underlying63 hi0 hi1 hi2 hi3 rfl (by decide) _ _ _ rfl ow1 p11 LB d11 (flatH B) rfl hlB HNIL.out HNEWS.out flatH_one (by unfold maxLen; omega) (by omega) ?_)
              intro v4 w4 hown4 hg4 hf4
              have hH5 := hH.next (by repeat first | exact Locs.nil | refine Locs.cons (mP_loc _ _) ?_ | refine Locs.cons (blkA_loc _ _ _) ?_ | refine Locs.cons (rowA_loc _ _ _ _ _) ?_) fun F hF => Next.mk (p' := rowA 95 5 v4 (LA + LB) (flatH A ++ flatH B)) ⟨hown4, rfl⟩ (by rw [hF.2]; exact grownBy.tch hg4) (by rw [hF.2]; exact hf4.1)
              obtain ⟨p4, d4, rfl⟩ := ownsRow_slice hown4
              have hlo := (hH5.owned (e := 95) (size := 5) (v := .slice p4 (LA + LB) d4) (n := LA + LB) (xs := flatH A ++ flatH B) (by simp)).2
              have hT4 := hT.ext hH5.base
              have hbl := hT.b.lt
              have hbl8 := hT.b8.lt
              have hle := hT.e.le
              have a0 : w4.cell? ⟨bx, 0, none⟩ = some (.slice pv Q cv) := hT4.b.cell 0
              have fz : w4.frozen? ⟨bx, 0, none⟩ = false := hT4.b.frozen 0
              have hlt := hT4.b.lt
              clear ow1 ow2 hH hH5 hg4 hf4 HNIL HNEWS hbw
              go_wp2_with fail
              refine ⟨⟨j + 1, .slice p4 (LA + LB) d4, by omega, by go_num, ?_⟩, by simp [intOf]; omega⟩
              rw [HR1.out, turnK, HN0.out, HS.out]
              have hlo' : ∀ g, (Value.slice p4 (LA + LB) d4).ownBlock = some g → g ≠ bx ∧ g ≠ bx + 1 ∧ W.heap.size ≤ g := fun g hg => by
                have := hlo g hg
                exact ⟨by omega, by omega, by omega⟩
              refine ⟨hT4.e.setCell (show W.heap.size ≤ bx by have := HBX.out; omega) _, hT4.b.set_ 0 _, hT4.b8.of_eq (Below.heap_setCell _ _ _ _ (show bx + 1 ≠ bx by omega)), ?_, fun g hg => ⟨(hlo' g hg).1, (hlo' g hg).2.1, Or.inr (hlo' g hg).2.2⟩⟩
              refine ownsRow_setCell_other ?_ (a := ⟨bx, 0, none⟩) (fun h9 => (hlo' bx h9).1 rfl) _
              rw [flatH_append, List.length_append]
              show w4.ownsRow 0 95 5 (.slice p4 (LA + LB) d4) (A.length + B.length) (flatH A ++ flatH B)
              rw [HLA.out, HLB.out]
              exact hown4
            | cons x post =>
              have hl2 : (pre.length : Int) < Q := by rw [← HQ.out, hx]; simp; omega
              have hxs := hsin x (by rw [hx]; simp)
              have hrw := (hT.ext hH.base).r
              rw [HQ.out, hx] at hrw
              obtain ⟨g, hpe, -, hg, x0, x1, x2, x3, x4⟩ := held_at (by rw [← HQ.out, hx]) hrw
              subst hpe
              have HX := Lib.hid hx
              clear hx hrw
              obtain ⟨xr, xk, xi, xw, xs⟩ := x
              replace hxs : 0 ≤ xs ∧ xs ≤ now := hxs
              have hlok := hH.ext (by repeat first | exact Locs.nil | refine Locs.cons (mP_loc _ _) ?_ | refine Locs.cons (blkA_loc _ _ _) ?_ | refine Locs.cons (rowA_loc _ _ _ _ _) ?_) (ext_alloc wr (.cells #[.int .i64 xr, .int .i64 xk, .int .i64 xi, .int .i64 xw, .int .i64 xs] 95))
              have hbt := Blk.new wr 95 #[.int .i64 xr, .int .i64 xk, .int .i64 xi, .int .i64 xw, .int .i64 xs]
              go_upto_region 10 with fail
              generalize hw_ : World.alloc wr _ = w3 at *
              generalize wr.heap.size = bt at *
              clear hw_ hH x0 x1 x2 x3 x4
              have c0 : w3.cell? ⟨bt, 0, none⟩ = some (.int .i64 xr) := hbt.cell 0
              have c1 : w3.cell? ⟨bt, 1, none⟩ = some (.int .i64 xk) := hbt.cell 1
              have c2 : w3.cell? ⟨bt, 2, none⟩ = some (.int .i64 xi) := hbt.cell 2
              have c3 : w3.cell? ⟨bt, 3, none⟩ = some (.int .i64 xw) := hbt.cell 3
              have c4 : w3.cell? ⟨bt, 4, none⟩ = some (.int .i64 xs) := hbt.cell 4
              obtain ⟨q, hq⟩ : ∃ b, (xw != (j : Int) + 1) = b := ⟨_, rfl⟩
              cases q with
              | true =>
                have HST : Hid (stays ((j : Int) + 1) worker now ⟨xr, xk, xi, xw, xs⟩ = true) := Lib.hid (by unfold stays; rw [hq]; rfl)
                have HTF : Hid (tfold ((j : Int) + 1) worker now lost n0 (pre ++ [⟨xr, xk, xi, xw, xs⟩]) = (A ++ [⟨xr, xk, xi, xw, xs⟩], B, n)) := Lib.hid (by rw [tfold_snoc, HS.out, tstep, if_pos HST.out])
                have hH3 := hlok
                have hH2 := hH3.ext (by repeat first | exact Locs.nil | refine Locs.cons (mP_loc _ _) ?_ | refine Locs.cons (blkA_loc _ _ _) ?_ | refine Locs.cons (rowA_loc _ _ _ _ _) ?_) (ext_alloc w3 (.cells #[.int .i64 xr, .int .i64 xk, .int .i64 xi, .int .i64 xw, .int .i64 xs] 95))
                have hnews := news_new w3 (hdC ⟨xr, xk, xi, xw, xs⟩) 95
                obtain ⟨Fp, hFp⟩ := hH2.head
                have hown := hFp.1
                go_wp2_with (at_builtin; refine wpList_append_new rfl _ _ 63 rfl 95 i0 (.agg (hdA zeroH)) 5 40 Try.underlying63 hi0 hi1 hi2 hi3 rfl (by decide) _ _ _ rfl hown _ 1 1 (hdC ⟨xr, xk, xi, xw, xs⟩) rfl rfl (fun h => by cases h) hnews (hdC_one _) (by unfold maxLen; omega) (by omega) ?_)
                intro v4 w4 hown4 hg4 hf4
                have hH5 := hH2.next (by repeat first | exact Locs.nil | refine Locs.cons (mP_loc _ _) ?_ | refine Locs.cons (blkA_loc _ _ _) ?_ | refine Locs.cons (rowA_loc _ _ _ _ _) ?_) fun F hF => Next.mk (p' := rowA 95 5 v4 (LA + 1) (flatH A ++ hdC ⟨xr, xk, xi, xw, xs⟩)) ⟨hown4, rfl⟩ (by rw [hF.2]; exact grownBy.tch hg4) (by rw [hF.2]; exact hf4.1)
                clear hH2 hH3 hlok hFp hown hown4 hg4 hf4 hnews hbt c0 c1 c2 c3 c4
                go_wp2_with fail
                refine ⟨⟨pre ++ [⟨xr, xk, xi, xw, xs⟩], post, by rw [HX.out]; simp, by simp, by rw [HTF.out], ?_⟩, by simp [intOf]; omega⟩
                rw [HTF.out]
                simp only [flatH_append, List.length_append, HLA.out, HLB.out]
                simpa [flatH] using hH5
              | false =>
                obtain ⟨dd, hdd⟩ : ∃ b, decide (now - xs < 5) = b := ⟨_, rfl⟩
                cases dd with
                | true =>
                  have HST : Hid (stays ((j : Int) + 1) worker now ⟨xr, xk, xi, xw, xs⟩ = true) := Lib.hid (by unfold stays; rw [hq, e3, hdd]; rfl)
                  have HTF : Hid (tfold ((j : Int) + 1) worker now lost n0 (pre ++ [⟨xr, xk, xi, xw, xs⟩]) = (A ++ [⟨xr, xk, xi, xw, xs⟩], B, n)) := Lib.hid (by rw [tfold_snoc, HS.out, tstep, if_pos HST.out])
                  have hH3 := hlok
                  have hH2 := hH3.ext (by repeat first | exact Locs.nil | refine Locs.cons (mP_loc _ _) ?_ | refine Locs.cons (blkA_loc _ _ _) ?_ | refine Locs.cons (rowA_loc _ _ _ _ _) ?_) (ext_alloc w3 (.cells #[.int .i64 xr, .int .i64 xk, .int .i64 xi, .int .i64 xw, .int .i64 xs] 95))
                  have hnews := news_new w3 (hdC ⟨xr, xk, xi, xw, xs⟩) 95
                  obtain ⟨Fp, hFp⟩ := hH2.head
                  have hown := hFp.1
                  go_wp2_with (at_builtin; refine wpList_append_new rfl _ _ 63 rfl 95 i0 (.agg (hdA zeroH)) 5 40 Try.underlying63 hi0 hi1 hi2 hi3 rfl (by decide) _ _ _ rfl hown _ 1 1 (hdC ⟨xr, xk, xi, xw, xs⟩) rfl rfl (fun h => by cases h) hnews (hdC_one _) (by unfold maxLen; omega) (by omega) ?_)
                  intro v4 w4 hown4 hg4 hf4
                  have hH5 := hH2.next (by repeat first | exact Locs.nil | refine Locs.cons (mP_loc _ _) ?_ | refine Locs.cons (blkA_loc _ _ _) ?_ | refine Locs.cons (rowA_loc _ _ _ _ _) ?_) fun F hF => Next.mk (p' := rowA 95 5 v4 (LA + 1) (flatH A ++ hdC ⟨xr, xk, xi, xw, xs⟩)) ⟨hown4, rfl⟩ (by rw [hF.2]; exact grownBy.tch hg4) (by rw [hF.2]; exact hf4.1)
                  clear hH2 hH3 hlok hFp hown hown4 hg4 hf4 hnews hbt c0 c1 c2 c3 c4
                  go_wp2_with fail
                  refine ⟨⟨pre ++ [⟨xr, xk, xi, xw, xs⟩], post, by rw [HX.out]; simp, by simp, by rw [HTF.out], ?_⟩, by simp [intOf]; omega⟩
                  rw [HTF.out]
                  simp only [flatH_append, List.length_append, HLA.out, HLB.out]
                  simpa [flatH] using hH5
                | false =>
                  have HST : Hid (stays ((j : Int) + 1) worker now ⟨xr, xk, xi, xw, xs⟩ = false) := Lib.hid (by unfold stays; rw [hq, e3, hdd]; rfl)
                  by_cases hn : (n : Int) < 128
                  · have HTF : Hid (tfold ((j : Int) + 1) worker now lost n0 (pre ++ [⟨xr, xk, xi, xw, xs⟩]) = (A, B ++ [⟨xr, xk, xi, 0, now⟩], n + 1)) := Lib.hid (by rw [tfold_snoc, HS.out, tstep, if_neg (by rw [HST.out]; decide), if_pos (show n < 128 by omega)])
                    have hH3 := hlok.swap
                    clear hlok
                    have hH2 := hH3.ext (by repeat first | exact Locs.nil | refine Locs.cons (mP_loc _ _) ?_ | refine Locs.cons (blkA_loc _ _ _) ?_ | refine Locs.cons (rowA_loc _ _ _ _ _) ?_) (ext_alloc w3 (.cells #[.int .i64 xr, .int .i64 xk, .int .i64 xi, .int .i64 0, .int .i64 now] 95))
                    have hnews := news_new w3 (hdC ⟨xr, xk, xi, 0, now⟩) 95
                    obtain ⟨Fp, hFp⟩ := hH2.head
                    have hown := hFp.1
                    go_wp2_with (at_builtin; refine wpList_append_new rfl _ _ 63 rfl 95 i0 (.agg (hdA zeroH)) 5 40 Try.underlying63 hi0 hi1 hi2 hi3 rfl (by decide) _ _ _ rfl hown _ 1 1 (hdC ⟨xr, xk, xi, 0, now⟩) rfl rfl (fun h => by cases h) hnews (hdC_one _) (by unfold maxLen; omega) (by omega) ?_)
                    intro v4 w4 hown4 hg4 hf4
                    have hH5 := (hH2.next (by repeat first | exact Locs.nil | refine Locs.cons (mP_loc _ _) ?_ | refine Locs.cons (blkA_loc _ _ _) ?_ | refine Locs.cons (rowA_loc _ _ _ _ _) ?_) fun F hF => Next.mk (p' := rowA 95 5 v4 (LB + 1) (flatH B ++ hdC ⟨xr, xk, xi, 0, now⟩)) ⟨hown4, rfl⟩ (by rw [hF.2]; exact grownBy.tch hg4) (by rw [hF.2]; exact hf4.1)).swap
                    clear hH2 hH3 hFp hown hown4 hg4 hf4 hnews hbt c0 c1 c2 c3 c4
                    go_wp2_with fail
                    refine ⟨⟨pre ++ [⟨xr, xk, xi, xw, xs⟩], post, by rw [HX.out]; simp, by simp, by rw [HTF.out]; go_num, ?_⟩, by simp [intOf]; omega⟩
                    rw [HTF.out]
                    simp only [flatH_append, List.length_append, HLA.out, HLB.out]
                    simpa [flatH] using hH5
                  · cases lost with
                    | false =>
                      have HTF : Hid (tfold ((j : Int) + 1) worker now false n0 (pre ++ [⟨xr, xk, xi, xw, xs⟩]) = (A ++ [⟨xr, xk, xi, xw, xs⟩], B, n)) := Lib.hid (by rw [tfold_snoc, HS.out, tstep, if_neg (by rw [HST.out]; decide), if_neg (show ¬ n < 128 by omega), if_pos rfl])
                      have hH3 := hlok
                      have hH2 := hH3.ext (by repeat first | exact Locs.nil | refine Locs.cons (mP_loc _ _) ?_ | refine Locs.cons (blkA_loc _ _ _) ?_ | refine Locs.cons (rowA_loc _ _ _ _ _) ?_) (ext_alloc w3 (.cells #[.int .i64 xr, .int .i64 xk, .int .i64 xi, .int .i64 xw, .int .i64 xs] 95))
                      have hnews := news_new w3 (hdC ⟨xr, xk, xi, xw, xs⟩) 95
                      obtain ⟨Fp, hFp⟩ := hH2.head
                      have hown := hFp.1
                      go_wp2_with (at_builtin; refine wpList_append_new rfl _ _ 63 rfl 95 i0 (.agg (hdA zeroH)) 5 40 Try.underlying63 hi0 hi1 hi2 hi3 rfl (by decide) _ _ _ rfl hown _ 1 1 (hdC ⟨xr, xk, xi, xw, xs⟩) rfl rfl (fun h => by cases h) hnews (hdC_one _) (by unfold maxLen; omega) (by omega) ?_)
                      intro v4 w4 hown4 hg4 hf4
                      have hH5 := hH2.next (by repeat first | exact Locs.nil | refine Locs.cons (mP_loc _ _) ?_ | refine Locs.cons (blkA_loc _ _ _) ?_ | refine Locs.cons (rowA_loc _ _ _ _ _) ?_) fun F hF => Next.mk (p' := rowA 95 5 v4 (LA + 1) (flatH A ++ hdC ⟨xr, xk, xi, xw, xs⟩)) ⟨hown4, rfl⟩ (by rw [hF.2]; exact grownBy.tch hg4) (by rw [hF.2]; exact hf4.1)
                      clear hH2 hH3 hlok hFp hown hown4 hg4 hf4 hnews hbt c0 c1 c2 c3 c4
                      go_wp2_with fail
                      refine ⟨⟨pre ++ [⟨xr, xk, xi, xw, xs⟩], post, by rw [HX.out]; simp, by simp, by rw [HTF.out], ?_⟩, by simp [intOf]; omega⟩
                      rw [HTF.out]
                      simp only [flatH_append, List.length_append, HLA.out, HLB.out]
                      simpa [flatH] using hH5
                    | true =>
                      have HTF : Hid (tfold ((j : Int) + 1) worker now true n0 (pre ++ [⟨xr, xk, xi, xw, xs⟩]) = (A, B, n)) := Lib.hid (by rw [tfold_snoc, HS.out, tstep, if_neg (by rw [HST.out]; decide), if_neg (show ¬ n < 128 by omega), if_neg (by decide)])
                      go_wp2_with fail
                      refine ⟨⟨pre ++ [⟨xr, xk, xi, xw, xs⟩], post, by rw [HX.out]; simp, by simp, by rw [HTF.out], ?_⟩, by simp [intOf]; omega⟩
                      rw [HTF.out]
                      simp only [HLA.out, HLB.out]
                      exact hlok
        · have hw2 : worker = (j : Int) + 1 := by
            by_cases h : worker = (j : Int) + 1
            · exact h
            · exact absurd ⟨hw1, h⟩ hw0
          have e1 : (worker != 0) = true := by simpa using hw1
          have e2 : (worker != (j : Int) + 1) = false := by simpa using hw2
          have e3 : (worker == 0) = false := by simpa using hw1
          clear hw0 hw1 hw2
          obtain ⟨Q, hQ⟩ : ∃ n, ws1.length = n := ⟨_, rfl⟩
          rw [hQ] at hT hlen
          have HQ := Lib.hid hQ
          clear hQ
          have a0 : wr.cell? ⟨bx, 0, none⟩ = some (.slice pv Q cv) := hT.b.cell 0
          have a1 : wr.cell? ⟨bx, 1, none⟩ = some (.slice pl L cl) := hT.b.cell 1
          have a2 : wr.cell? ⟨bx, 2, none⟩ = some (.int .u64 t) := hT.b.cell 2
          go_wp2_with fail
          refine (rcount_any wr (.slice pv Q cv) (.slice pl L cl) t ws1 ls 0 ⟨hT.r, by have := (hR.ext hT.e).l; exact this⟩ (by rw [HQ.out]; omega)).mono ?_
          clear a0 a1 a2
          rintro e w2 ⟨rfl, hE2⟩
          replace hT := hT.ext hE2
          clear hE2
          obtain ⟨n0, hn0⟩ : ∃ n, rcount ws1 0 = n := ⟨_, rfl⟩
          have hnQ : n0 ≤ Q := by rw [← hn0, ← HQ.out]; exact List.countP_le_length
          have HN0 := Lib.hid hn0
          rw [hn0]
          clear hn0
          have hH0 := Has.two_nilH w2
          have a0 : w2.cell? ⟨bx, 0, none⟩ = some (.slice pv Q cv) := hT.b.cell 0
          go_wp2_with fail
          clear a0
          go_loopw [10, 11, 12, 31] (fun v10 v11 v12 v31 wr => TiRel w2 ws1 ((j : Int) + 1) worker now lost n0 v10 v11 v12 v31 wr) (fun _ _ _ v31 _ => ((Q : Int) + 1 - intOf v31).toNat)
          case atStart => exact ⟨[], ws1, rfl, rfl, rfl, hH0⟩
          case round =>
            clear hH0
            obtain ⟨pre, post, hx, rfl, rfl, hH⟩ := hrel
            have hbd := tfold_len ((j : Int) + 1) worker now lost n0 pre
            have hpq : pre.length ≤ Q := by rw [← HQ.out, hx]; simp
            obtain ⟨⟨A, B, n⟩, hS⟩ : ∃ s, tfold ((j : Int) + 1) worker now lost n0 pre = s := ⟨_, rfl⟩
            rw [hS] at hH hbd ⊢
            have HS := Lib.hid hS
            clear hS
            obtain ⟨hbd1, hbd2⟩ := hbd
            obtain ⟨LA, hLA⟩ : ∃ n, A.length = n := ⟨_, rfl⟩
            obtain ⟨LB, hLB⟩ : ∃ n, B.length = n := ⟨_, rfl⟩
            replace hbd1 : A.length + B.length ≤ pre.length := hbd1
            replace hbd2 : n ≤ n0 + pre.length := hbd2
            replace hH : Has w2 wr [rowA 95 5 u10 A.length (flatH A), rowA 95 5 u11 B.length (flatH B)] := hH
            rw [hLA, hLB] at hH hbd1
            have HLA := Lib.hid hLA
            have HLB := Lib.hid hLB
            clear hLA hLB
            try simp only
            cases post with
            | nil =>
              obtain rfl : ws1 = pre := by simpa using hx
              have hl2 : ¬ ((ws1.length : Int) < Q) := by rw [← HQ.out]; omega
              clear hx
              obtain ⟨ow1, -⟩ := hH.owned (e := 95) (size := 5) (v := u10) (n := LA) (xs := flatH A) (by simp)
              obtain ⟨ow2, -⟩ := hH.owned (e := 95) (size := 5) (v := u11) (n := LB) (xs := flatH B) (by simp)
              obtain ⟨p11, d11, rfl⟩ := ownsRow_slice ow2
              have hlB := flatH_length B
              rw [HLB.out] at hlB
              have hnil := row_nil ow2
              have hnews := row_news ow2
              have HNIL := Lib.hid hnil
              have HNEWS := Lib.hid hnews
              have hbw := hT.ext hH.base
              have a0 : wr.cell? ⟨bx, 0, none⟩ = some (.slice pv Q cv) := hbw.b.cell 0
              clear hnil hnews
              go_wp2_with (at_builtin; refine wpList_append_new rfl _ _ 63 rfl 95 i0 (.agg (hdA zeroH)) 5 40 Try.underlying63 hi0 hi1 hi2 hi3 rfl (by decide) _ _ _ rfl ow1 p11 LB d11 (flatH B) rfl hlB HNIL.out HNEWS.out flatH_one (by unfold maxLen; omega) (by omega) ?_)
              intro v4 w4 hown4 hg4 hf4
              have hH5 := hH.next (by repeat first | exact Locs.nil | refine Locs.cons (mP_loc _ _) ?_ | refine Locs.cons (blkA_loc _ _ _) ?_ | refine Locs.cons (rowA_loc _ _ _ _ _) ?_) fun F hF => Next.mk (p' := rowA 95 5 v4 (LA + LB) (flatH A ++ flatH B)) ⟨hown4, rfl⟩ (by rw [hF.2]; exact grownBy.tch hg4) (by rw [hF.2]; exact hf4.1)
              obtain ⟨p4, d4, rfl⟩ := ownsRow_slice hown4
              have hlo := (hH5.owned (e := 95) (size := 5) (v := .slice p4 (LA + LB) d4) (n := LA + LB) (xs := flatH A ++ flatH B) (by simp)).2
              have hT4 := hT.ext hH5.base
              have hbl := hT.b.lt
              have hbl8 := hT.b8.lt
              have hle := hT.e.le
              have a0 : w4.cell? ⟨bx, 0, none⟩ = some (.slice pv Q cv) := hT4.b.cell 0
              have fz : w4.frozen? ⟨bx, 0, none⟩ = false := hT4.b.frozen 0
              have hlt := hT4.b.lt
              clear ow1 ow2 hH hH5 hg4 hf4 HNIL HNEWS hbw
              go_wp2_with fail
              refine ⟨⟨j + 1, .slice p4 (LA + LB) d4, by omega, by go_num, ?_⟩, by simp [intOf]; omega⟩
              rw [HR1.out, turnK, HN0.out, HS.out]
              have hlo' : ∀ g, (Value.slice p4 (LA + LB) d4).ownBlock = some g → g ≠ bx ∧ g ≠ bx + 1 ∧ W.heap.size ≤ g := fun g hg => by
                have := hlo g hg
                exact ⟨by omega, by omega, by omega⟩
              refine ⟨hT4.e.setCell (show W.heap.size ≤ bx by have := HBX.out; omega) _, hT4.b.set_ 0 _, hT4.b8.of_eq (Below.heap_setCell _ _ _ _ (show bx + 1 ≠ bx by omega)), ?_, fun g hg => ⟨(hlo' g hg).1, (hlo' g hg).2.1, Or.inr (hlo' g hg).2.2⟩⟩
              refine ownsRow_setCell_other ?_ (a := ⟨bx, 0, none⟩) (fun h9 => (hlo' bx h9).1 rfl) _
              rw [flatH_append, List.length_append]
              show w4.ownsRow 0 95 5 (.slice p4 (LA + LB) d4) (A.length + B.length) (flatH A ++ flatH B)
              rw [HLA.out, HLB.out]
              exact hown4
            | cons x post =>
              have hl2 : (pre.length : Int) < Q := by rw [← HQ.out, hx]; simp; omega
              have hxs := hsin x (by rw [hx]; simp)
              have hrw := (hT.ext hH.base).r
              rw [HQ.out, hx] at hrw
              obtain ⟨g, hpe, -, hg, x0, x1, x2, x3, x4⟩ := held_at (by rw [← HQ.out, hx]) hrw
              subst hpe
              have HX := Lib.hid hx
              clear hx hrw
              obtain ⟨xr, xk, xi, xw, xs⟩ := x
              replace hxs : 0 ≤ xs ∧ xs ≤ now := hxs
              have hlok := hH.ext (by repeat first | exact Locs.nil | refine Locs.cons (mP_loc _ _) ?_ | refine Locs.cons (blkA_loc _ _ _) ?_ | refine Locs.cons (rowA_loc _ _ _ _ _) ?_) (ext_alloc wr (.cells #[.int .i64 xr, .int .i64 xk, .int .i64 xi, .int .i64 xw, .int .i64 xs] 95))
              have hbt := Blk.new wr 95 #[.int .i64 xr, .int .i64 xk, .int .i64 xi, .int .i64 xw, .int .i64 xs]
              go_upto_region 10 with fail
              generalize hw_ : World.alloc wr _ = w3 at *
              generalize wr.heap.size = bt at *
              clear hw_ hH x0 x1 x2 x3 x4
              have c0 : w3.cell? ⟨bt, 0, none⟩ = some (.int .i64 xr) := hbt.cell 0
              have c1 : w3.cell? ⟨bt, 1, none⟩ = some (.int .i64 xk) := hbt.cell 1
              have c2 : w3.cell? ⟨bt, 2, none⟩ = some (.int .i64 xi) := hbt.cell 2
              have c3 : w3.cell? ⟨bt, 3, none⟩ = some (.int .i64 xw) := hbt.cell 3
              have c4 : w3.cell? ⟨bt, 4, none⟩ = some (.int .i64 xs) := hbt.cell 4
              obtain ⟨q, hq⟩ : ∃ b, (xw != (j : Int) + 1) = b := ⟨_, rfl⟩
              cases q with
              | true =>
                have HST : Hid (stays ((j : Int) + 1) worker now ⟨xr, xk, xi, xw, xs⟩ = true) := Lib.hid (by unfold stays; rw [hq]; rfl)
                have HTF : Hid (tfold ((j : Int) + 1) worker now lost n0 (pre ++ [⟨xr, xk, xi, xw, xs⟩]) = (A ++ [⟨xr, xk, xi, xw, xs⟩], B, n)) := Lib.hid (by rw [tfold_snoc, HS.out, tstep, if_pos HST.out])
                have hH3 := hlok
                have hH2 := hH3.ext (by repeat first | exact Locs.nil | refine Locs.cons (mP_loc _ _) ?_ | refine Locs.cons (blkA_loc _ _ _) ?_ | refine Locs.cons (rowA_loc _ _ _ _ _) ?_) (ext_alloc w3 (.cells #[.int .i64 xr, .int .i64 xk, .int .i64 xi, .int .i64 xw, .int .i64 xs] 95))
                have hnews := news_new w3 (hdC ⟨xr, xk, xi, xw, xs⟩) 95
                obtain ⟨Fp, hFp⟩ := hH2.head
                have hown := hFp.1
                go_wp2_with (at_builtin; refine wpList_append_new rfl _ _ 63 rfl 95 i0 (.agg (hdA zeroH)) 5 40 Try.underlying63 hi0 hi1 hi2 hi3 rfl (by decide) _ _ _ rfl hown _ 1 1 (hdC ⟨xr, xk, xi, xw, xs⟩) rfl rfl (fun h => by cases h) hnews (hdC_one _) (by unfold maxLen; omega) (by omega) ?_)
                intro v4 w4 hown4 hg4 hf4
                have hH5 := hH2.next (by repeat first | exact Locs.nil | refine Locs.cons (mP_loc _ _) ?_ | refine Locs.cons (blkA_loc _ _ _) ?_ | refine Locs.cons (rowA_loc _ _ _ _ _) ?_) fun F hF => Next.mk (p' := rowA 95 5 v4 (LA + 1) (flatH A ++ hdC ⟨xr, xk, xi, xw, xs⟩)) ⟨hown4, rfl⟩ (by rw [hF.2]; exact grownBy.tch hg4) (by rw [hF.2]; exact hf4.1)
                clear hH2 hH3 hlok hFp hown hown4 hg4 hf4 hnews hbt c0 c1 c2 c3 c4
                go_wp2_with fail
                refine ⟨⟨pre ++ [⟨xr, xk, xi, xw, xs⟩], post, by rw [HX.out]; simp, by simp, by rw [HTF.out], ?_⟩, by simp [intOf]; omega⟩
                rw [HTF.out]
                simp only [flatH_append, List.length_append, HLA.out, HLB.out]
                simpa [flatH] using hH5
              | false =>
                have HST : Hid (stays ((j : Int) + 1) worker now ⟨xr, xk, xi, xw, xs⟩ = false) := Lib.hid (by unfold stays; rw [hq, e3]; rfl)
                by_cases hn : (n : Int) < 128
                · have HTF : Hid (tfold ((j : Int) + 1) worker now lost n0 (pre ++ [⟨xr, xk, xi, xw, xs⟩]) = (A, B ++ [⟨xr, xk, xi, 0, now⟩], n + 1)) := Lib.hid (by rw [tfold_snoc, HS.out, tstep, if_neg (by rw [HST.out]; decide), if_pos (show n < 128 by omega)])
                  have hH3 := hlok.swap
                  clear hlok
                  have hH2 := hH3.ext (by repeat first | exact Locs.nil | refine Locs.cons (mP_loc _ _) ?_ | refine Locs.cons (blkA_loc _ _ _) ?_ | refine Locs.cons (rowA_loc _ _ _ _ _) ?_) (ext_alloc w3 (.cells #[.int .i64 xr, .int .i64 xk, .int .i64 xi, .int .i64 0, .int .i64 now] 95))
                  have hnews := news_new w3 (hdC ⟨xr, xk, xi, 0, now⟩) 95
                  obtain ⟨Fp, hFp⟩ := hH2.head
                  have hown := hFp.1
                  go_wp2_with (at_builtin; refine wpList_append_new rfl _ _ 63 rfl 95 i0 (.agg (hdA zeroH)) 5 40 Try.underlying63 hi0 hi1 hi2 hi3 rfl (by decide) _ _ _ rfl hown _ 1 1 (hdC ⟨xr, xk, xi, 0, now⟩) rfl rfl (fun h => by cases h) hnews (hdC_one _) (by unfold maxLen; omega) (by omega) ?_)
                  intro v4 w4 hown4 hg4 hf4
                  have hH5 := (hH2.next (by repeat first | exact Locs.nil | refine Locs.cons (mP_loc _ _) ?_ | refine Locs.cons (blkA_loc _ _ _) ?_ | refine Locs.cons (rowA_loc _ _ _ _ _) ?_) fun F hF => Next.mk (p' := rowA 95 5 v4 (LB + 1) (flatH B ++ hdC ⟨xr, xk, xi, 0, now⟩)) ⟨hown4, rfl⟩ (by rw [hF.2]; exact grownBy.tch hg4) (by rw [hF.2]; exact hf4.1)).swap
                  clear hH2 hH3 hFp hown hown4 hg4 hf4 hnews hbt c0 c1 c2 c3 c4
                  go_wp2_with fail
                  refine ⟨⟨pre ++ [⟨xr, xk, xi, xw, xs⟩], post, by rw [HX.out]; simp, by simp, by rw [HTF.out]; go_num, ?_⟩, by simp [intOf]; omega⟩
                  rw [HTF.out]
                  simp only [flatH_append, List.length_append, HLA.out, HLB.out]
                  simpa [flatH] using hH5
                · cases lost with
                  | false =>
                    have HTF : Hid (tfold ((j : Int) + 1) worker now false n0 (pre ++ [⟨xr, xk, xi, xw, xs⟩]) = (A ++ [⟨xr, xk, xi, xw, xs⟩], B, n)) := Lib.hid (by rw [tfold_snoc, HS.out, tstep, if_neg (by rw [HST.out]; decide), if_neg (show ¬ n < 128 by omega), if_pos rfl])
                    have hH3 := hlok
                    have hH2 := hH3.ext (by repeat first | exact Locs.nil | refine Locs.cons (mP_loc _ _) ?_ | refine Locs.cons (blkA_loc _ _ _) ?_ | refine Locs.cons (rowA_loc _ _ _ _ _) ?_) (ext_alloc w3 (.cells #[.int .i64 xr, .int .i64 xk, .int .i64 xi, .int .i64 xw, .int .i64 xs] 95))
                    have hnews := news_new w3 (hdC ⟨xr, xk, xi, xw, xs⟩) 95
                    obtain ⟨Fp, hFp⟩ := hH2.head
                    have hown := hFp.1
                    go_wp2_with (at_builtin; refine wpList_append_new rfl _ _ 63 rfl 95 i0 (.agg (hdA zeroH)) 5 40 Try.underlying63 hi0 hi1 hi2 hi3 rfl (by decide) _ _ _ rfl hown _ 1 1 (hdC ⟨xr, xk, xi, xw, xs⟩) rfl rfl (fun h => by cases h) hnews (hdC_one _) (by unfold maxLen; omega) (by omega) ?_)
                    intro v4 w4 hown4 hg4 hf4
                    have hH5 := hH2.next (by repeat first | exact Locs.nil | refine Locs.cons (mP_loc _ _) ?_ | refine Locs.cons (blkA_loc _ _ _) ?_ | refine Locs.cons (rowA_loc _ _ _ _ _) ?_) fun F hF => Next.mk (p' := rowA 95 5 v4 (LA + 1) (flatH A ++ hdC ⟨xr, xk, xi, xw, xs⟩)) ⟨hown4, rfl⟩ (by rw [hF.2]; exact grownBy.tch hg4) (by rw [hF.2]; exact hf4.1)
                    clear hH2 hH3 hlok hFp hown hown4 hg4 hf4 hnews hbt c0 c1 c2 c3 c4
                    go_wp2_with fail
                    refine ⟨⟨pre ++ [⟨xr, xk, xi, xw, xs⟩], post, by rw [HX.out]; simp, by simp, by rw [HTF.out], ?_⟩, by simp [intOf]; omega⟩
                    rw [HTF.out]
                    simp only [flatH_append, List.length_append, HLA.out, HLB.out]
                    simpa [flatH] using hH5
                  | true =>
                    have HTF : Hid (tfold ((j : Int) + 1) worker now true n0 (pre ++ [⟨xr, xk, xi, xw, xs⟩]) = (A, B, n)) := Lib.hid (by rw [tfold_snoc, HS.out, tstep, if_neg (by rw [HST.out]; decide), if_neg (show ¬ n < 128 by omega), if_neg (by decide)])
                    go_wp2_with fail
                    refine ⟨⟨pre ++ [⟨xr, xk, xi, xw, xs⟩], post, by rw [HX.out]; simp, by simp, by rw [HTF.out], ?_⟩, by simp [intOf]; omega⟩
                    rw [HTF.out]
                    simp only [HLA.out, HLB.out]
                    exact hlok
    · have hj64 : j = 64 := by omega
      have hT64 : TW W bx (.slice pw K cw) (.slice pl L cl) t (rturn worker now lost ws 64) (.slice pv (rturn worker now lost ws j).length cv) wr := by rw [← hj64]; exact hT
      clear hT
      obtain ⟨Q, hQ⟩ : ∃ n, (rturn worker now lost ws j).length = n := ⟨_, rfl⟩
      rw [hQ] at hT64
      clear hQ hlen hsin
      have a0 : wr.cell? ⟨bx, 0, none⟩ = some (.slice pv Q cv) := hT64.b.cell 0
      have a1 : wr.cell? ⟨bx, 1, none⟩ = some (.slice pl L cl) := hT64.b.cell 1
      have a2 : wr.cell? ⟨bx, 2, none⟩ = some (.int .u64 t) := hT64.b.cell 2
      have hb8 := hT64.b8
      have hbr := setRow_blk (cs := rwA (.slice pv Q cv) (.slice pl L cl) t) hb8
      go_wp2_with (refine wpList_store_row rfl _ _ _ rfl (bx + 1) (rwA (.slice pv Q cv) (.slice pl L cl) t) rfl rfl _ _ hb8 rwInfo rfl (rwA_all _ _ _ _ _ _ _) ?_)
      have hEf := setRow_ext' (cs := rwA (.slice pv Q cv) (.slice pl L cl) t) hT64.e (show W.heap.size ≤ bx + 1 by have := HBX.out; omega)
      refine bodyPost_ret (v := rwV (.slice pv Q cv) (.slice pl L cl) t) (results_cell1 Try.results19 _ _ (bx + 1) 65 (rwA (.slice pv Q cv) (.slice pl L cl) t) _ _ rfl hbr Try.underlying65 rfl rwInfo) rfl ?_
      refine ⟨_, rfl, ⟨ownsRow_same hT64.r fun g hg => setRow_other _ _ _ _ (hT64.f g hg).2.1, (hR.ext hEf).l⟩, hEf, fun g hg => ?_⟩
      rcases (hT64.f g hg).2.2 with h1 | h1
      · exact Or.inl h1
      · exact Or.inr (Or.inr h1)
end Go.Proofs.Ytfbolgdecdfnaaa
