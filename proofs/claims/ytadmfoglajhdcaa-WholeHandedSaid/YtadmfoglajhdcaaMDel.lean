/- The walks of slices.Clone and slices.DeleteFunc at leases; of a match's Done and Leases. -/
import Derived.Test.YtadmfoglajhdcaaLRow
import Derived.WalkSpells
namespace Go.Proofs.Ytadmfoglajhdcaa
set_option maxRecDepth 4000
set_option linter.unusedVariables false
set_option linter.unusedSimpArgs false
open Go Go.RowKit Go.Maps Go.ChangeMaps Go.MapKept
theorem eqNil : ∀ (w : World) (a : Option Addr) (n c n' c' : Nat), (binOp .eql 39 (.slice a n c) (.slice none n' c')).run Try.prog w = .ok (.bool a.isNone) w :=
  fun w a n c n' c' => Lib.run_eql_slice_nil w _ _ a n c n' c' Try.underlying39
def Cloned (W : World) (L : Nat) (ls : List Ls) (e : Ending) (W' : World) : Prop := ∃ v, e = .returned v ∧ W'.ownsRow 0 56 6 v L (flatL ls) ∧ (∀ b, v.ownBlock = some b → W.heap.size ≤ b) ∧ Ext W W'
set_option maxRecDepth 100000 in
theorem clone_any (W : World) (pv : Option Addr) (L cv : Nat) (ls : List Ls) (hL : Hid (L = ls.length)) (hb : (L : Int) ≤ 1000) (hown : W.ownsRow 0 56 6 (.slice pv L cv) L (flatL ls)) :
    Calls Try.prog 23 #[.slice pv L cv] W fun e W' => Cloned W L ls e W' := by
  have hq := eqNil
  have hnil := row_nil hown
  go_enter Try.func23, Try.ntmps23
  cases pv with
  | none =>
    obtain ⟨rfl, rfl⟩ := hnil rfl
    have hx : ls = [] := List.length_eq_zero_iff.1 hL.out.symm
    subst hx
    go_wp2_with fail
    go_ret
    exact ⟨_, rfl, World.ownsRow_nil _ _ _ _, fun b hb => by simp [Value.ownBlock] at hb, Ext.refl _⟩
  | some a =>
    clear hnil
    obtain ⟨i0, hi0, hi1, hi2, hi3⟩ := info_parts6 lsInfo
    have hlit := World.ownsRow_made (base := 0) (e := 56) (size := 6) W #[] 0 (Nat.zero_le _) (by simp) rfl
    have hE := ext_alloc W (.cells #[] 56)
    have hnews := row_news (ownsRow_ext hown hE)
    go_wp2_with (at_builtin; refine wpList_append_new rfl _ _ 39 rfl 56 i0 (.agg (lsA zeroL)) 6 48 Try.underlying39 hi0 hi1 hi2 hi3 rfl (by decide) (.slice (some ⟨W.heap.size, 0, none⟩) 0 0) 0 [] rfl hlit (some a) L cv (flatL ls) rfl (by rw [flatL_length, hL.out]) (fun h => by cases h) hnews flatL_one (by unfold maxLen; omega) (by omega) ?_)
    intro v9 w9 hown9 hg9 hf9
    have hlb : ∀ k, (Value.slice (some ⟨W.heap.size, 0, none⟩) 0 0).ownBlock = some k → W.heap.size ≤ k := fun k hk => Nat.le_of_eq (by simpa [Value.ownBlock] using hk)
    obtain ⟨hE9, hb9⟩ := fresh_ext hE hlb hg9 hf9
    go_wp2_with fail
    go_ret
    exact ⟨_, rfl, by simpa using hown9, hb9, hE9⟩
theorem doneF_any (W : World) (b : Nat) (t : Int) (l : Ls) (h : W.cell? ⟨b, 0, none⟩ = some (.int .u64 t)) :
    Calls Try.prog 35 #[lsV l, .pointer (some ⟨b, 0, none⟩)] W fun e W' => e = .returned (.bool (l.tok == t)) ∧ Ext W W' := by
  have hlt := World.block_lt_of_cell? W _ h
  unfold lsV
  go_enter Try.func35, Try.ntmps35
  go_wp2
  all_goals
    go_ret
    refine ⟨?_, ext_alloc _ _⟩
    first | rfl | simp_all
set_option maxRecDepth 100000 in
theorem idxDone_any (W : World) (pv : Option Addr) (L cv b : Nat) (ls : List Ls) (t : Int) (hL : Hid (L = ls.length)) (hb : (L : Int) ≤ 1000) (hown : W.ownsRow 0 56 6 (.slice pv L cv) L (flatL ls)) (h : W.cell? ⟨b, 0, none⟩ = some (.int .u64 t)) :
    Calls Try.prog 31 #[.slice pv L cv, .func (.func 35) #[] #[.pointer (some ⟨b, 0, none⟩)]] W fun e W' => e = .returned (.int .i64 (firstAt (fun l => l.tok == t) ls)) ∧ Ext W W' := by
    go_enter Try.func31, Try.ntmps31
    go_wp2_with fail
    go_loopw [8] (fun v wr => IxRel W L (.slice pv L cv) ls ((fun l => l.tok == t)) v wr) (fun v _ => ((L : Int) + 1 - intOf v).toNat)
    case atStart => exact ⟨[], ls, rfl, rfl, by simp, Ext.refl _⟩
    case round =>
      obtain ⟨pre, post, hx, rfl, hno, hE⟩ := hrel
      have hlen := hL.out
      cases post with
      | nil =>
        have hx' : ls = pre := by simpa using hx
        subst hx'
        have HN := Lib.hid hno
        have hl2 : ¬ ((ls.length : Int) < L) := by omega
        clear hno hx hlen
        go_wp2_with fail
        go_ret
        exact ⟨by rw [firstAt_none HN.out]; rfl, hE⟩
      | cons l post =>
        subst hx
        have hl : (pre.length : Int) < L := by rw [hlen]; simp; omega
        have hown' := ownsRow_ext hown hE
        obtain ⟨g, rfl, -, hg, x0, x1, x2, x3, x4, x5⟩ := lease_at hlen hown'
        have HN := Lib.hid hno
        have HL := Lib.hid hlen
        clear hno hlen hown'
        obtain ⟨pl, hpl⟩ : ∃ b, (l.tok == t) = b := ⟨_, rfl⟩
        have HB := Lib.hid hpl
        have hcl := doneF_any wr b t l ((hE.cell _ _ (World.block_lt_of_cell? W _ h)).trans h)
        rw [hpl] at hcl
        unfold lsV at hcl
        clear hpl
        go_wp2_with fail
        refine hcl.mono ?_
        rintro e w1 ⟨rfl, hE1⟩
        clear x0 x1 x2 x3 x4 x5 hcl
        cases pl with
        | true =>
          go_wp2_with fail
          go_ret
          exact ⟨by rw [firstAt_some HN.out HB.out]; rfl, hE.trans hE1⟩
        | false =>
          go_wp2_with fail
          refine ⟨⟨pre ++ [l], post, by simp, by simp, ?_, hE.trans hE1⟩, by have := HL.out; simp [intOf] at *; omega⟩
          intro x hx
          rcases List.mem_append.1 hx with h | h
          · exact HN.out x h
          · simp at h; subst h; exact HB.out
def keepL (p : Ls → Bool) (ls : List Ls) : List Ls := ls.filter fun l => !p l
def Cutted6 (W : World) (p : Ls → Bool) (ls : List Ls) (S : Nat → Prop) (e : Ending) (W' : World) : Prop :=
  ∃ v, e = .returned v ∧ W'.ownsRow 0 56 6 v (keepL p ls).length (flatL (keepL p ls)) ∧ (∀ b, v.ownBlock = some b → S b) ∧ Tch S W W'
theorem firstAt_split {p : Ls → Bool} {ls : List Ls} : (firstAt p ls = -1 ∧ keepL p ls = ls) ∨ ∃ a l b, ls = a ++ l :: b ∧ firstAt p ls = a.length ∧ keepL p (a ++ [l]) = a ∧ keepL p a = a := by
  induction ls with
  | nil => exact Or.inl ⟨rfl, rfl⟩
  | cons x ls ih =>
    cases hx : p x with
    | true => exact Or.inr ⟨[], x, ls, rfl, by simp [firstAt, List.findIdx?_cons, hx], by simp [keepL, hx], rfl⟩
    | false =>
      have hf : firstAt p (x :: ls) = if firstAt p ls = -1 then -1 else firstAt p ls + 1 := by
        unfold firstAt
        rw [List.findIdx?_cons, hx]
        cases ls.findIdx? p with
        | none => simp
        | some i => simp
      rcases ih with ⟨h1, h2⟩ | ⟨a, l, b, rfl, h1, h2, h3⟩
      · left
        refine ⟨by rw [hf, h1]; rfl, ?_⟩
        unfold keepL at h2 ⊢
        rw [List.filter_cons, hx]; simp [h2]
      · right
        refine ⟨x :: a, l, b, rfl, by rw [hf, h1, if_neg (by omega)]; simp, ?_, ?_⟩
        · unfold keepL at h2 ⊢
          rw [List.cons_append, List.filter_cons, hx]; simpa using h2
        · unfold keepL at h3 ⊢
          rw [List.filter_cons, hx]; simpa using h3
def DFRel (w : World) (g c : Nat) (ls : List Ls) (p : Ls → Bool) (vi vj : Value) (wr : World) : Prop :=
  ∃ pre post rest, ls = pre ++ post ∧ vj = .int .i64 pre.length ∧ vi = .int .i64 (keepL p pre).length ∧ rest ≠ [] ∧ (keepL p pre).length + rest.length = pre.length ∧ LRow wr g c (keepL p pre ++ (rest ++ post)) ∧ Tch (fun k => k = g) w wr


/-- a cell that a closure has caught -/
structure Caught (W : World) (bx : Nat) (v : Value) : Prop where
  c : W.cell? ⟨bx, 0, none⟩ = some v
theorem Caught.of {W w : World} {bx : Nat} {v : Value} (h : Caught W bx v) (hE : Ext W w) : w.cell? ⟨bx, 0, none⟩ = some v := (hE.cell _ _ (World.block_lt_of_cell? W _ h.c)).trans h.c
set_option maxRecDepth 100000 in
set_option maxHeartbeats 4000000 in
theorem delDone_any (W : World) (pv : Option Addr) (L cv bx : Nat) (ls : List Ls) (t : Int) (hL : Hid (L = ls.length)) (hb : (L : Int) ≤ 1000) (hown : W.ownsRow 0 56 6 (.slice pv L cv) L (flatL ls)) (h : Caught W bx (.int .u64 t)) (hgn : ∀ g, pv = some ⟨g, 0, none⟩ → g ≠ bx) :
    Calls Try.prog 22 #[.slice pv L cv, .func (.func 35) #[] #[.pointer (some ⟨bx, 0, none⟩)]] W fun e W' => Cutted6 W (fun l => l.tok == t) ls (fun k => (Value.slice pv L cv).ownBlock = some k) e W' := by
    go_enter Try.func22, Try.ntmps22
    go_wp2_with fail
    refine (idxDone_any W pv L cv bx ls t hL hb hown h.c).mono ?_
    rintro e w ⟨rfl, hE0⟩
    rcases firstAt_split (p := (fun l => l.tok == t)) (ls := ls) with ⟨h1, h2⟩ | ⟨a, l0, b0, hx, h1, h2, h3⟩
    · rw [h1]
      have H2 := Lib.hid h2
      clear h1 h2
      go_wp2_with fail
      go_ret
      refine ⟨_, rfl, ?_, fun b hb => hb, Tch.of_ext hE0⟩
      rw [H2.out, ← hL.out]
      exact ownsRow_ext hown hE0
    · rw [h1]
      have hlen := hL.out
      have hown' := ownsRow_ext hown hE0
      rw [hx] at hown' hlen
      obtain ⟨g, rfl, -, hg, -⟩ := lease_at hlen hown'
      have hrow := LRow.of_own hown' hlen
      have haL : (a.length : Int) + 1 ≤ L := by rw [hlen]; simp; omega
      have HX := Lib.hid hx
      have HL := Lib.hid hlen
      have H2 := Lib.hid h2
      have H3 := Lib.hid h3
      have hgb : g ≠ bx := fun e => hgn _ rfl e
      have hLc : L ≤ cv := by have := hrow.le; rw [hlen]; exact this
      have hz1 : ((a.length : Int) == -1) = false := by rw [beq_eq_false_iff_ne]; omega
      clear h1 h2 h3 hx hlen hown' hown
      go_wp2_with fail
      clear hz1
      go_loopw [5, 6] (fun vi vj wr => DFRel w g cv ls ((fun l => l.tok == t)) vi vj wr) (fun _ vj _ => ((L : Int) + 1 - intOf vj).toNat)
      case atStart => exact ⟨a ++ [l0], b0, [l0], by rw [HX.out]; simp, by simp, by rw [H2.out], by simp, by rw [H2.out]; simp, by rw [H2.out]; simpa using hrow, Tch.refl _ _⟩
      case round =>
        clear hrow
        obtain ⟨pre, post, rest, hx, rfl, rfl, hne, hsum, hrow, ht⟩ := hrel
        have hlen : L = pre.length + post.length := by rw [hL.out, hx]; simp
        obtain ⟨ki, hki⟩ : ∃ k, (keepL ((fun l => l.tok == t)) pre).length = k := ⟨_, rfl⟩
        have hr1 : 1 ≤ rest.length := by cases rest with | nil => exact absurd rfl hne | cons => simp
        have HKI := Lib.hid hki
        rw [hki] at hsum ⊢
        have hkL : (ki : Int) < L := by omega
        have hcb := (ht.cell (h.of hE0) (World.block_lt_of_cell? w _ (h.of hE0)) (fun e => hgb e.symm))
        cases post with
        | nil =>
          have hx' : ls = pre := by simpa using hx
          have hl2 : ¬ ((pre.length : Int) < L) := by simp at hlen; omega
          have HX2 := Lib.hid hx'
          have hth : wr.there g (ki * 6) ((L - ki) * 6) := hrow.there (by have : L ≤ cv := hLc; omega)
          have hcl := fun ty => run_clear6 wr ty g (ki * 6) (L - ki) (cv - ki) (by omega) hth
          have hrow2 : LRow (wr.setCells g (ki * 6) (flatL (List.replicate (L - ki) zeroL))) g cv (keepL ((fun l => l.tok == t)) pre) := by
            have h4 : LRow wr g cv (keepL ((fun l => l.tok == t)) pre ++ (rest ++ [])) := hrow
            refine (h4.put (m' := List.replicate (L - ki) zeroL) (by simp at hlen ⊢; omega) (by rw [HKI.out])).pre
          have htc := tch_setCells (g := g) (flatL (List.replicate (L - ki) zeroL)) (ki * 6) wr
          have HS := Lib.hid hsum
          clear hth hrow hx hx' hlen hsum hr1 hne hki hcb
          generalize hWC : wr.setCells g (ki * 6) (flatL (List.replicate (L - ki) zeroL)) = wc at *
          go_wp2_with fail
          go_ret
          refine ⟨_, rfl, ?_, fun b hb => hb, ?_⟩
          · rw [HX2.out, HKI.out]
            exact hrow2.own HKI.out.symm
          · refine (Tch.of_ext (S := fun k => k = g) hE0).trans (ht.trans htc (fun _ h _ => h)) (fun _ h _ => h) |>.mono fun k hk _ => by subst hk; rfl
        | cons l post =>
          have hl : (pre.length : Int) < L := by simp at hlen; omega
          obtain ⟨x0, x1, x2, x3, x4, x5⟩ := hrow.at (n := pre.length) (a := keepL ((fun l => l.tok == t)) pre ++ rest) (b := post) (l := l) (by simp) (by simp [HKI.out]; omega)
          have hgr := hrow.lt
          have HN := Lib.hid hsum
          have HL2 := Lib.hid hlen
          have HX2 := Lib.hid hx
          have hth : wr.there g (ki * 6) 6 := hrow.there (by have : L ≤ cv := hLc; omega)
          clear hlen hsum hx
          obtain ⟨lt, lr, lk, li, lw, lu⟩ := l
          have hbt0 := Blk.new wr 56 (lsA zeroL)
          go_upto_region 8 with (refine wpList_store_row rfl _ _ _ rfl wr.heap.size (lsA ⟨lt, lr, lk, li, lw, lu⟩) rfl rfl _ _ hbt0 (leaseInfo' _) rfl (lsA_all _) ?_)
          refine gen_world' (fun X => Ext wr X ∧ Blk X wr.heap.size 56 (lsA ⟨lt, lr, lk, li, lw, lu⟩)) ⟨setRow_ext' (ext_alloc wr _) (Nat.le_refl _), setRow_blk hbt0⟩ ?_
          clear hbt0 x0 x1 x2 x3 x4 x5
          rintro w2 ⟨hE3, hbt⟩
          obtain ⟨bt, hbtn⟩ : ∃ b, b = wr.heap.size := ⟨_, rfl⟩
          rw [← hbtn] at hbt ⊢
          have HBT := Lib.hid hbtn
          clear hbtn
          try simp only [Act.put]
          have hcb2 := (hE3.cell _ _ (World.block_lt_of_cell? wr _ hcb)).trans hcb
          obtain ⟨pl, hpl⟩ : ∃ b, (lt == t) = b := ⟨_, rfl⟩
          have HB := Lib.hid hpl
          have hcl := doneF_any w2 bx t ⟨lt, lr, lk, li, lw, lu⟩ hcb2
          rw [hpl] at hcl
          unfold lsV at hcl
          go_wp2_with (first | (refine wpList_load_row rfl _ _ rfl bt rfl _ #[.int .u64 lt, .int .i64 lr, .int .i64 lk, .int .i64 li, .int .i64 lw, .int .i64 lu] _ _ hbt Try.underlying56 rfl leaseInfo ?_))
          refine hcl.mono ?_
          rintro e w3 ⟨rfl, hE4⟩
          clear hcl hpl hcb2
          have hE34 := hE3.trans hE4
          have hrow3 := hrow.ext hE34
          have hth3 : w3.there g (ki * 6) 6 := hrow3.there (by have : L ≤ cv := hLc; omega)
          have hbt3 := hbt.of_eq (hE4.block bt hbt.lt)
          clear hrow hth hbt
          cases pl with
          | true =>
            have hkeep : keepL ((fun l => l.tok == t)) (pre ++ [⟨lt, lr, lk, li, lw, lu⟩]) = keepL ((fun l => l.tok == t)) pre := by unfold keepL; rw [List.filter_append]; simp [HB.out]
            have HK := Lib.hid hkeep
            clear hkeep
            go_wp2_with fail
            refine ⟨⟨pre ++ [⟨lt, lr, lk, li, lw, lu⟩], post, rest ++ [⟨lt, lr, lk, li, lw, lu⟩], by rw [HX2.out]; simp, by simp, by rw [HK.out, HKI.out], by simp, by rw [HK.out, HKI.out]; have := HN.out; simp; omega, by rw [HK.out]; simpa using hrow3, ht.trans (Tch.of_ext (S := fun k => k = g) hE34) (fun _ h _ => h)⟩, by simp [intOf] at *; omega⟩
          | false =>
            have hkeep : keepL ((fun l => l.tok == t)) (pre ++ [⟨lt, lr, lk, li, lw, lu⟩]) = keepL ((fun l => l.tok == t)) pre ++ [⟨lt, lr, lk, li, lw, lu⟩] := by unfold keepL; rw [List.filter_append]; simp [HB.out]
            have HK := Lib.hid hkeep
            clear hkeep
            cases rest with
            | nil => exact absurd rfl hne
            | cons r0 rest =>
              have hput : LRow (w3.setCells g (ki * 6) (lsC ⟨lt, lr, lk, li, lw, lu⟩)) g cv (keepL ((fun l => l.tok == t)) pre ++ ([⟨lt, lr, lk, li, lw, lu⟩] ++ (rest ++ ⟨lt, lr, lk, li, lw, lu⟩ :: post))) := by
                have h5 : LRow w3 g cv (keepL ((fun l => l.tok == t)) pre ++ ([r0] ++ (rest ++ ⟨lt, lr, lk, li, lw, lu⟩ :: post))) := by simpa using hrow3
                have h6 := h5.put (m' := [⟨lt, lr, lk, li, lw, lu⟩]) rfl (o := ki * 6) (by rw [HKI.out])
                simpa [flatL] using h6
              have htc := tch_setCells (g := g) (lsC ⟨lt, lr, lk, li, lw, lu⟩) (ki * 6) w3
              have hput' : LRow (w3.setCells g (ki * 6) (lsC ⟨lt, lr, lk, li, lw, lu⟩)) g cv (keepL ((fun l => l.tok == t)) pre ++ [⟨lt, lr, lk, li, lw, lu⟩] ++ ((rest ++ [⟨lt, lr, lk, li, lw, lu⟩]) ++ post)) := by simpa using hput
              clear hput hrow3
              go_upto_region 10 with (first | (refine wpList_load_row rfl _ _ rfl bt rfl _ #[.int .u64 lt, .int .i64 lr, .int .i64 lk, .int .i64 li, .int .i64 lw, .int .i64 lu] _ _ hbt3 Try.underlying56 rfl leaseInfo ?_) | (refine wpList_store_mid rfl _ _ _ rfl g (ki * 6) (lsA ⟨lt, lr, lk, li, lw, lu⟩) rfl rfl hth3 (leaseInfo' _) (lsA_all _) ?_))
              refine gen_world' (fun X => LRow X g cv (keepL ((fun l => l.tok == t)) pre ++ [(⟨lt, lr, lk, li, lw, lu⟩ : Ls)] ++ ((rest ++ [(⟨lt, lr, lk, li, lw, lu⟩ : Ls)]) ++ post)) ∧ Tch (fun k => k = g) w3 X) ⟨hput', htc⟩ ?_
              clear hput' htc hth3 hbt3
              rintro w5 ⟨hput', htc⟩
              try simp only [Act.put]
              go_wp2_with fail
              refine ⟨⟨pre ++ [⟨lt, lr, lk, li, lw, lu⟩], post, rest ++ [⟨lt, lr, lk, li, lw, lu⟩], by rw [HX2.out]; simp, by simp, by rw [HK.out]; simp [HKI.out], by simp, by rw [HK.out]; have := HN.out; simp [HKI.out] at *; omega, by rw [HK.out]; exact hput', (ht.trans (Tch.of_ext (S := fun k => k = g) hE34) (fun _ h _ => h)).trans htc (fun _ h _ => h)⟩, by simp [intOf] at *; omega⟩
end Go.Proofs.Ytadmfoglajhdcaa
