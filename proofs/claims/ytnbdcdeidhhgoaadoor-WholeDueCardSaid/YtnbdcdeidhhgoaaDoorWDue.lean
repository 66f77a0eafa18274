/- The walk of WholeDue. -/
import Derived.Test.YtnbdcdeidhhgoaaDoorWDueP
import Derived.Test.YtnbdcdeidhhgoaaDoorWCron
import Derived.Lib.MinMax
namespace Go.Proofs.YtnbdcdeidhhgoaaDoor
set_option maxRecDepth 4000
set_option linter.unusedVariables false
set_option linter.unusedSimpArgs false
open Go Go.RowKit Go.Sort
theorem event_build3 (X : World) (i k a : Int) : (Instr.build 36 #[(0, .int .i64 i), (2, .int .i64 k), (3, .int .i64 a)]).run Tryd.prog X = .ok (.agg #[.int .i64 i, .int .i64 0, .int .i64 k, .int .i64 a, .int .i64 0, .string ⟨#[]⟩, .string ⟨#[]⟩, .int .i64 0, .int .i64 0, .string ⟨#[]⟩, .slice none 0 0]) X := by kernel_rfl
theorem event_build4 (X : World) (k a b : Int) : (Instr.build 36 #[(2, .int .i64 k), (3, .int .i64 a), (4, .int .i64 b)]).run Tryd.prog X = .ok (.agg #[.int .i64 0, .int .i64 0, .int .i64 k, .int .i64 a, .int .i64 b, .string ⟨#[]⟩, .string ⟨#[]⟩, .int .i64 0, .int .i64 0, .string ⟨#[]⟩, .slice none 0 0]) X := by kernel_rfl
theorem queue_build (X : World) : (Instr.build 29 #[]).run Tryd.prog X = .ok (.agg #[.slice none 0 0, .map none, .int .u64 0]) X := by kernel_rfl
theorem queueSize : (Tryd.prog.info? 29).map (·.size) = some 3 := by kernel_rfl
theorem Has.zeroHeap {w W : World} {ps : List Asr} {g : Nat} {T : TypeId} (h : Has w W (blkA g T #[.slice none 0 0, .map none, .int .u64 0] :: ps)) (hl : Locs ps) : Has w W (hpL g T true (.slice none 0 0) (.map none) 0 [] (fun _ => none) ps) := by
  have LG : Locs (blkA g T #[.slice none 0 0, .map none, .int .u64 0] :: ps) := .cons (blkA_loc _ _ _) hl
  have h1 := h.add LG (Ext.refl W) (mp_nil W) (fun k hk => hk.elim)
  have h2 := h1.add (.cons (mpA_loc _ _) LG) (Ext.refl W) (show itsA true (.slice none 0 0) [] W (fun k => (Value.slice none 0 0).ownBlock = some k) from ⟨Or.inl ⟨rfl, rfl⟩, rfl⟩) (fun k hk => by cases hk)
  exact h2.pick (l := [_, _, _]) (ps := ps) [2, 0, 1] (by rfl)
theorem dues_one {x : It} {ds : List It} {now : Int} (h : ds.Perm ([x].filter fun t => decide (t.due ≤ now))) : (¬ x.due ≤ now → ds = []) ∧ (x.due ≤ now → ds = [x]) := by
  constructor
  · intro h1
    have : ([x].filter fun t => decide (t.due ≤ now)) = [] := by simp [h1]
    rw [this] at h
    exact List.perm_nil.1 h
  · intro h1
    have : ([x].filter fun t => decide (t.due ≤ now)) = [x] := by simp [h1]
    rw [this] at h
    exact List.perm_singleton.1 h
theorem q3_all : (#[.slice none 0 0, .map none, .int .u64 0] : Array Value).all (·.oneCell') = true := by simp [Value.oneCell']
def rngI (n : Nat) : List Int := (List.range n).map fun i : Nat => (i : Int)
theorem rngI_succ (n : Nat) : rngI (n + 1) = rngI n ++ [(n : Int)] := by simp [rngI, List.range_succ]
theorem rngI_not (n : Nat) : (n : Int) ∉ rngI n := by
  intro h
  obtain ⟨a, ha, he⟩ := List.mem_map.1 h
  have := List.mem_range.1 ha
  have he : (a : Int) = n := he
  omega
theorem rngI_length (n : Nat) : (rngI n).length = n := by simp [rngI]
theorem rngI_nodup (n : Nat) : (rngI n).Nodup := by
  induction n with
  | zero => exact List.nodup_nil
  | succ n ih =>
    rw [rngI_succ, List.nodup_append]
    refine ⟨ih, by simp, fun a ha b hb => ?_⟩
    rw [List.mem_singleton.1 hb]
    intro e
    subst e
    exact rngI_not n ha
theorem keyOk_of {n : Nat} {k : Int} (h : n ≤ 60) (hk : k = 0 ∨ k = 1) : KeyOk ((n : Int) % 4, k, (n : Int)) := by
  constructor <;> simp only [] <;> omega
theorem putX_ok {n q : Nat} {k d : Int} (h : n ≤ 60) (hk : k = 0 ∨ k = 1) (h1 : -9223372036854775808 ≤ d) (h2 : d ≤ 9223372036854775807) (h3 : q + 1 < 18446744073709551616) : (PutX ((n : Int) % 4, k, (n : Int)) d q).Ok :=
  ⟨keyOk_of h hk, h1, h2, h3⟩
theorem Has.comm2 {w W : World} {R : List Asr} {a b c d e f : Asr} (h : Has w W (R ++ [a, b, c, d, e, f])) : Has w W (a :: b :: c :: d :: e :: f :: R) := h.perm (List.perm_append_comm)
/-- two heaps of the same numbers -/
structure Two (D al : List Int) (xs ys : List It) (m my : HK → Option Nat) : Prop where
  cx : Con D 1 al xs
  px : HpOk xs m
  cy : Con D 0 al ys
  py : HpOk ys my
theorem Two.empty (D : List Int) : Two D (rngI 0) [] [] (fun _ => none) (fun _ => none) := ⟨Con.empty D 1, HpOk.empty, Con.empty D 0, HpOk.empty⟩
theorem Has.drop3 {w W : World} {R : List Asr} {a b c : Asr} (h : Has w W (a :: b :: c :: R)) : Has w W R := h.drop.drop.drop
/-- the two heaps of a law's own, beside others -/
def TwoH (w : World) (qb hb : Nat) (D al : List Int) (R : List Asr) (W : World) : Prop :=
  ∃ (fq : Bool) (vq mq : Value) (sq : Nat) (xs : List It) (m : HK → Option Nat) (fh : Bool) (vh mh : Value) (sh : Nat) (ys : List It) (my : HK → Option Nat),
    Two D al xs ys m my ∧ Has w W (hpL qb 29 fq vq mq sq xs m (hpL hb 27 fh vh mh sh ys my R))
theorem TwoH.mk {w W : World} {qb hb : Nat} {D al : List Int} {R : List Asr} {fq : Bool} {vq mq : Value} {sq : Nat} {xs : List It} {m : HK → Option Nat} {fh : Bool} {vh mh : Value} {sh : Nat} {ys : List It} {my : HK → Option Nat}
    (h1 : Two D al xs ys m my) (h2 : Has w W (hpL qb 29 fq vq mq sq xs m (hpL hb 27 fh vh mh sh ys my R))) : TwoH w qb hb D al R W := ⟨_, _, _, _, _, _, _, _, _, _, _, _, h1, h2⟩
def Ag (w : World) (v12 : Value) (R : List Asr) (a : Int) : Prop := a = -1 ∨ (0 ≤ a ∧ CronOk w v12 R)
def C5 (w : World) (qb hb : Nat) (D al : List Int) (v12 : Value) (R : List Asr) (v15 : Value) (wx : World) : Prop :=
  ∃ a : Int, v15 = .int .i64 a ∧ Ag w v12 R a ∧ TwoH w qb hb D al R wx
theorem mayI_len {W : World} {g : Nat} {l : List Int} {F : Nat → Prop} (h : mayI g l W F) : (Builtin.len_ #[47] 3 #[.map (some g)]).run Tryd.prog W = .ok (.int .i64 l.length) W := by
  obtain ⟨⟨es, c, hb, _, _, h3⟩, _⟩ := h
  simp [Builtin.len_, run_underlying Tryd.underlying47, MapKept.run_getObj_map hb, goInt, Result.andThen, h3]
def fireOf (id : Int) : Fi := ⟨id % 4, 12, id⟩
theorem fires_form {D al : List Int} {xs ds : List It} {now : Int} (h : Con D 1 al xs) (hP : ds.Perm (xs.filter fun t => decide (t.due ≤ now))) :
    ∃ L rest, firesL [] ds = L.map fireOf ∧ al.Perm (L ++ rest) ∧ (∀ id ∈ L, 0 ≤ id ∧ id < D.length ∧ D.getD id.toNat 0 ≤ now) ∧ (∀ id ∈ rest, now < D.getD id.toNat 0) := by
  have hd : ∀ t ∈ ds, t ∈ xs ∧ t.due ≤ now := fun t ht => by
    have := hP.mem_iff.1 ht
    rw [List.mem_filter, decide_eq_true_eq] at this
    exact this
  refine ⟨ds.map (·.id), restL xs now, ?_, h.ids.symm.trans (due_split hP), fun id hid => ?_, fun id hid => rest_late h hid⟩
  · rw [fires_map ds (fun t ht => (h.it t (hd t ht).1).1), List.map_map]
    refine List.map_congr_left fun t ht => ?_
    have := (h.it t (hd t ht).1).2.1
    show (⟨t.run, 12, t.id⟩ : Fi) = ⟨t.id % 4, 12, t.id⟩
    rw [this]
  · obtain ⟨t, ht, rfl⟩ := List.mem_map.1 hid
    obtain ⟨_, _, h3, h4, h5⟩ := h.it t (hd t ht).1
    exact ⟨h3, h4, by rw [← h5]; exact (hd t ht).2⟩
theorem fi_at {W : World} {p : Option Addr} {n c j : Nat} {now : Int} {fs : List Fi} (h : W.ownsRow 0 49 12 (.slice p n c) n (fiC now fs)) (hj : j < fs.length) : ∃ g, p = some ⟨g, 0, none⟩ ∧ ∀ k u, (fs[j].cells now)[k]? = some u → W.cell? ⟨g, j * 12 + k, none⟩ = some u := by
  rcases h.2 with ⟨hv, hn⟩ | ⟨g, cap, cur, hv, _⟩
  · have := h.1
    rw [fiC_length] at this
    omega
  · have hc := fun i x => h.cells (g := g) (by rw [hv]; rfl) i x
    injection hv with h1 h2 h3
    refine ⟨g, h1, fun k u hk => ?_⟩
    have hk12 : k < 12 := (List.getElem?_eq_some_iff.1 hk).1
    have := hc (j * 12 + k) u (by rw [fiC_get now fs j k hj hk12]; exact hk)
    rwa [Go.WideShapes.add_plain, Nat.zero_add] at this
structure SnOk (n : Nat) (sn al : List Int) : Prop where
  nd : al.Nodup
  nin : ∀ x ∈ al, x ∉ sn
  len : sn.length + al.length = n
theorem SnOk.perm {n : Nat} {sn al bl : List Int} (h : SnOk n sn al) (hp : al.Perm bl) : SnOk n sn bl :=
  ⟨hp.nodup_iff.1 h.nd, fun x hx => h.nin x (hp.mem_iff.2 hx), by rw [← hp.length_eq]; exact h.len⟩
theorem SnOk.take {n : Nat} {sn al : List Int} {x : Int} (h : SnOk n sn (x :: al)) : SnOk n (x :: sn) al ∧ sn.contains x = false := by
  obtain ⟨h1, h2⟩ := List.nodup_cons.1 h.nd
  refine ⟨⟨h2, fun y hy hm => ?_, ?_⟩, ?_⟩
  · rcases List.mem_cons.1 hm with rfl | hm
    · exact h1 hy
    · exact h.nin y (List.mem_cons_of_mem _ hy) hm
  · have := h.len
    rw [List.length_cons] at this ⊢
    omega
  · have := h.nin x List.mem_cons_self
    simpa using this
theorem Con.perm {D al bl : List Int} {kd : Int} {xs : List It} (h : Con D kd al xs) (hp : al.Perm bl) : Con D kd bl xs := ⟨h.ids.trans hp, h.it⟩
theorem Two.perm {D al bl : List Int} {xs ys : List It} {m my : HK → Option Nat} (h : Two D al xs ys m my) (hp : al.Perm bl) : Two D bl xs ys m my := ⟨h.cx.perm hp, h.px, h.cy.perm hp, h.py⟩
theorem hp_shape {w W : World} {g : Nat} {T : TypeId} {full : Bool} {v mv : Value} {seq : Nat} {xs : List It} {m : HK → Option Nat} {ps : List Asr} (h : Has w W (hpL g T full v mv seq xs m ps)) {k : HK} {i : Nat} (hi : i < xs.length) (hm : m k = some i) :
    ∃ gi c mb, v = .slice (some ⟨gi, 0, none⟩) xs.length c ∧ mv = .map (some mb) := by
  obtain ⟨F, hF⟩ := h.drop.head
  obtain ⟨gi, c, hv, _⟩ := its_some hF (by omega)
  obtain ⟨F2, hF2⟩ := h.drop.drop.head
  rcases hF2 with ⟨_, h2, _⟩ | ⟨b, h2, _⟩
  · rw [h2] at hm; cases hm
  · exact ⟨gi, c, b, hv, h2⟩
def P3Rel (w : World) (qb hb mo : Nat) (D L rest : List Int) (R : List Asr) (v121 : Value) (wr : World) : Prop :=
  ∃ (j : Nat) (sn : List Int), j ≤ L.length ∧ v121 = .int .i64 j ∧ SnOk D.length sn (L.drop j ++ rest) ∧ TwoH w qb hb D (L.drop j ++ rest) (mayI mo sn :: R) wr
def P2Rel (w : World) (qb hb mo : Nat) (D K : List Int) (v12 : Value) (R : List Asr) (v14 v15 v105 : Value) (wr : World) : Prop :=
  ∃ (i : Nat) (now a : Int) (sn al : List Int), i ≤ K.length ∧ v14 = .int .i64 now ∧ v15 = .int .i64 a ∧ v105 = .int .i64 i ∧ 0 ≤ now ∧ now ≤ 2147483648 ∧ Ag w v12 R a ∧ SnOk D.length sn al ∧ TwoH w qb hb D al (mayI mo sn :: R) wr
def P1Rel (w : World) (qb hb : Nat) (D : List Int) (v59 : Value) (wr : World) : Prop :=
  ∃ (j : Nat) (xs ys : List It) (m my : HK → Option Nat) (vq mq vh mh : Value), j ≤ D.length ∧ v59 = .int .i64 j ∧ Two D (rngI j) xs ys m my ∧ Has w wr (hpL qb 29 true vq mq j xs m (hpL hb 27 true vh mh j ys my []))
set_option maxHeartbeats 8000000 in
theorem due_law (w : World) (s : ByteArray) (p1 : Option Addr) (c1 : Nat) (D : List Int) (p2 : Option Addr) (c2 : Nat) (K : List Int) (hD : NumsAt .i64 w p1 D) (hDb : ∀ z ∈ D, -9223372036854775808 ≤ z ∧ z ≤ 9223372036854775807) (hKn : NumsAt .i64 w p2 K) (hKb : ∀ z ∈ K, -9223372036854775808 ≤ z ∧ z ≤ 9223372036854775807) (hmx : MX w) :
    Calls Tryd.prog 3 #[.string s, .slice p1 D.length c1, .slice p2 K.length c2] w fun e w' => e = .returned (.bool true) ∧ Ext w w' := by
  have hmm := @run_makeMap Tryd.prog
  have heb := fun X => event_build3 X 1 1 3
  go_enter Tryd.func3, Tryd.ntmps3
  go_upto_region 2 with fail
  have h0 : Has w (w.alloc (.cells #[.slice none 0 0, .map none, .int .u64 0] 29)) [blkA w.heap.size 29 #[.slice none 0 0, .map none, .int .u64 0]] := (Has.nil (Ext.refl w)).new .nil 29 _
  have h1 := h0.zeroHeap .nil
  clear h0
  refine gen_world' (fun X => Has w X (hpL w.heap.size 29 true (.slice none 0 0) (.map none) 0 [] (fun _ => none) [])) h1 ?_
  clear h1
  generalize w.heap.size = qb at *
  intro w1 h1
  go_wp2_with fail
  refine (apply_begin h1 .nil rfl (fun t ht => by cases ht) 1 3 (by omega) (by omega) ⟨by decide, by decide, by decide, by decide, by decide, by decide⟩ rfl (by omega) (by decide)).mono ?_
  clear h1
  rintro e w2 ⟨gi, c, mb, rfl, h2⟩
  obtain ⟨d1, d2, d3⟩ := put_done empty_pos empty_heap (PutX (1, 2, 0) 3 0) rfl
  obtain ⟨X1, hX1⟩ : ∃ X, upS ([] ++ [PutX (1, 2, 0) 3 0]) (fun _ => none) (PutX (1, 2, 0) 3 0) ([] : List It).length = X := ⟨_, rfl⟩
  rw [hX1] at d1 d2 d3 h2
  clear hX1
  have hx1 : X1.1 = [PutX (1, 2, 0) 3 0] := List.perm_singleton.1 d1
  rw [hx1] at h2 d3
  clear d1 d2 hx1
  go_wp2_with fail
  refine (fires_any h2 .nil d3 (by decide) 2 (by omega) (by omega)).mono ?_
  clear h2
  rintro e w3 ⟨pf, cf, ds, hP, rfl, h3⟩
  have hds : ds = [] := (dues_one hP).1 (by decide)
  subst hds
  clear hP
  have h4 := h3.drop
  clear h3
  have hf0 : firesL [] [] = [] := rfl
  rw [hf0]
  go_wp2_with fail
  refine (fires_any h4 .nil d3 (by decide) 3 (by omega) (by omega)).mono ?_
  clear h4 hf0
  rintro e w4 ⟨pf2, cf2, ds2, hP2, rfl, h5⟩
  have hds2 : ds2 = [PutX (1, 2, 0) 3 0] := (dues_one hP2).2 (by decide)
  subst hds2
  clear hP2 d3
  have h6 := h5.drop
  clear h5
  have hf1 : firesL [] [PutX (1, 2, 0) 3 0] = [⟨1, 20, 0⟩] := rfl
  rw [hf1]
  have hfl : ([⟨1, 20, 0⟩] : List Fi).length = 1 := rfl
  rw [hfl]
  have hE6 := h6.base
  clear hf1 hfl heb
  by_cases g1 : (60 : Int) < D.length
  · go_wp2_with fail
    go_ret
    exact ⟨rfl, hE6⟩
  by_cases g2 : (60 : Int) < K.length
  · go_wp2_with fail
    go_ret
    exact ⟨rfl, hE6⟩
  by_cases g3 : (60 : Int) < s.size
  · go_wp2_with fail
    go_ret
    exact ⟨rfl, hE6⟩
  obtain ⟨ca, cb, cc, h7⟩ : ∃ a b c, Has w w4 [blkA qb 29 #[a, b, c]] := ⟨_, _, _, (h6.pick (l := [_, _, _]) (ps := []) [1, 2, 0] (by rfl)).drop.drop⟩
  clear h6 hE6
  have h8 := (h7.new (.cons (blkA_loc _ _ _) .nil) 27 #[.slice none 0 0, .map none, .int .u64 0]).zeroHeap (.cons (blkA_loc _ _ _) .nil)
  have h9 := h8.pick (l := [_, _, _, _]) (ps := []) [3, 0, 1, 2] (by rfl)
  clear h7 h8
  go_upto_region 7 with fail
  refine gen_world' (fun X => Has w X (blkA qb 29 #[ca, cb, cc] :: hpL w4.heap.size 27 true (.slice none 0 0) (.map none) 0 [] (fun _ => none) [])) h9 ?_
  clear h9
  generalize w4.heap.size = hb at *
  intro w5 h9
  have hbq := h9.blk0
  have hqb := queue_build
  have ha := (h9.row (cs := #[.slice none 0 0, .map none, .int .u64 0]) (hpL_locs .nil)).zeroHeap (hpL_locs .nil)
  clear h9
  go_wp2_with (refine wpList_store_row rfl _ _ _ rfl qb #[.slice none 0 0, .map none, .int .u64 0] rfl rfl _ _ hbq queueSize rfl q3_all ?_)
  clear hbq hqb
  have hst : Two D (rngI 0) [] [] (fun _ => none) (fun _ => none) := Two.empty D
  
  go_loopw [59] (fun v59 wr => P1Rel w qb hb D v59 wr) (fun v59 _ => ((D.length : Int) + 1 - intOf v59).toNat)
  case atStart => exact ⟨0, [], [], _, _, _, _, _, _, Nat.zero_le _, rfl, hst, ha⟩
  case round =>
    clear ha hst
    obtain ⟨j, xs, ys, m, my, vq, mq, vh, mh, hj, rfl, hT, h1⟩ := hrel
    have hE1 := h1.base
    have LH : Locs (hpL hb 27 true vh mh j ys my []) := hpL_locs .nil
    by_cases hjl : (j : Int) < D.length
    · as_aux_lemma =>
      obtain ⟨ad, rfl, hcell⟩ := hD.get hE1 j (by omega)
      have hjn : j < D.length := by omega
      have hdb : D.getD j 0 = D.getD j 0 := rfl
      generalize hdd : D.getD j 0 = d at hcell hdb
      by_cases hneg : d < 0
      · go_wp2_with fail
        go_ret
        exact ⟨rfl, hE1⟩
      by_cases hbig : (2147483648 : Int) < d
      · go_wp2_with fail
        go_ret
        exact ⟨rfl, hE1⟩
      have HDD := Lib.hid hdd
      have HT := Lib.hid hT
      clear hdd hdb hT
      have heb := fun X => event_build4 X 11 j d
      have hkb := fun X => key_build3 X ((j : Int) % 4) j
      have HXL := Lib.hid (HT.out.cx.len.trans (rngI_length j))
      have HYL := Lib.hid (HT.out.cy.len.trans (rngI_length j))
      have g60 : D.length ≤ 60 := by omega
      go_wp2_with fail
      refine (apply_start h1 LH rfl HT.out.px.ok ((j : Int) % 4) j d (keyOk_of (by omega) (by omega)) (HT.out.cx.noKey HT.out.px (rngI_not j)) (by omega) (by omega) (by omega) (by rw [HXL.out]; omega)).mono ?_
      clear h1 hcell
      rintro e w2 ⟨gq, cq, mbq, rfl, h2⟩
      obtain ⟨X, hXe⟩ : ∃ X, upS (xs ++ [PutX ((j : Int) % 4, 1, (j : Int)) d j]) m (PutX ((j : Int) % 4, 1, (j : Int)) d j) xs.length = X := ⟨_, rfl⟩
      have HX := Lib.hid (HT.out.cx.put HT.out.px j (rngI_not j) hjn (PutX ((j : Int) % 4, 1, (j : Int)) d j) (by rw [HDD.out]; rfl) (putX_ok (by omega) (by omega) (by omega) (by omega) (by omega)))
      rw [hXe] at h2 HX
      clear hXe
      have h3 := h2.pick (l := [_, _, _, _, _, _]) (ps := []) [3, 4, 5, 0, 1, 2] (by rfl)
      clear h2
      go_wp2_with fail
      refine (put_any h3 (hpL_locs .nil) HT.out.py.ok ((j : Int) % 4, 0, (j : Int)) (keyOk_of (by omega) (by omega)) (HT.out.cy.noKey HT.out.py (rngI_not j)) d (by omega) (by omega) (by omega) (by rw [HYL.out]; omega)).mono ?_
      clear h3
      rintro e w3 ⟨gh, ch, mbh, rfl, h4⟩
      obtain ⟨Y, hYe⟩ : ∃ Y, upS (ys ++ [PutX ((j : Int) % 4, 0, (j : Int)) d j]) my (PutX ((j : Int) % 4, 0, (j : Int)) d j) ys.length = Y := ⟨_, rfl⟩
      have HY := Lib.hid (HT.out.cy.put HT.out.py j (rngI_not j) hjn (PutX ((j : Int) % 4, 0, (j : Int)) d j) (by rw [HDD.out]; rfl) (putX_ok (by omega) (by omega) (by omega) (by omega) (by omega)))
      rw [hYe] at h4 HY
      clear hYe
      have h5 := h4.pick (l := [_, _, _, _, _, _]) (ps := []) [3, 4, 5, 0, 1, 2] (by rfl)
      clear h4 heb hkb
      rw [← rngI_succ] at HX HY
      go_wp2_with fail
      refine ⟨⟨j + 1, X.1, Y.1, X.2, Y.2, _, _, _, _, by omega, by go_num, ⟨HX.out.1, HX.out.2, HY.out.1, HY.out.2⟩, h5⟩, by simp [intOf]; omega⟩
    · have hje : j = D.length := by omega
      subst hje
      have HT := Lib.hid hT
      clear hT hjl hj
      go_wp2_with fail
      refine (parse_has h1 (hpL_locs (hpL_locs .nil)) s (by omega) (hmx.ext hE1)).mono ?_
      clear h1 hE1
      rintro e w7 ⟨v12, pc, R, rfl, LR, hcr, h2⟩
      have HR := Lib.hid hcr
      clear hcr
      have h3 := h2.comm2
      clear h2
      have hG0 : Ag w v12 R (-1) := Or.inl rfl
      have hTH := TwoH.mk HT.out h3
      have LHR := hpL_locs (g := qb) (T := 29) (full := true) (v := vq) (mv := mq) (seq := D.length) (xs := xs) (m := m) (hpL_locs (g := hb) (T := 27) (full := true) (v := vh) (mv := mh) (seq := D.length) (xs := ys) (m := my) LR)
      go_upto_if 93 with fail
      go_cut [15] (fun v15 wx => C5 w qb hb D (rngI D.length) v12 R v15 wx)
      case first =>
        by_cases hpc : pc = 0
        · have HC := HR.out hpc
          have hck := HC w7 h3.drop3.drop3 0 (by omega) (by omega)
          subst hpc
          clear hTH
          go_wp2_with fail
          refine hck.mono ?_
          clear hck
          rintro e w8 ⟨n, f, rfl, hnf, hE8⟩
          have h4 := h3.ext LHR hE8
          clear h3
          by_cases hf : f = 0
          · obtain ⟨n1, n2⟩ := hnf hf
            subst hf
            go_wp2_with fail
            go_meet
            exact ⟨_, rfl, Or.inr ⟨by omega, HC⟩, TwoH.mk HT.out h4⟩
          · clear hnf
            go_wp2_with fail
            go_meet
            exact ⟨_, rfl, hG0, TwoH.mk HT.out h4⟩
        · go_wp2_with fail
          go_meet
          exact ⟨_, rfl, hG0, hTH⟩
      case rest =>
        obtain ⟨a0, rfl, hG, hTH2⟩ := hcut
        clear h3 hTH HT HR hG0 LHR
        obtain ⟨fq, vq, mq, sq, xs, m, fh, vh, mh, sh, ys, my, hT, h1⟩ := hTH2
        have h2 := (h1.mayI (hpL_locs (hpL_locs LR))).pick (l := [_, _, _, _, _, _, _]) (ps := R) [1, 2, 3, 4, 5, 6, 0] (by rfl)
        clear h1
        go_wp2_with fail
        have hTH := TwoH.mk hT h2
        clear h2 hT
        generalize wc.heap.size = mo at *
        have hS0 : SnOk D.length [] (rngI D.length) := ⟨rngI_nodup _, (fun _ _ h => by cases h), (by rw [rngI_length]; simp)⟩
        go_loopw [14, 15, 105] (fun v14 v15 v105 wr => P2Rel w qb hb mo D K v12 R v14 v15 v105 wr) (fun _ _ v105 _ => ((K.length : Int) + 1 - intOf v105).toNat)
        case atStart => exact ⟨0, 0, a0, [], _, Nat.zero_le _, rfl, rfl, rfl, by omega, by omega, hG, hS0, hTH⟩
        case round =>
          clear hTH hS0 hG
          obtain ⟨i, now, a, sn, al, hi, rfl, rfl, rfl, hn0, hn1, hG, hS, hTH⟩ := hrel
          obtain ⟨fq, vq, mq, sq, xs, m, fh, vh, mh, sh, ys, my, hT, h1⟩ := hTH
          have hE1 := h1.base
          have HT := Lib.hid hT
          have HS := Lib.hid hS
          have HG := Lib.hid hG
          clear hT hS hG
          by_cases hik : (i : Int) < K.length
          · obtain ⟨kd, rfl, hcell⟩ := hKn.get hE1 i (by omega)
            generalize K.getD i 0 = t at hcell
            by_cases hneg : t < 0
            · go_wp2_with fail
              go_ret
              exact ⟨rfl, hE1⟩
            by_cases hbig : (2147483648 : Int) < t
            · go_wp2_with fail
              go_ret
              exact ⟨rfl, hE1⟩
            go_upto_region 30 with fail
            have hm0 : 0 ≤ max now t := by omega
            have hm1 : max now t ≤ 2147483648 := by omega
            clear hcell hneg hbig
            generalize max now t = nw at *
            have HLX : Hid (xs.length ≤ 1000) := Lib.hid (by
              have e1 := HT.out.cx.len
              have e2 := HS.out.len
              omega)
            go_wp2_with fail
            refine (fires_any h1 (hpL_locs (.cons (mayI_loc _ _) LR)) HT.out.px.heap HLX.out nw (by omega) (by omega)).mono ?_
            rintro e w2 ⟨pf3, cf3, ds, hP, rfl, h2⟩
            clear h1 hE1
            obtain ⟨L, rest, hfl, hal, hL, hrest⟩ := fires_form HT.out.cx hP
            have hLl : (L.map fireOf).length = L.length := List.length_map _
            rw [hfl] at h2 ⊢
            rw [hLl] at h2 ⊢
            have HLI := Lib.hid hL
            have HRI := Lib.hid hrest
            have HL60 : Hid (L.length ≤ 60) := Lib.hid (by
              have e1 := hal.length_eq
              have e2 := HS.out.len
              rw [List.length_append] at e1
              omega)
            have hS2 : SnOk D.length sn (L.drop 0 ++ rest) := HS.out.perm hal
            have h3 := h2.pick (l := [_, _, _, _, _, _, _, _]) (ps := R) [1, 2, 3, 4, 5, 6, 7, 0] (by rfl)
            have hTH3 : TwoH w qb hb D (L.drop 0 ++ rest) (mayI mo sn :: rowA 49 12 (.slice pf3 L.length cf3) L.length (fiC nw (L.map fireOf)) :: R) w2 := TwoH.mk (HT.out.perm hal) h3
            clear hfl hLl hP hL hrest hal h2 h3 HT HS HLX
            go_wp2_with fail
            go_loopw [121] (fun v121 wr => P3Rel w qb hb mo D L rest (rowA 49 12 (.slice pf3 L.length cf3) L.length (fiC nw (L.map fireOf)) :: R) v121 wr) (fun v121 _ => ((L.length : Int) + 1 - intOf v121).toNat)
            case atStart => exact ⟨0, sn, Nat.zero_le _, rfl, hS2, hTH3⟩
            case round =>
              clear hTH3 hS2
              obtain ⟨j, sn, hj, rfl, hS, hTH⟩ := hrel
              obtain ⟨fq, vq, mq, sq, xs, m, fh, vh, mh, sh, ys, my, hT, h1⟩ := hTH
              have hE1 := h1.base
              have HT := Lib.hid hT
              have HS := Lib.hid hS
              clear hT hS
              by_cases hjl : (j : Int) < L.length
              · as_aux_lemma =>
                have hjn : j < L.length := by omega
                have hid := HLI.out L[j] (List.getElem_mem hjn)
                obtain ⟨n, hn⟩ := Int.eq_ofNat_of_zero_le hid.1
                rw [hn, Int.toNat_natCast] at hid
                obtain ⟨_, hnD, hdue⟩ := hid
                have hdrop : L.drop j ++ rest = (n : Int) :: (L.drop (j + 1) ++ rest) := by rw [List.drop_eq_getElem_cons hjn, hn]; rfl
                have hrow := h1.drop3.drop3.drop.row0
                obtain ⟨gf, hgf, hz⟩ := fi_at hrow (j := j) (by rw [List.length_map]; exact hjn)
                have hfe : (L.map fireOf)[j]'(by rw [List.length_map]; exact hjn) = ⟨(n : Int) % 4, 12, (n : Int)⟩ := by rw [List.getElem_map, hn]; rfl
                rw [hfe] at hz
                subst hgf
                have z0 := hz 0 _ rfl
                have z1 := hz 1 _ rfl
                have z2 := hz 2 _ rfl
                have z3 := hz 3 _ rfl
                have z4 := hz 4 _ rfl
                have z5 := hz 5 _ rfl
                have z6 := hz 6 _ rfl
                have z7 := hz 7 _ rfl
                have z8 := hz 8 _ rfl
                have z9 := hz 9 _ rfl
                have z10 := hz 10 _ rfl
                have z11 := hz 11 _ rfl
                simp only [Nat.add_zero] at z0
                have hT2 := HT.out
                have hS2 := HS.out
                rw [hdrop] at hT2 hS2
                have HT2 := Lib.hid hT2
                have HS2 := Lib.hid hS2.take
                have hm4 : n ≤ 60 := by omega
                have HN60 := Lib.hid hm4
                clear hT2 hS2 hdrop hn hfe hz hrow HT HS hm4
                have h2 := h1.new (hpL_locs (hpL_locs (.cons (mayI_loc _ _) (.cons (rowA_loc _ _ _ _ _) LR)))) 49 #[.int .i64 ((n : Int) % 4), .int .i64 0, .int .i64 nw, .int .i64 12, .int .i64 (n : Int), .int .i64 0, .string ⟨#[]⟩, .string ⟨#[]⟩, .int .i64 0, .int .i64 0, .string ⟨#[]⟩, .slice none 0 0]
                clear h1 hE1
                go_upto_region 33 with fail
                refine gen_world' (fun X => Has w X (blkA wr.heap.size 49 #[.int .i64 ((n : Int) % 4), .int .i64 0, .int .i64 nw, .int .i64 12, .int .i64 (n : Int), .int .i64 0, .string ⟨#[]⟩, .string ⟨#[]⟩, .int .i64 0, .int .i64 0, .string ⟨#[]⟩, .slice none 0 0] :: hpL qb 29 fq vq mq sq xs m (hpL hb 27 fh vh mh sh ys my (mayI mo sn :: rowA 49 12 (.slice (some ⟨gf, 0, none⟩) L.length cf3) L.length (fiC nw (L.map fireOf)) :: R)))) h2 ?_
                clear h2 z0 z1 z2 z3 z4 z5 z6 z7 z8 z9 z10 z11
                generalize wr.heap.size = gx at *
                intro w4 h2
                have hbx := h2.blk0
                have b0 := hbx.cell 0
                have b1 := hbx.cell 1
                have b2 := hbx.cell 2
                have b3 := hbx.cell 3
                have b4 := hbx.cell 4
                have b5 := hbx.cell 5
                have b6 := hbx.cell 6
                have b7 := hbx.cell 7
                have b8 := hbx.cell 8
                have b9 := hbx.cell 9
                have b10 := hbx.cell 10
                have b11 := hbx.cell 11
                simp only [List.getElem?_toArray, List.getElem?_cons_zero, List.getElem?_cons_succ] at b0 b1 b2 b3 b4 b5 b6 b7 b8 b9 b10 b11
                clear hbx
                obtain ⟨FM, hFM⟩ := h2.drop.drop3.drop3.head
                have hlk := mayI_look Tryd.underlying47 Tryd.underlying2 (zero_bool w4) hFM (n : Int)
                rw [HS2.out.2] at hlk
                clear hFM
                obtain ⟨ad, hpa, hcell⟩ := hD.get h2.base n (by omega)
                subst hpa
                generalize D.getD n 0 = dv at hcell hdue
                have hgt : ¬ nw < dv := by omega
                have hge : ¬ (D.length : Int) ≤ (n : Int) := by omega
                have hl0 : ¬ (n : Int) < 0 := by omega
                clear hdue
                obtain ⟨i1, hi1, hm1', hid1⟩ := HT2.out.cx.find HT2.out.px (id := (n : Int)) List.mem_cons_self
                obtain ⟨i2, hi2, hm2', hid2⟩ := HT2.out.cy.find HT2.out.py (id := (n : Int)) List.mem_cons_self
                obtain ⟨gq, cq, mbq, hvq, hmq⟩ := hp_shape h2.drop hi1 hm1'
                obtain ⟨gh, ch, mbh, hvh, hmh⟩ := hp_shape h2.drop.drop3 hi2 hm2'
                subst hvq hmq hvh hmh
                have HM1 := Lib.hid hm1'
                have HM2 := Lib.hid hm2'
                have HK1 := Lib.hid (HT2.out.cx.take HT2.out.px hi1 hid1 (List.Perm.refl _))
                have HK2 := Lib.hid (HT2.out.cy.take HT2.out.py hi2 hid2 (List.Perm.refl _))
                have HXL : Hid (xs.length ≤ 1000000) := Lib.hid (by
                  have e1 := HT2.out.cx.len
                  have e2 := HS2.out.1.len
                  rw [List.length_cons] at e1 e2
                  omega)
                have HYL : Hid (ys.length ≤ 1000000) := Lib.hid (by
                  have e1 := HT2.out.cy.len
                  have e2 := HS2.out.1.len
                  rw [List.length_cons] at e1 e2
                  omega)
                clear hm1' hm2' hid1 hid2 hi1 hi2
                have h3 := h2.pick (l := [_, _, _, _, _, _, _, _, _]) (ps := R) [1, 2, 3, 4, 5, 6, 7, 8, 0] (by rfl)
                clear h2
                go_wp2_with fail
                refine (apply_fired h3 (hpL_locs (.cons (mayI_loc _ _) (.cons (rowA_loc _ _ _ _ _) (.cons (blkA_loc _ _ _) LR)))) rfl HT2.out.px.ok HT2.out.px.pos ((n : Int) % 4) (n : Int) nw (keyOk_of HN60.out (by omega)) i1 HM1.out HXL.out).mono ?_
                clear h3 hcell hlk b0 b1 b2 b3 b4 b5 b6 b7 b8 b9 b10 b11
                rintro e w5 ⟨rfl, h4⟩
                generalize takeS xs m i1 = X at h4 HK1
                obtain ⟨w6, hrun, h5⟩ := mayI_put Tryd.underlying47 Tryd.underlying2 (h4.pick (l := [_, _, _, _, _, _, _, _, _]) (ps := R) [6, 0, 1, 2, 3, 4, 5, 7, 8] (by rfl)) (hpL_locs (hpL_locs (.cons (rowA_loc _ _ _ _ _) (.cons (blkA_loc _ _ _) LR)))) (n : Int) HS2.out.2
                clear h4
                have h6 := h5.pick (l := [_, _, _, _, _, _, _, _, _]) (ps := R) [8, 4, 5, 6, 1, 2, 3, 0, 7] (by rfl)
                have k0 : World.cell? w6 ⟨gx, 0, none⟩ = some (.int .i64 ((n : Int) % 4)) := h6.blk0.cell 0
                have hkb := fun X => key_build3 X ((n : Int) % 4) n
                clear h5
                go_wp2_with fail
                refine (cancel_yes h6.drop (hpL_locs (.cons (mayI_loc _ _) (.cons (rowA_loc _ _ _ _ _) LR))) rfl HT2.out.py.ok HT2.out.py.pos ((n : Int) % 4, 0, (n : Int)) (keyOk_of HN60.out (by omega)) i2 HM2.out HYL.out).mono ?_
                clear h6 hrun k0 hkb
                rintro e w7 ⟨rfl, h7⟩
                generalize takeS ys my i2 = Y at h7 HK2
                generalize gt ys i2 = y
                simp only [itA]
                have h8 := h7.new (hpL_locs (hpL_locs (.cons (mayI_loc _ _) (.cons (rowA_loc _ _ _ _ _) LR)))) 51 #[.int .i64 y.run, .int .i64 y.kind, .int .i64 y.id, .int .i64 y.due, .int .u64 y.seq]
                have h9 := (h8.pick (l := [_, _, _, _, _, _, _, _, _]) (ps := R) [0, 4, 5, 6, 1, 2, 3, 7, 8] (by rfl)).drop
                clear h7 h8
                have hl60 := HL60.out
                go_wp2_with fail
                refine ⟨⟨j + 1, (n : Int) :: sn, by omega, by go_num, HS2.out.1, TwoH.mk ⟨HK1.out.1, HK1.out.2, HK2.out.1, HK2.out.2⟩ h9⟩, by simp [intOf]; omega⟩
              · as_aux_lemma =>
                have hdrop : L.drop j ++ rest = rest := by rw [List.drop_eq_nil_of_le (by omega)]; rfl
                have hT2 := HT.out
                have hS2 := HS.out
                rw [hdrop] at hT2 hS2
                have HT2 := Lib.hid hT2
                have HS2 := Lib.hid hS2
                obtain ⟨N, hN⟩ : ∃ N, rest.length = N := ⟨_, rfl⟩
                have hxl : xs.length = N := by rw [← hN]; exact hT2.cx.len
                have hyl : ys.length = N := by rw [← hN]; exact hT2.cy.len
                have HXL := Lib.hid hxl
                have HYL := Lib.hid hyl
                have hNn : (((N : Int)) != N) = false := by simp
                clear hT2 hS2 hdrop HT HS hN hxl hyl
                have h2 := h1.pick (l := [_, _, _, _, _, _, _, _]) (ps := R) [3, 4, 5, 0, 1, 2, 6, 7] (by rfl)
                clear h1 hE1
                have LHQ : ∀ {full : Bool} {v mv : Value} {seq : Nat} {xs : List It} {m : HK → Option Nat} {full2 : Bool} {v2 mv2 : Value} {seq2 : Nat} {xs2 : List It} {m2 : HK → Option Nat} {q1 q2 : Nat} {t1 t2 : TypeId} {e : TypeId} {z n : Nat} {rv : Value} {l : List Value}, Locs (hpL q1 t1 full v mv seq xs m (hpL q2 t2 full2 v2 mv2 seq2 xs2 m2 (mayI mo sn :: rowA e z rv n l :: R))) := hpL_locs (hpL_locs (.cons (mayI_loc _ _) (.cons (rowA_loc _ _ _ _ _) LR)))
                go_wp2_with fail
                refine (top_any h2 (hpL_locs (.cons (mayI_loc _ _) (.cons (rowA_loc _ _ _ _ _) LR)))).mono ?_
                clear h2
                rintro e w5 ⟨rfl, h3⟩
                by_cases hpos : 0 < ys.length
                · have hTR : TopR ys = .tuple #[.agg (itA (gt ys 0)), .bool true] := by unfold TopR; rw [decide_eq_true hpos]
                  have hym := gt_mem ys hpos
                  rw [hTR]
                  have hyd : ¬ (gt ys 0).due ≤ nw := by
                    have e1 := (HT2.out.cy.it _ hym).2.2.2.2
                    have e2 := HRI.out (gt ys 0).id (HT2.out.cy.ids.mem_iff.1 (List.mem_map.2 ⟨_, hym, rfl⟩))
                    omega
                  clear hTR hym hpos
                  generalize gt ys 0 = y at hyd
                  simp only [itA]
                  have h4 := h3.new (hpL_locs (hpL_locs (.cons (mayI_loc _ _) (.cons (rowA_loc _ _ _ _ _) LR)))) 51 #[.int .i64 y.run, .int .i64 y.kind, .int .i64 y.id, .int .i64 y.due, .int .u64 y.seq]
                  clear h3
                  go_upto_region 42 with fail
                  refine gen_world' (fun X => Has w X (blkA w5.heap.size 51 #[.int .i64 (y.run), .int .i64 (y.kind), .int .i64 (y.id), .int .i64 (y.due), .int .u64 (y.seq)] :: hpL hb 27 fh vh mh sh ys my (hpL qb 29 fq vq mq sq xs m (mayI mo sn :: rowA 49 12 (.slice pf3 L.length cf3) L.length (fiC nw (L.map fireOf)) :: R)))) h4 ?_
                  clear h4
                  generalize w5.heap.size = gr at *
                  intro w6 h4
                  have k3 : World.cell? w6 ⟨gr, 3, none⟩ = some (.int .i64 (y.due)) := h4.blk0.cell 3
                  have hln := len_any h4.drop
                  rw [HYL.out] at hln
                  go_wp2_with fail
                  refine hln.mono ?_
                  clear hln k3
                  rintro e w7 ⟨rfl, hw⟩
                  subst hw
                  have hln := len_any h4.drop.drop3
                  rw [HXL.out] at hln
                  go_wp2_with fail
                  refine hln.mono ?_
                  clear hln
                  rintro e w7 ⟨rfl, hw⟩
                  subst hw
                  have h5 := (h4.pick (l := [_, _, _, _, _, _, _, _, _]) (ps := R) [0, 8, 4, 5, 6, 1, 2, 3, 7] (by rfl)).drop.drop
                  clear h4
                  rcases HG.out with ha | ⟨ha, hC⟩
                  · subst ha
                    go_wp2_with fail
                    refine ⟨⟨i + 1, nw, -1, sn, rest, by omega, rfl, rfl, by go_num, by omega, by omega, Or.inl rfl, HS2.out, TwoH.mk HT2.out h5⟩, by simp [intOf]; omega⟩
                  · by_cases hle : a ≤ nw
                    · have hnx := hC w6 h5.drop3.drop3.drop nw (by omega) (by omega)
                      have HC := Lib.hid hC
                      clear hC
                      go_wp2_with fail
                      refine hnx.mono ?_
                      clear hnx
                      rintro e w7 ⟨z, f, rfl, hzf, hE7⟩
                      have h6 := h5.ext (hpL_locs (hpL_locs (.cons (mayI_loc _ _) LR))) hE7
                      clear h5 hE7
                      by_cases hf : f = 0
                      · obtain ⟨n1, n2⟩ := hzf hf
                        subst hf
                        have hzl : ¬ z ≤ nw := by omega
                        clear hzf
                        go_wp2_with fail
                        refine ⟨⟨i + 1, nw, z, sn, rest, by omega, rfl, rfl, by go_num, by omega, by omega, Or.inr ⟨by omega, HC.out⟩, HS2.out, TwoH.mk HT2.out h6⟩, by simp [intOf]; omega⟩
                      · clear hzf
                        go_wp2_with fail
                        refine ⟨⟨i + 1, nw, -1, sn, rest, by omega, rfl, rfl, by go_num, by omega, by omega, Or.inl rfl, HS2.out, TwoH.mk HT2.out h6⟩, by simp [intOf]; omega⟩
                    · have HC := Lib.hid hC
                      clear hC
                      go_wp2_with fail
                      refine ⟨⟨i + 1, nw, a, sn, rest, by omega, rfl, rfl, by go_num, by omega, by omega, Or.inr ⟨ha, HC.out⟩, HS2.out, TwoH.mk HT2.out h5⟩, by simp [intOf]; omega⟩
                · have hTR : TopR ys = .tuple #[.agg #[.int .i64 0, .int .i64 0, .int .i64 0, .int .i64 0, .int .u64 0], .bool false] := by
                    have : ys = [] := List.length_eq_zero_iff.1 (by omega)
                    subst this
                    rfl
                  rw [hTR]
                  have h4 := h3.new (hpL_locs (hpL_locs (.cons (mayI_loc _ _) (.cons (rowA_loc _ _ _ _ _) LR)))) 51 #[.int .i64 0, .int .i64 0, .int .i64 0, .int .i64 0, .int .u64 0]
                  clear h3 hTR hpos
                  go_upto_region 42 with fail
                  refine gen_world' (fun X => Has w X (blkA w5.heap.size 51 #[.int .i64 (0), .int .i64 (0), .int .i64 (0), .int .i64 (0), .int .u64 (0)] :: hpL hb 27 fh vh mh sh ys my (hpL qb 29 fq vq mq sq xs m (mayI mo sn :: rowA 49 12 (.slice pf3 L.length cf3) L.length (fiC nw (L.map fireOf)) :: R)))) h4 ?_
                  clear h4
                  generalize w5.heap.size = gr at *
                  intro w6 h4
                  have k3 : World.cell? w6 ⟨gr, 3, none⟩ = some (.int .i64 (0)) := h4.blk0.cell 3
                  have hln := len_any h4.drop
                  rw [HYL.out] at hln
                  go_wp2_with fail
                  refine hln.mono ?_
                  clear hln k3
                  rintro e w7 ⟨rfl, hw⟩
                  subst hw
                  have hln := len_any h4.drop.drop3
                  rw [HXL.out] at hln
                  go_wp2_with fail
                  refine hln.mono ?_
                  clear hln
                  rintro e w7 ⟨rfl, hw⟩
                  subst hw
                  have h5 := (h4.pick (l := [_, _, _, _, _, _, _, _, _]) (ps := R) [0, 8, 4, 5, 6, 1, 2, 3, 7] (by rfl)).drop.drop
                  clear h4
                  rcases HG.out with ha | ⟨ha, hC⟩
                  · subst ha
                    go_wp2_with fail
                    refine ⟨⟨i + 1, nw, -1, sn, rest, by omega, rfl, rfl, by go_num, by omega, by omega, Or.inl rfl, HS2.out, TwoH.mk HT2.out h5⟩, by simp [intOf]; omega⟩
                  · by_cases hle : a ≤ nw
                    · have hnx := hC w6 h5.drop3.drop3.drop nw (by omega) (by omega)
                      have HC := Lib.hid hC
                      clear hC
                      go_wp2_with fail
                      refine hnx.mono ?_
                      clear hnx
                      rintro e w7 ⟨z, f, rfl, hzf, hE7⟩
                      have h6 := h5.ext (hpL_locs (hpL_locs (.cons (mayI_loc _ _) LR))) hE7
                      clear h5 hE7
                      by_cases hf : f = 0
                      · obtain ⟨n1, n2⟩ := hzf hf
                        subst hf
                        have hzl : ¬ z ≤ nw := by omega
                        clear hzf
                        go_wp2_with fail
                        refine ⟨⟨i + 1, nw, z, sn, rest, by omega, rfl, rfl, by go_num, by omega, by omega, Or.inr ⟨by omega, HC.out⟩, HS2.out, TwoH.mk HT2.out h6⟩, by simp [intOf]; omega⟩
                      · clear hzf
                        go_wp2_with fail
                        refine ⟨⟨i + 1, nw, -1, sn, rest, by omega, rfl, rfl, by go_num, by omega, by omega, Or.inl rfl, HS2.out, TwoH.mk HT2.out h6⟩, by simp [intOf]; omega⟩
                    · have HC := Lib.hid hC
                      clear hC
                      go_wp2_with fail
                      refine ⟨⟨i + 1, nw, a, sn, rest, by omega, rfl, rfl, by go_num, by omega, by omega, Or.inr ⟨ha, HC.out⟩, HS2.out, TwoH.mk HT2.out h5⟩, by simp [intOf]; omega⟩
          · obtain ⟨FM, hFM⟩ := h1.drop3.drop3.head
            have hml := mayI_len hFM
            have hDl : wrap64 ((sn.length : Int) + xs.length) = D.length := by
              have e1 := HT.out.cx.len
              have e2 := HS.out.len
              have e3 : (sn.length : Int) + xs.length = D.length := by omega
              rw [e3]
              unfold wrap64
              omega
            clear hFM
            go_wp2_with fail
            refine (len_any h1).mono ?_
            rintro e w2 ⟨rfl, rfl⟩
            clear h1 hml
            go_wp2_with fail
            go_ret
            exact ⟨rfl, hE1⟩
end Go.Proofs.YtnbdcdeidhhgoaaDoor
