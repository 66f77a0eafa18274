/- The timers' queue: what is to be written at a tick. -/
import Derived.Test.YtnbdcdeidhhgoaaDoorHDue
import Derived.Test.YtnbdcdeidhhgoaaDoorTMay
namespace Go.Proofs.YtnbdcdeidhhgoaaDoor
set_option maxRecDepth 4000
set_option linter.unusedVariables false
set_option linter.unusedSimpArgs false
open Go Go.RowKit Go.Sort
/-- what is to be written: of which run, of which kind, and its number -/
structure Fi where
  run : Int
  kind : Int
  a : Int
def Fi.cells (now : Int) (f : Fi) : List Value := [.int .i64 f.run, .int .i64 0, .int .i64 now, .int .i64 f.kind, .int .i64 f.a, .int .i64 0, .string ⟨#[]⟩, .string ⟨#[]⟩, .int .i64 0, .int .i64 0, .string ⟨#[]⟩, .slice none 0 0]
def fiC (now : Int) (fs : List Fi) : List Value := fs.flatMap (Fi.cells now)
theorem fiC_length (now : Int) : ∀ fs : List Fi, (fiC now fs).length = fs.length * 12
  | [] => rfl
  | x :: xs => by
    show (x.cells now ++ fiC now xs).length = (xs.length + 1) * 12
    rw [List.length_append, fiC_length now xs]
    show 12 + _ = _
    omega
theorem fiC_get (now : Int) : ∀ (fs : List Fi) (i j : Nat) (h : i < fs.length), j < 12 → (fiC now fs)[i * 12 + j]? = (fs[i].cells now)[j]?
  | x :: xs, 0, j, _, hj => by
    show (x.cells now ++ fiC now xs)[0 * 12 + j]? = (x.cells now)[j]?
    rw [List.getElem?_append_left (by show 0 * 12 + j < 12; omega)]
    congr 1; omega
  | x :: xs, i + 1, j, h, hj => by
    show (x.cells now ++ fiC now xs)[(i + 1) * 12 + j]? = ((x :: xs)[i + 1].cells now)[j]?
    rw [List.getElem?_append_right (by show 12 ≤ (i + 1) * 12 + j; omega), show (i + 1) * 12 + j - (x.cells now).length = i * 12 + j by show (i + 1) * 12 + j - 12 = _; omega]
    exact fiC_get now xs i j (by simpa using h) hj
theorem fiC_append (now : Int) (a b : List Fi) : fiC now (a ++ b) = fiC now a ++ fiC now b := by simp [fiC]
theorem fi_one (now : Int) (f : Fi) : ∀ u ∈ f.cells now, u.oneCell' = true := by
  intro u hu
  unfold Fi.cells at hu
  simp only [List.mem_cons, List.not_mem_nil, or_false] at hu
  rcases hu with rfl | rfl | rfl | rfl | rfl | rfl | rfl | rfl | rfl | rfl | rfl | rfl <;> rfl
theorem ol3 {n : Nat} (h : n < 1000) : (n + 1) * 136 ≤ 140737488355328 := by omega
def firesL : List Int → List It → List Fi
  | _, [] => []
  | ov, t :: ds => if ov.contains t.run = true then firesL ov ds else if t.kind = 2 then ⟨t.run, 20, 0⟩ :: firesL (t.run :: ov) ds else ⟨t.run, 12, t.id⟩ :: firesL ov ds
theorem firesL_len : ∀ (ds : List It) (ov : List Int), (firesL ov ds).length ≤ ds.length
  | [], _ => Nat.le_refl _
  | t :: ds, ov => by
    rw [firesL]
    split
    · exact Nat.le_trans (firesL_len ds ov) (Nat.le_succ _)
    · split
      · exact Nat.succ_le_succ (firesL_len ds _)
      · exact Nat.succ_le_succ (firesL_len ds ov)
theorem fireInfo : (Tryd.prog.info? 49).map (fun i => (i.zero, i.size, i.bytes)) = some (some (.agg #[.int .i64 0, .int .i64 0, .int .i64 0, .int .i64 0, .int .i64 0, .int .i64 0, .string ⟨#[]⟩, .string ⟨#[]⟩, .int .i64 0, .int .i64 0, .string ⟨#[]⟩, .slice none 0 0]), 12, 136) := by kernel_rfl
theorem event_build (X : World) (now k a : Int) : (Instr.build 36 #[(1, .int .i64 now), (2, .int .i64 k), (3, .int .i64 a)]).run Tryd.prog X = .ok (.agg #[.int .i64 0, .int .i64 now, .int .i64 k, .int .i64 a, .int .i64 0, .string ⟨#[]⟩, .string ⟨#[]⟩, .int .i64 0, .int .i64 0, .string ⟨#[]⟩, .slice none 0 0]) X := by kernel_rfl
theorem event_build2 (X : World) (now k : Int) : (Instr.build 36 #[(1, .int .i64 now), (2, .int .i64 k)]).run Tryd.prog X = .ok (.agg #[.int .i64 0, .int .i64 now, .int .i64 k, .int .i64 0, .int .i64 0, .string ⟨#[]⟩, .string ⟨#[]⟩, .int .i64 0, .int .i64 0, .string ⟨#[]⟩, .slice none 0 0]) X := by kernel_rfl
theorem fire_build (X : World) (r now k a : Int) : (Instr.build 49 #[(0, .int .i64 r), (1, .agg #[.int .i64 0, .int .i64 now, .int .i64 k, .int .i64 a, .int .i64 0, .string ⟨#[]⟩, .string ⟨#[]⟩, .int .i64 0, .int .i64 0, .string ⟨#[]⟩, .slice none 0 0])]).run Tryd.prog X = .ok (.agg #[.int .i64 r, .int .i64 0, .int .i64 now, .int .i64 k, .int .i64 a, .int .i64 0, .string ⟨#[]⟩, .string ⟨#[]⟩, .int .i64 0, .int .i64 0, .string ⟨#[]⟩, .slice none 0 0]) X := by kernel_rfl
theorem zero_bool (w : World) : (zeroValue 4).run Tryd.prog w = .ok (.bool false) w := by kernel_rfl
def FiRel (w : World) (mo : Nat) (vd : Value) (ds : List It) (now : Int) (L : List Asr) (v6 v20 : Value) (wr : World) : Prop :=
  ∃ (j : Nat) (ov : List Int) (out : List Fi) (p : Option Addr) (c : Nat), v20 = .int .i64 j ∧ j ≤ ds.length ∧ v6 = .slice p out.length c ∧ out ++ firesL ov (ds.drop j) = firesL [] ds ∧
    Has w wr (rowA 49 12 (.slice p out.length c) out.length (fiC now out) :: mayI mo ov :: rowA 51 5 vd ds.length (itC ds) :: L)
def FiOut (w W' : World) (g : Nat) (T : TypeId) (full : Bool) (v mv : Value) (seq : Nat) (xs : List It) (m : HK → Option Nat) (now : Int) (ps : List Asr) (e : Ending) : Prop :=
  ∃ (p : Option Addr) (c : Nat) (ds : List It), ds.Perm (xs.filter fun t => decide (t.due ≤ now)) ∧ e = .returned (.slice p (firesL [] ds).length c) ∧ Has w W' (rowA 49 12 (.slice p (firesL [] ds).length c) (firesL [] ds).length (fiC now (firesL [] ds)) :: hpL g T full v mv seq xs m ps)
set_option maxHeartbeats 4000000 in
theorem fires_any {w W : World} {g : Nat} {T : TypeId} {full : Bool} {v mv : Value} {seq : Nat} {xs : List It} {m : HK → Option Nat} {ps : List Asr}
    (h : Has w W (hpL g T full v mv seq xs m ps)) (hl : Locs ps) (hh : Heap xs) (hx : xs.length ≤ 1000) (now : Int) (hn1 : -9223372036854775808 ≤ now) (hn2 : now ≤ 9223372036854775807) :
    Calls Tryd.prog 5 #[.pointer (some ⟨g, 0, none⟩), .int .i64 now] W fun e W' => FiOut w W' g T full v mv seq xs m now ps e := by
  have LH : Locs (hpL g T full v mv seq xs m ps) := hpL_locs hl
  have hmm := @run_makeMap Tryd.prog
  go_enter Tryd.func5, Tryd.ntmps5
  go_wp2_with fail
  refine (due_any h hl hh hx now hn1 hn2).mono ?_
  clear h
  rintro e w1 ⟨pd, cd, ds0, hP0, rfl, h1⟩
  have hdl : ds0.length ≤ 1000 := by
    have := hP0.length_eq
    have h2 := List.length_filter_le (fun t => decide (t.due ≤ now)) xs
    omega
  have HP0 := Lib.hid hP0
  clear hP0
  go_wp2_with fail
  refine (sortT h1.row0 (by omega)).mono ?_
  rintro e w2 ⟨ds, hys, rfl, hown, hg⟩
  have h2 := sorted_has h1 LH hown hg
  have hdd : ds.length = ds0.length := hys.length_eq
  have hPD : Hid (ds.Perm (xs.filter fun t => decide (t.due ≤ now))) := Lib.hid (hys.trans HP0.out)
  rw [← hdd] at hdl
  rw [← hdd] at h2 ⊢
  clear hown hg h1 hys HP0 hdd
  have h3 := (h2.mayI (.cons (rowA_loc _ _ _ _ _) LH)).rowNil (.cons (mayI_loc _ _) (.cons (rowA_loc _ _ _ _ _) LH)) 49 12
  clear h2
  go_wp2_with fail
  generalize hmo : w2.heap.size = mo at *
  clear hmo hmm
  go_loopw [6, 20] (fun v6 v20 wr => FiRel w mo (.slice pd ds.length cd) ds now (hpL g T full v mv seq xs m ps) v6 v20 wr) (fun _ v20 _ => ((ds.length : Int) + 1 - intOf v20).toNat)
  case atStart => exact ⟨0, [], [], none, 0, rfl, Nat.zero_le _, rfl, rfl, h3⟩
  case round =>
    clear h3
    obtain ⟨j, ov, out, p, c, rfl, hj, rfl, hE, h3⟩ := hrel
    have LF : ∀ {r : Value} {n : Nat} {l : List Value} {o : List Int}, Locs (rowA 49 12 r n l :: mayI mo o :: rowA 51 5 (.slice pd ds.length cd) ds.length (itC ds) :: hpL g T full v mv seq xs m ps) := .cons (rowA_loc _ _ _ _ _) (.cons (mayI_loc _ _) (.cons (rowA_loc _ _ _ _ _) LH))
    by_cases hjl : j < ds.length
    · have hji : (j : Int) < ds.length := by omega
      obtain ⟨F, hF⟩ := h3.drop.drop.head
      have hF2 := its_of_row hF
      obtain ⟨gd, cd', hvd, _⟩ := its_some hF2 (by omega)
      injection hvd with hvd _ hcd
      subst hvd hcd
      have hr := item_range hF2 j hjl rfl
      have hdr : ds.drop j = gt ds j :: ds.drop (j + 1) := by rw [List.drop_eq_getElem_cons hjl, gt_lt ds hjl]
      rw [hdr] at hE
      clear hF hF2 hdr
      obtain ⟨x, hxe⟩ : ∃ x, gt ds j = x := ⟨_, rfl⟩
      rw [hxe] at hr hE
      have z0 := hr 0 _ rfl
      have z1 := hr 1 _ rfl
      have z2 := hr 2 _ rfl
      have z3 := hr 3 _ rfl
      have z4 := hr 4 _ rfl
      simp only [Nat.add_zero] at z0
      have hol : out.length + (firesL ov (x :: ds.drop (j + 1))).length ≤ ds.length := by
        have h1 := congrArg List.length hE
        rw [List.length_append] at h1
        have h2 := firesL_len ds []
        omega
      rw [firesL] at hE hol
      have HE := Lib.hid hE
      clear hE hxe hr
      have h4 := h3.new LF 51 #[.int .i64 x.run, .int .i64 x.kind, .int .i64 x.id, .int .i64 x.due, .int .u64 x.seq]
      clear h3
      go_upto_region 9 with fail
      refine gen_world' (fun X => Has w X (blkA wr.heap.size 51 #[.int .i64 x.run, .int .i64 x.kind, .int .i64 x.id, .int .i64 x.due, .int .u64 x.seq] :: rowA 49 12 (.slice p out.length c) out.length (fiC now out) :: mayI mo ov :: rowA 51 5 (.slice (some ⟨gd, 0, none⟩) ds.length cd) ds.length (itC ds) :: hpL g T full v mv seq xs m ps)) h4 ?_
      clear h4 z0 z1 z2 z3 z4
      generalize wr.heap.size = gx at *
      intro w4 h4
      have hbx := h4.blk0
      have b0 := hbx.cell 0
      have b1 := hbx.cell 1
      have b2 := hbx.cell 2
      simp only [List.getElem?_toArray, List.getElem?_cons_zero, List.getElem?_cons_succ] at b0 b1 b2
      clear hbx
      obtain ⟨FM, hFM⟩ := h4.drop.drop.head
      have hlk := mayI_look Tryd.underlying64 Tryd.underlying3 (zero_bool w4) hFM x.run
      by_cases hov : ov.contains x.run = true
      · rw [hov] at hlk
        have hE2 := HE.out
        rw [if_pos hov] at hE2
        have HE2 := Lib.hid hE2
        clear hE2 hov hFM hol
        go_wp2_with fail
        exact ⟨⟨j + 1, ov, out, p, c, by go_num, hjl, rfl, HE2.out, h4.drop⟩, by simp [intOf]; omega⟩
      · have hov' : ov.contains x.run = false := by simpa using hov
        rw [hov'] at hlk
        rw [if_neg hov] at hol
        have hE1 := HE.out
        rw [if_neg hov] at hE1
        obtain ⟨i0, hi0, hz0, hz1, hz2⟩ := info_parts fireInfo
        by_cases hk2 : x.kind = 2
        · rw [if_pos hk2] at hE1 hol
          have hk2b : (x.kind == 2) = true := by simpa using hk2
          have HE2 := Lib.hid hE1
          have hol2 : out.length < 1000 := by rw [List.length_cons] at hol; omega
          have HOV := Lib.hid hov'
          clear hE1 hov hov' hol hFM hk2
          obtain ⟨w5, hrun, h5⟩ := mayI_put Tryd.underlying64 Tryd.underlying3 (h4.pick (l := [_, _, _]) (ps := _ :: hpL g T full v mv seq xs m ps) [2, 0, 1] (by rfl)) (.cons (blkA_loc _ _ _) (.cons (rowA_loc _ _ _ _ _) (.cons (rowA_loc _ _ _ _ _) LH))) x.run HOV.out
          go_upto_region 12 with fail
          clear hrun hlk b0 b1 b2 h4
          have hbx := h5.drop.blk0
          have b0 := hbx.cell 0
          simp only [List.getElem?_toArray, List.getElem?_cons_zero, List.getElem?_cons_succ] at b0
          clear hbx
          have hb1 := fun X => event_build2 X now 20
          have hb2 := fun X => fire_build X x.run now 20 0
          have h6 := h5.ext (.cons (mayI_loc _ _) (.cons (blkA_loc _ _ _) (.cons (rowA_loc _ _ _ _ _) (.cons (rowA_loc _ _ _ _ _) LH)))) (ext_alloc w5 (.cells #[.int .i64 x.run, .int .i64 0, .int .i64 now, .int .i64 20, .int .i64 0, .int .i64 0, .string ⟨#[]⟩, .string ⟨#[]⟩, .int .i64 0, .int .i64 0, .string ⟨#[]⟩, .slice none 0 0] 49))
          have hnews := news_new w5 [.int .i64 x.run, .int .i64 0, .int .i64 now, .int .i64 20, .int .i64 0, .int .i64 0, .string ⟨#[]⟩, .string ⟨#[]⟩, .int .i64 0, .int .i64 0, .string ⟨#[]⟩, .slice none 0 0] 49
          clear h5
          have h6r := h6.drop.drop.row0
          go_wp2_with (at_builtin; go_loud (refine wpList_append_new rfl _ _ 37 rfl 49 i0 (.agg #[.int .i64 0, .int .i64 0, .int .i64 0, .int .i64 0, .int .i64 0, .int .i64 0, .string ⟨#[]⟩, .string ⟨#[]⟩, .int .i64 0, .int .i64 0, .string ⟨#[]⟩, .slice none 0 0]) 12 136 Tryd.underlying37 hi0 hz0 hz1 hz2 rfl (by decide) _ out.length (fiC now out) rfl h6r (some ⟨(w5).heap.size, 0, none⟩) 1 1 [.int .i64 x.run, .int .i64 0, .int .i64 now, .int .i64 20, .int .i64 0, .int .i64 0, .string ⟨#[]⟩, .string ⟨#[]⟩, .int .i64 0, .int .i64 0, .string ⟨#[]⟩, .slice none 0 0] rfl rfl (fun h => nomatch h) hnews (fi_one now ⟨x.run, 20, 0⟩) (ol1 (Nat.le_of_lt hol2)) (ol3 hol2) ?_))
          intro v7 w7 hown7 hg7 hf7
          obtain ⟨p7, c7, rfl⟩ := ownsRow_slice hown7
          have hcat : fiC now out ++ [.int .i64 x.run, .int .i64 0, .int .i64 now, .int .i64 20, .int .i64 0, .int .i64 0, .string ⟨#[]⟩, .string ⟨#[]⟩, .int .i64 0, .int .i64 0, .string ⟨#[]⟩, .slice none 0 0] = fiC now (out ++ [⟨x.run, 20, 0⟩]) := by rw [fiC_append]; rfl
          rw [hcat] at hown7
          have h7 := (h6.pick (l := [_, _, _]) (ps := _ :: hpL g T full v mv seq xs m ps) [2, 0, 1] (by rfl)).grow (.cons (mayI_loc _ _) (.cons (blkA_loc _ _ _) (.cons (rowA_loc _ _ _ _ _) LH))) hown7 hg7 hf7
          clear h6 hcat hown7 hg7 hf7 hnews hi0 hz0 hz1 hz2 h6r hb1 hb2 b0
          have h8 := (h7.pick (l := [_, _, _]) (ps := _ :: hpL g T full v mv seq xs m ps) [2, 0, 1] (by rfl)).drop
          go_wp2_with fail
          have hLL : (out ++ [(⟨x.run, 20, 0⟩ : Fi)]).length = out.length + 1 := by simp
          refine ⟨⟨j + 1, x.run :: ov, out ++ [⟨x.run, 20, 0⟩], p7, c7, by go_num, hjl, by rw [hLL], ?_, by rw [hLL]; exact h8⟩, by simp [intOf]; omega⟩
          rw [List.append_assoc]
          exact HE2.out
        · rw [if_neg hk2] at hE1 hol
          have hk2b : (x.kind == 2) = false := by simpa using hk2
          have HE2 := Lib.hid hE1
          have hol2 : out.length < 1000 := by rw [List.length_cons] at hol; omega
          clear hE1 hov hov' hol hFM hk2
          have hb1 := fun X => event_build X now 12 x.id
          have hb2 := fun X => fire_build X x.run now 12 x.id
          have h6 := h4.ext (.cons (blkA_loc _ _ _) LF) (ext_alloc w4 (.cells #[.int .i64 x.run, .int .i64 0, .int .i64 now, .int .i64 12, .int .i64 x.id, .int .i64 0, .string ⟨#[]⟩, .string ⟨#[]⟩, .int .i64 0, .int .i64 0, .string ⟨#[]⟩, .slice none 0 0] 49))
          have hnews := news_new w4 [.int .i64 x.run, .int .i64 0, .int .i64 now, .int .i64 12, .int .i64 x.id, .int .i64 0, .string ⟨#[]⟩, .string ⟨#[]⟩, .int .i64 0, .int .i64 0, .string ⟨#[]⟩, .slice none 0 0] 49
          clear h4
          have h6r := h6.drop.row0
          go_upto_region 8 with fail
          go_wp2_with (at_builtin; go_loud (refine wpList_append_new rfl _ _ 37 rfl 49 i0 (.agg #[.int .i64 0, .int .i64 0, .int .i64 0, .int .i64 0, .int .i64 0, .int .i64 0, .string ⟨#[]⟩, .string ⟨#[]⟩, .int .i64 0, .int .i64 0, .string ⟨#[]⟩, .slice none 0 0]) 12 136 Tryd.underlying37 hi0 hz0 hz1 hz2 rfl (by decide) _ out.length (fiC now out) rfl h6r (some ⟨(w4).heap.size, 0, none⟩) 1 1 [.int .i64 x.run, .int .i64 0, .int .i64 now, .int .i64 12, .int .i64 x.id, .int .i64 0, .string ⟨#[]⟩, .string ⟨#[]⟩, .int .i64 0, .int .i64 0, .string ⟨#[]⟩, .slice none 0 0] rfl rfl (fun h => nomatch h) hnews (fi_one now ⟨x.run, 12, x.id⟩) (ol1 (Nat.le_of_lt hol2)) (ol3 hol2) ?_))
          intro v7 w7 hown7 hg7 hf7
          obtain ⟨p7, c7, rfl⟩ := ownsRow_slice hown7
          have hcat : fiC now out ++ [.int .i64 x.run, .int .i64 0, .int .i64 now, .int .i64 12, .int .i64 x.id, .int .i64 0, .string ⟨#[]⟩, .string ⟨#[]⟩, .int .i64 0, .int .i64 0, .string ⟨#[]⟩, .slice none 0 0] = fiC now (out ++ [⟨x.run, 12, x.id⟩]) := by rw [fiC_append]; rfl
          rw [hcat] at hown7
          have h7 := (h6.swap).grow (.cons (blkA_loc _ _ _) (.cons (mayI_loc _ _) (.cons (rowA_loc _ _ _ _ _) LH))) hown7 hg7 hf7
          clear h6 hcat hown7 hg7 hf7 hnews hi0 hz0 hz1 hz2 h6r hb1 hb2 b0 b1 b2 hlk
          have h8 := h7.swap.drop
          go_wp2_with fail
          have hLL : (out ++ [(⟨x.run, 12, x.id⟩ : Fi)]).length = out.length + 1 := by simp
          refine ⟨⟨j + 1, ov, out ++ [⟨x.run, 12, x.id⟩], p7, c7, by go_num, hjl, by rw [hLL], ?_, by rw [hLL]; exact h8⟩, by simp [intOf]; omega⟩
          rw [List.append_assoc]
          exact HE2.out
    · have hje : j = ds.length := by omega
      have hjn : ¬ (j : Int) < ds.length := by omega
      rw [hje, List.drop_length] at hE
      have hE2 : out = firesL [] ds := by rw [← hE]; simp [firesL]
      have HE2 := Lib.hid hE2
      clear hE hE2 hje
      go_wp2_with fail
      go_ret
      refine ⟨p, c, ds, hPD.out, ?_, ?_⟩
      · rw [← HE2.out]; rfl
      · rw [← HE2.out]
        exact ((h3.perm (List.Perm.cons _ ((List.Perm.swap _ _ _).trans (List.Perm.refl _)))).swap.drop).swap.drop
end Go.Proofs.YtnbdcdeidhhgoaaDoor
