/- A heap's Due. -/
import Derived.Test.YtnbdcdeidhhgoaaDoorHDueP
import Derived.Test.YtnbdcdeidhhgoaaDoorHQueue
import Derived.Test.YtnbdcdeidhhgoaaDoorHSort
import Derived.Test.YtnbdcdeidhhgoaaDoorHPut
namespace Go.Proofs.YtnbdcdeidhhgoaaDoor
set_option maxRecDepth 4000
set_option linter.unusedVariables false
set_option linter.unusedSimpArgs false
open Go Go.RowKit Go.Sort
theorem wpList_append_run {P : Program} {w : World} {ops : Array Oper} {rest : List Oper} {o : Oper} {a : Act} {Q : Exit → Act → World → Prop} (hgd : o.guard = none) (s x : Operand) (t : TypeId)
    (ho : o.op = .call { callee := .builtin .append, args := #[s, x], argTypes := #[t, t] }) (v xv : Value) (hs : a.eval s = v) (hx : a.eval x = xv) (v' : Value) (w' : World) (hr : (Builtin.append_ #[t, t] o.type #[v, xv]).run P w = .ok v' w')
    (h : wpList P ops Q rest (a.put o.dst v') w') : wpList P ops Q (o :: rest) a w :=
  wpList_plain hgd fun K hK => by
    unfold Oper.wp execOp
    simp only [ho, resolve, invoke, builtin, Sem.run_bind, Sem.run_pure, Result.andThen_ok, List.map_toArray, List.map_cons, List.map_nil, hs, hx, hr]
    exact hK _ _ h
theorem bfs_yes {xs : List It} {now : Int} {i : Nat} (h : isDue xs now i = true) (out rest : List Nat) : (out ++ [i] ++ (rest ++ [2 * i + 1, 2 * i + 2]).flatMap (subI xs now)).Perm (out ++ (i :: rest).flatMap (subI xs now)) := by
  rw [List.flatMap_cons, subI_yes h, List.flatMap_append, List.append_assoc]
  refine List.Perm.append_left out ?_
  have e : [2 * i + 1, 2 * i + 2].flatMap (subI xs now) = subI xs now (2 * i + 1) ++ subI xs now (2 * i + 2) := by simp
  rw [e]
  show (i :: (rest.flatMap (subI xs now) ++ (subI xs now (2 * i + 1) ++ subI xs now (2 * i + 2)))).Perm (i :: ((subI xs now (2 * i + 1) ++ subI xs now (2 * i + 2)) ++ rest.flatMap (subI xs now)))
  exact List.Perm.cons _ List.perm_append_comm
theorem bfs_no {xs : List It} {now : Int} {i : Nat} (h : ¬ isDue xs now i = true) (rest : List Nat) : (i :: rest).flatMap (subI xs now) = rest.flatMap (subI xs now) := by
  rw [List.flatMap_cons, subI_no h, List.nil_append]
theorem bfs_len {xs : List It} {now : Int} {i : Nat} (h : isDue xs now i = true) (rest : List Nat) : ((rest ++ [2 * i + 1, 2 * i + 2]).flatMap (subI xs now)).length + 1 = ((i :: rest).flatMap (subI xs now)).length := by
  have := (bfs_yes h [] rest).length_eq
  simp only [List.nil_append, List.length_append, List.length_singleton] at this
  omega
theorem ol1 {n : Nat} (h : n ≤ 1000) : n + 1 ≤ maxLen := by unfold maxLen; omega
theorem ol2 {n : Nat} (h : n ≤ 1000) : (n + 1) * 40 ≤ 140737488355328 := by omega
def lenOf (v : Value) : Nat := match v with | .slice _ n _ => n | _ => 0
def natsI (l : List Nat) : List Int := l.map fun n : Nat => (n : Int)
theorem natsI_length (l : List Nat) : (natsI l).length = l.length := by simp [natsI]
def DuRel (w : World) (g : Nat) (T : TypeId) (full : Bool) (v mv : Value) (seq : Nat) (xs : List It) (m : HK → Option Nat) (now : Int) (ps : List Asr) (v5 v6 : Value) (wr : World) : Prop :=
  ∃ (out todo : List Nat) (p5 : Option Addr) (c5 : Nat) (a6 : Addr) (c6 : Nat), v5 = .slice p5 out.length c5 ∧ v6 = .slice (some a6) todo.length c6 ∧ (out ++ todo.flatMap (subI xs now)).Perm (subI xs now 0) ∧ 2 * (todo.flatMap (subI xs now)).length + todo.length ≤ 2 * (subI xs now 0).length + 1 ∧ (∀ i ∈ todo, i ≤ 2 * xs.length + 2) ∧
    Has w wr (qvA (.slice (some a6) todo.length c6) (natsI todo) :: rowA 51 5 (.slice p5 out.length c5) out.length (itC (out.map (gt xs))) :: hpL g T full v mv seq xs m ps)
def DueOut (w W' : World) (g : Nat) (T : TypeId) (full : Bool) (v mv : Value) (seq : Nat) (xs : List It) (m : HK → Option Nat) (now : Int) (ps : List Asr) (e : Ending) : Prop :=
  ∃ (p : Option Addr) (c : Nat) (ds : List It), ds.Perm (xs.filter fun t => decide (t.due ≤ now)) ∧ e = .returned (.slice p ds.length c) ∧ Has w W' (rowA 51 5 (.slice p ds.length c) ds.length (itC ds) :: hpL g T full v mv seq xs m ps)
set_option maxHeartbeats 4000000 in
theorem due_any {w W : World} {g : Nat} {T : TypeId} {full : Bool} {v mv : Value} {seq : Nat} {xs : List It} {m : HK → Option Nat} {ps : List Asr}
    (h : Has w W (hpL g T full v mv seq xs m ps)) (hl : Locs ps) (hh : Heap xs) (hx : xs.length ≤ 1000) (now : Int) (hn1 : -9223372036854775808 ≤ now) (hn2 : now ≤ 9223372036854775807) :
    Calls Tryd.prog 15 #[.pointer (some ⟨g, 0, none⟩), .int .i64 now] W fun e W' => DueOut w W' g T full v mv seq xs m now ps e := by
  have LH : Locs (hpL g T full v mv seq xs m ps) := hpL_locs hl
  obtain ⟨F, hF⟩ := h.drop.head
  obtain ⟨pv, cv, hv, _⟩ := its_slice hF
  subst hv
  clear hF
  have hN := sub_len (now := now) hh
  have hnews0 := World.ownsRow_lit (size := 1) W #[.int .i64 0] 1 (Nat.le_refl _) (by unfold maxLen; omega) (e := 3) rfl
  have hHP := Lib.hid (sub_perm (now := now) hh)
  go_enter Tryd.func15, Tryd.ntmps15
  have h1 := h.rowNil LH 51 5
  have h2 : Has w (W.alloc (.cells #[.int .i64 0] 3)) (qvA (.slice (some ⟨W.heap.size, 0, none⟩) 1 1) (natsI [0]) :: rowA 51 5 (.slice none 0 0) 0 (itC []) :: hpL g T full (.slice pv xs.length cv) mv seq xs m ps) :=
    h1.add (.cons (rowA_loc _ _ _ _ _) LH) (ext_alloc W _) (qv_of_row (zs := [0]) hnews0 (by omega)) (fun k hk => by injection hk with hk; exact Nat.le_of_eq hk)
  have hst : (([] : List Nat) ++ [0].flatMap (subI xs now)).Perm (subI xs now 0) := by simp
  have hst2 : 2 * ([0].flatMap (subI xs now)).length + [0].length ≤ 2 * (subI xs now 0).length + 1 := by simp
  clear h h1 hnews0
  go_wp2_with fail
  generalize hNN : (subI xs now 0).length = N at *
  go_loopw [5, 6] (fun v5 v6 wr => DuRel w g T full (.slice pv xs.length cv) mv seq xs m now ps v5 v6 wr) (fun v5 v6 _ => 2 * N + 1 + lenOf v6 - 2 * lenOf v5)
  case atStart => exact ⟨[], [0], none, 0, _, 1, rfl, rfl, hst, by rw [hNN]; exact hst2, by simp, h2⟩
  case round =>
    clear h2 hst hst2
    obtain ⟨out, todo, p5, c5, a6, c6, rfl, rfl, hP, hLn, hB, h3⟩ := hrel
    rw [hNN] at hLn
    have hPl := hP.length_eq
    rw [List.length_append, hNN] at hPl
    obtain ⟨fl, hfl⟩ : ∃ fl, (todo.flatMap (subI xs now)).length = fl := ⟨_, rfl⟩
    rw [hfl] at hPl hLn
    have HFL := Lib.hid hfl
    have hOL : out.length ≤ 1000 := by clear hfl; omega
    clear hfl
    have HPP := Lib.hid hP
    have HBB := Lib.hid hB
    have HNN := Lib.hid hNN
    clear hP hB hNN
    cases todo with
    | nil =>
      clear hPl hLn hOL
      have h4 := h3.drop
      have hml : (out.map (gt xs)).length = out.length := List.length_map ..
      have hsz : (out.map (gt xs)).length < 1000000 := by
        have := HPP.out.length_eq
        rw [List.flatMap_nil, List.append_nil, HNN.out] at this
        rw [hml]; omega
      have HML := Lib.hid hml
      have hsrt := sortH (v := .slice p5 out.length c5) (xs := out.map (gt xs)) (by rw [hml]; exact h4.row0) hsz
      clear h3 hml hsz
      go_wp2_with fail
      refine hsrt.mono ?_
      clear hsrt
      rintro e w5 ⟨ys, hys, rfl, hown, hg⟩
      have h5 := sorted_has (xs := out.map (gt xs)) (by rw [HML.out]; exact h4) LH hown hg
      clear h4 hown hg
      go_wp2_with fail
      go_ret
      have hyl : ys.length = out.length := hys.length_eq.trans HML.out
      refine ⟨p5, c5, ys, ?_, by rw [hyl]; rfl, ?_⟩
      · have h6 := HPP.out
        rw [List.flatMap_nil, List.append_nil] at h6
        exact hys.trans ((h6.map (gt xs)).trans hHP.out)
      · rw [← hyl] at h5; exact h5
    | cons i rest =>
      have hrl : (i :: rest).length = rest.length + 1 := rfl
      rw [hrl] at h3 hLn ⊢
      have h0 : (0 : Int) < ((rest.length + 1 : Nat) : Int) := by omega
      obtain ⟨F, hF⟩ := h3.head
      obtain ⟨gq, oq, cq, hv6, y0, hcq⟩ := qv_head (z := (i : Int)) (zs := natsI rest) hF
      rw [natsI_length] at hv6 hcq
      injection hv6 with ha6 _ hc6
      injection ha6 with ha6
      subst ha6 hc6
      obtain ⟨v6', hsl, h4⟩ := qv_tail (z := (i : Int)) (zs := natsI rest) h3
      obtain ⟨F', hF'⟩ := h4.head
      obtain ⟨a7, c7, hv7, _⟩ := qv_slice hF'
      rw [natsI_length] at hv7
      subst hv7
      clear hF hF' h3
      have k0 := h4.drop.drop.blk0.cell 0
      simp only [List.getElem?_toArray, List.getElem?_cons_zero] at k0
      have hib : i ≤ 2 * xs.length + 2 := HBB.out i (List.mem_cons_self)
      have LQ : ∀ {q : Value} {zs : List Int} {r : Value} {n : Nat} {l : List Value}, Locs (qvA q zs :: rowA 51 5 r n l :: hpL g T full (.slice pv xs.length cv) mv seq xs m ps) := .cons (qvA_loc _ _) (.cons (rowA_loc _ _ _ _ _) LH)
      by_cases hdue : isDue xs now i = true
      · have hin : i < xs.length := isDue_lt hdue
        have hle : (gt xs i).due ≤ now := by unfold isDue at hdue; simp at hdue; exact hdue.2
        obtain ⟨F, hF⟩ := h4.drop.drop.drop.head
        obtain ⟨gi, cv', hv2, _⟩ := its_some hF (by omega)
        injection hv2 with hv2 _ _
        subst hv2
        have hr := item_range hF i hin rfl
        clear hF
        obtain ⟨x, hxe⟩ : ∃ x, gt xs i = x := ⟨_, rfl⟩
        rw [hxe] at hr hle
        have z0 := hr 0 _ rfl
        have z1 := hr 1 _ rfl
        have z2 := hr 2 _ rfl
        have z3 := hr 3 _ rfl
        have z4 := hr 4 _ rfl
        simp only [Nat.add_zero] at z0
        have HXE := Lib.hid hxe
        have HDUE := Lib.hid hdue
        have hini : (i : Int) < xs.length := by omega
        have hle2 : ¬ now < x.due := by omega
        clear hxe hdue hr
        have h5 := h4.ext LQ (ext_alloc wr (.cells #[.int .i64 x.run, .int .i64 x.kind, .int .i64 x.id, .int .i64 x.due, .int .u64 x.seq] 51))
        have hnews := news_new wr [.int .i64 x.run, .int .i64 x.kind, .int .i64 x.id, .int .i64 x.due, .int .u64 x.seq] 51
        obtain ⟨i0, hi0, hz0, hz1, hz2⟩ := info_parts itemInfo
        clear h4
        go_upto_region 7 with fail
        go_wp2_with (at_builtin; go_loud (refine wpList_append_new rfl _ _ 23 rfl 51 i0 (.agg #[.int .i64 0, .int .i64 0, .int .i64 0, .int .i64 0, .int .u64 0]) 5 40 Tryd.underlying23 hi0 hz0 hz1 hz2 rfl (by decide) _ out.length (itC (out.map (gt xs))) rfl h5.drop.row0 (some ⟨wr.heap.size, 0, none⟩) 1 1 [.int .i64 x.run, .int .i64 x.kind, .int .i64 x.id, .int .i64 x.due, .int .u64 x.seq] rfl rfl (fun h => nomatch h) hnews (by intro u hu; simp at hu; rcases hu with rfl | rfl | rfl | rfl | rfl <;> rfl) (ol1 hOL) (ol2 hOL) ?_))
        intro v' w6 hown6 hg6 hf6
        obtain ⟨p6, c8, rfl⟩ := ownsRow_slice hown6
        have hcat : itC (out.map (gt xs)) ++ [.int .i64 x.run, .int .i64 x.kind, .int .i64 x.id, .int .i64 x.due, .int .u64 x.seq] = itC ((out ++ [i]).map (gt xs)) := by rw [List.map_append, itC_append, List.map_cons, HXE.out]; rfl
        rw [hcat] at hown6
        have h6 := (h5.swap).grow (.cons (qvA_loc _ _) LH) hown6 hg6 hf6
        clear h5 hcat hown6 hg6 hf6 hnews hi0 hz0 hz1 hz2 z0 z1 z2 z3 z4 k0
        obtain ⟨k1, hk1⟩ : ∃ k1, 2 * i + 1 = k1 := ⟨_, rfl⟩
        obtain ⟨k2, hk2⟩ : ∃ k2, 2 * i + 2 = k2 := ⟨_, rfl⟩
        have hi1 : 2 * (i : Int) + 1 = (k1 : Int) := by rw [← hk1]; rfl
        have hi2 : 2 * (i : Int) + 2 = (k2 : Int) := by rw [← hk2]; rfl
        have HK1 := Lib.hid hk1
        have HK2 := Lib.hid hk2
        clear hk1 hk2
        have LQ2 : ∀ {q : Value} {zs : List Int} {r : Value} {n : Nat} {l : List Value}, Locs (rowA 51 5 r n l :: qvA q zs :: hpL g T full (.slice (some ⟨gi, 0, none⟩) xs.length cv) mv seq xs m ps) := .cons (rowA_loc _ _ _ _ _) (.cons (qvA_loc _ _) LH)
        have h7 := (h6.ext LQ2 (ext_alloc w6 (.cells #[.int .i64 k1, .int .i64 k2] 3))).swap
        have hnw := fun j u hj => news_new w6 [.int .i64 k1, .int .i64 k2] 3 _ rfl j u hj
        have hrz : (natsI rest).length ≤ 1000000 := by rw [natsI_length]; have := HFL.out; clear HPP HBB; omega
        obtain ⟨v8, w8, hrun, h8⟩ := qv_append h7 (.cons (rowA_loc _ _ _ _ _) LH) hrz 89 ⟨w6.heap.size, 0, none⟩ k1 k2 hnw
        have hcat2 : natsI rest ++ [(k1 : Int), (k2 : Int)] = natsI (rest ++ [k1, k2]) := by simp [natsI]
        rw [hcat2] at h8
        clear hcat2
        clear h6 h7 hnw hrz
        obtain ⟨F8, hF8⟩ := h8.head
        obtain ⟨a9, c9, hv8, _⟩ := qv_slice hF8
        have hv8' : v8 = .slice (some a9) (rest.length + 2) c9 := by rw [hv8, natsI_length]; simp
        clear hv8 hF8
        subst hv8'
        go_upto_region 8 with fail
        go_wp2_with (at_builtin; go_loud (refine wpList_append_run rfl _ _ 89 rfl _ _ rfl rfl _ _ hrun ?_))
        have hol1 : (out ++ [i]).length = out.length + 1 := by simp
        have hrl2 : (rest ++ [k1, k2]).length = rest.length + 2 := by simp
        refine ⟨⟨out ++ [i], rest ++ [k1, k2], p6, c8, a9, c9, by rw [hol1], by rw [hrl2], ?_, ?_, ?_, ?_⟩, ?_⟩
        · have := (bfs_yes HDUE.out out rest).trans HPP.out
          rw [HK1.out, HK2.out] at this
          exact this
        · have h9 := bfs_len HDUE.out rest
          rw [HK1.out, HK2.out, HFL.out] at h9
          rw [HNN.out, hrl2]
          generalize ((rest ++ [k1, k2]).flatMap (subI xs now)).length = q at *
          clear HPP HBB HFL HNN
          omega
        · intro j hj
          rcases List.mem_append.1 hj with hj | hj
          · exact HBB.out j (List.mem_cons_of_mem _ hj)
          · have h1 := HK1.out
            have h2 := HK2.out
            have h3 := isDue_lt HDUE.out
            simp at hj
            clear HPP HBB HFL HNN
            omega
        · rw [hol1, hrl2]
          exact h8
        · simp [lenOf]
          clear HPP HBB HFL HNN
          omega
      · have hno : ¬ isDue xs now i = true := hdue
        have hxl : (rest.length + 1 : Nat) = rest.length + 1 := rfl
        have HNO := Lib.hid hno
        by_cases hin : i < xs.length
        · have hgt : ¬ (gt xs i).due ≤ now := fun e => hdue (by unfold isDue; simp [hin, e])
          obtain ⟨F, hF⟩ := h4.drop.drop.drop.head
          obtain ⟨gi, cv', hv2, _⟩ := its_some hF (by omega)
          injection hv2 with hv2 _ _
          subst hv2
          have hr := item_range hF i hin rfl
          clear hF
          obtain ⟨x, hxe⟩ : ∃ x, gt xs i = x := ⟨_, rfl⟩
          rw [hxe] at hr hgt
          have z3 := hr 3 _ rfl
          have hini : (i : Int) < xs.length := by omega
          have hgt2 : now < x.due := by omega
          clear hxe hdue hr hno
          go_wp2_with fail
          refine ⟨⟨out, rest, p5, c5, a7, c7, rfl, rfl, ?_, ?_, ?_, h4⟩, ?_⟩
          · have := HPP.out
            rw [bfs_no HNO.out] at this
            exact this
          · have h9 := HFL.out
            rw [bfs_no HNO.out] at h9
            rw [HNN.out, h9]
            clear HPP HBB HFL HNN
            omega
          · exact fun j hj => HBB.out j (List.mem_cons_of_mem _ hj)
          · simp [lenOf]
            clear HPP HBB HFL HNN
            omega
        · have hini : ¬ (i : Int) < xs.length := by omega
          have hini2 : (xs.length : Int) ≤ i := by omega
          clear hdue hno
          go_wp2_with fail
          refine ⟨⟨out, rest, p5, c5, a7, c7, rfl, rfl, ?_, ?_, ?_, h4⟩, ?_⟩
          · have := HPP.out
            rw [bfs_no HNO.out] at this
            exact this
          · have h9 := HFL.out
            rw [bfs_no HNO.out] at h9
            rw [HNN.out, h9]
            clear HPP HBB HFL HNN
            omega
          · exact fun j hj => HBB.out j (List.mem_cons_of_mem _ hj)
          · simp [lenOf]
            clear HPP HBB HFL HNN
            omega
end Go.Proofs.YtnbdcdeidhhgoaaDoor
