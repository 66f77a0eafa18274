/- WireWrites, walked. -/
import Derived.Test.YtdaiondcaecklaaPartKit
namespace Go.Proofs.Ytdaiondcaecklaa
set_option linter.unusedVariables false
set_option linter.unusedSimpArgs false
open Go Go.RowKit
def WrRel (w : World) (q : Nat) (ps : List Prt) (s k : Value) (wr : World) : Prop :=
  ∃ (i : Nat) (l : List UInt8), i ≤ ps.length ∧ k = .int .i64 i ∧ l = outAll (ps.take i) ∧ s = .string (strOf l) ∧ (∀ x ∈ ps.take i, x.Ok w ∧ x.bs.length ≤ 500) ∧ Has w wr [wA q l]
def RdRel (w : World) (r : Nat) (ps : List Prt) (k : Value) (wr : World) : Prop :=
  ∃ i : Nat, i ≤ ps.length ∧ k = .int .i64 i ∧ Has w wr [rA r ⟨outAll ps, (outAll (ps.take i)).length, 0⟩]
def RdRel2 (w : World) (r : Nat) (b : List UInt8) (at_ n : Nat) (k : Value) (wr : World) : Prop :=
  ∃ j : Nat, j ≤ n ∧ k = .int .i64 j ∧ Has w wr [rA r ⟨b, at_ + j, 0⟩]
/- the part, boxed; A: what else is known -/
abbrev PC (w : World) (g : Nat) (q : Prt) (X : World) : Prop := Blk X g 52 q.cells.toArray ∧ Ext w X
theorem pc_of {w W : World} {g : Nat} {q : Prt} {ps : List Asr} (h : Has w W (pA g q :: ps)) : PC w g q W := by
  obtain ⟨F, hF⟩ := h.head
  exact ⟨hF.1, h.base⟩
/- behind the reader's call -/
set_option maxRecDepth 100000 in
set_option maxHeartbeats 40000000 in
theorem writing_any (w : World) (p2 : Option Addr) (c2 : Nat) (ps : List Prt) (hP : PartsAt w p2 ps) :
    Calls Try.prog 8 #[.slice p2 ps.length c2] w fun e w' => e = .returned (.bool true) ∧ Ext w w' := by
  go_enter Try.func8, Try.ntmps8
  go_wp2_with fail
  refine (writes_any w).mono ?_
  rintro e w1 ⟨rfl, hE⟩
  rcases (show (40 : Int) < ps.length ∨ ¬ (40 : Int) < ps.length by omega) with g | g2
  · go_wp2_with fail
    go_ret
    exact ⟨rfl, hE⟩
  have hH1 : Has w (w1.alloc (.cells #[.slice none 0 0] 25)) [wA w1.heap.size []] := (Has.nil hE).writer .nil
  go_wp2_with fail
  generalize World.alloc _ _ = W at *
  generalize w1.heap.size = wq at *
  go_loopw [4, 19] (fun s k wr => WrRel w wq ps s k wr) (fun _ k _ => ((ps.length : Int) + 1 - intOf k).toNat)
  case atStart => exact ⟨0, [], by omega, rfl, rfl, rfl, by simp, hH1⟩
  case round =>
    clear hH1
    obtain ⟨i, l, hi, rfl, hl, rfl, hok, hH⟩ := hrel
    have hlen : l.length ≤ 20800 := by
      have := outAll_len (ps.take i) hok
      rw [hl]; simp at this; omega
    by_cases gi : (i : Int) < ps.length
    · obtain ⟨pb, po, rfl, hpb, hcells, hqok⟩ := hP i (by omega)
      have hE1 := hH.base
      have hrange : wr.rangeAt pb (po + i * 36) (ps[i]'(by omega)).cells := by
        intro j v hj
        have hj36 : j < 36 := by have := (List.getElem?_eq_some_iff.1 hj).1; rw [prt_size hqok] at this; exact this
        have := (hE1.cell pb (po + (i * 36 + j)) hpb).trans (hcells j hj36)
        rw [show po + i * 36 + j = po + (i * 36 + j) by omega, this, hj]
      have hout := outAll_succ ps i (by omega)
      rw [← hl] at hout
      have htk : ps.take (i + 1) = ps.take i ++ [ps[i]'(by omega)] := List.take_succ_eq_append_getElem (by omega)
      rw [htk] at hout
      generalize ps[i]'(by omega) = q at *
      have hsz : (Try.prog.info? 52).map (·.size) = some q.cells.length := by rw [prt_size hqok]; exact partInfo
      have hsz2 : (Try.prog.info? 52).map (·.size) = some q.cells.toArray.size := by rw [List.size_toArray]; exact hsz
      have hsz3 : 36 = q.cells.toArray.size := by rw [List.size_toArray, prt_size hqok]
      have c0 := fun (X : World) (hQ : Blk X wr.heap.size 52 q.cells.toArray) => (show X.cell? ⟨wr.heap.size, 0, none⟩ = some (.int .i64 q.kind) from hQ.cell 0)
      have c1 := fun (X : World) (hQ : Blk X wr.heap.size 52 q.cells.toArray) => (show X.cell? ⟨wr.heap.size, 1, none⟩ = some (.int .u64 q.n) from hQ.cell 1)
      have c3 := fun (X : World) (hQ : Blk X wr.heap.size 52 q.cells.toArray) => (show X.cell? ⟨wr.heap.size, 3, none⟩ = some (.slice q.p q.bs.length q.c) from hQ.cell 3)
      have Z1 := Lib.hid hsz
      have Z2 := Lib.hid hsz2
      have Z3 := Lib.hid hsz3
      clear hsz hsz2 hsz3
      have C0 := Lib.hid c0
      have C1 := Lib.hid c1
      have C3 := Lib.hid c3
      clear hcells c0 c1 c3 hpb hE1
      by_cases g5 : (500 : Int) < q.bs.length
      · go_wp2_with (first
          | (refine wpList_load_mid rfl 52 _ rfl pb (po + i * 36) rfl q.cells _ hrange Try.underlying52 rfl Z1.out ?_)
          | (refine wpList_store_row rfl 52 _ _ rfl wr.heap.size q.cells.toArray rfl rfl _ _ (Blk.new _ _ _) Z2.out Z3.out (prt_one q) ?_
             refine gen_wpList (fun X => Ext wr X ∧ Blk X wr.heap.size 52 q.cells.toArray) (part_box wr _ _ _) ?_
             rintro W3 ⟨hE3, hQ⟩
             have k0 := C0.out W3 hQ
             have k3 := C3.out W3 hQ))
        go_ret
        exact ⟨rfl, hH.base.trans hE3⟩
      have hok2 : ∀ x ∈ ps.take i ++ [q], x.Ok w ∧ x.bs.length ≤ 500 := by
        intro x hx
        rcases List.mem_append.1 hx with h | h
        · exact hok x h
        · rw [List.mem_singleton] at h; subst h; exact ⟨hqok, by omega⟩
      rw [← htk] at hok2 hout
      have HOK := Lib.hid hok2
      have HO := Lib.hid hout.symm
      clear hok hok2 hout htk hl
      rcases (show q.kind = 0 ∨ q.kind = 1 ∨ q.kind = 2 ∨ q.kind = 3 ∨ q.kind = 4 ∨ q.kind = 5 ∨ (q.kind < 0 ∨ 5 < q.kind) by omega) with hk | hk | hk | hk | hk | hk | hk
      · as_aux_lemma =>
        rw [hk] at C0
        have ho : q.out = q.bs := by unfold Prt.out; rw [if_pos hk]
        rw [ho] at HO
        go_wp2_with (first
          | (refine wpList_load_mid rfl 52 _ rfl pb (po + i * 36) rfl q.cells _ hrange Try.underlying52 rfl Z1.out ?_)
          | (refine wpList_store_row rfl 52 _ _ rfl wr.heap.size q.cells.toArray rfl rfl _ _ (Blk.new _ _ _) Z2.out Z3.out (prt_one q) ?_
             refine gen_wpList (fun X => Ext wr X ∧ Blk X wr.heap.size 52 q.cells.toArray) (part_box wr _ _ _) ?_
             rintro W3 ⟨hE3, hQ⟩
             have k0 := C0.out W3 hQ
             have k1 := C1.out W3 hQ
             have k3 := C3.out W3 hQ
             skip)
          | fail)
        have hX := hH.add (.cons (wA_loc _ _) .nil) hE3 (p := pA wr.heap.size q) ⟨hQ, rfl⟩ (fun k hk => by have : k = wr.heap.size := hk; omega)
        clear hH hE3 hQ k0 k1 k3 hrange
        refine (hX.swap.act (.cons (pA_loc _ _) .nil) fun F h => wbyte_any h q.p q.c q.bs (hqok.data.ext hX.base) hqok.nil_ (by omega)).mono ?_
        rintro e w5 ⟨rfl, hX5⟩
        have hcv := conv_at (hqok.data.ext hX5.base) hqok.nil_
        have hadd := str_add l q.bs (by omega) w5
        obtain ⟨Fq, hFq⟩ := (hX5.swap).head
        have k1 := C1.out w5 hFq.1
        have k3 := C3.out w5 hFq.1
        clear hFq
        go_wp2_with fail
        exact ⟨⟨i + 1, _, by omega, by go_num, HO.out, rfl, HOK.out, (hX5.swap).drop⟩, by simp [intOf]; omega⟩
      · as_aux_lemma =>
        rw [hk] at C0
        have ho : q.out = numB q.n := by unfold Prt.out; rw [if_neg (by omega), if_pos hk]
        rw [ho] at HO
        go_wp2_with (first
          | (refine wpList_load_mid rfl 52 _ rfl pb (po + i * 36) rfl q.cells _ hrange Try.underlying52 rfl Z1.out ?_)
          | (refine wpList_store_row rfl 52 _ _ rfl wr.heap.size q.cells.toArray rfl rfl _ _ (Blk.new _ _ _) Z2.out Z3.out (prt_one q) ?_
             refine gen_wpList (fun X => Ext wr X ∧ Blk X wr.heap.size 52 q.cells.toArray) (part_box wr _ _ _) ?_
             rintro W3 ⟨hE3, hQ⟩
             have k0 := C0.out W3 hQ
             have k1 := C1.out W3 hQ
             have k3 := C3.out W3 hQ
             skip)
          | fail)
        have hX := hH.add (.cons (wA_loc _ _) .nil) hE3 (p := pA wr.heap.size q) ⟨hQ, rfl⟩ (fun k hk => by have : k = wr.heap.size := hk; omega)
        clear hH hE3 hQ k0 k1 k3 hrange
        refine (hX.swap.act (.cons (pA_loc _ _) .nil) fun F h => wnum_lit h q.n _ hqok.n (by omega)).mono ?_
        rintro e w5 ⟨rfl, hX5⟩
        obtain ⟨Fq, hFq⟩ := (hX5.swap).head
        have k1 := C1.out w5 hFq.1
        have k3 := C3.out w5 hFq.1
        clear hFq
        have hnl := numB_len hqok.n
        have hadd := fun X => str_add l (numB q.n) (by omega) X
        go_wp2_with fail
        refine (ref_num q.n _ hqok.n).mono ?_
        rintro e w6 ⟨rfl, hE6⟩
        have hX6 := hX5.ext (.cons (wA_loc _ _) (.cons (pA_loc _ _) .nil)) hE6
        go_wp2_with fail
        exact ⟨⟨i + 1, _, by omega, by go_num, HO.out, rfl, HOK.out, (hX6.swap).drop⟩, by simp [intOf]; omega⟩
      · as_aux_lemma =>
        rw [hk] at C0
        have ho : q.out = numB (zigN (wrap64 q.n)) := by unfold Prt.out; rw [if_neg (by omega), if_neg (by omega), if_pos hk]
        rw [ho] at HO
        have hbd := wrap_i64_bd q.n
        have hnl := numB_len (zigN_lt hbd.1 hbd.2)
        have hadd := fun X => str_add l (numB (zigN (wrap64 q.n))) (by omega) X
        go_wp2_with (first
          | (refine wpList_load_mid rfl 52 _ rfl pb (po + i * 36) rfl q.cells _ hrange Try.underlying52 rfl Z1.out ?_)
          | (refine wpList_store_row rfl 52 _ _ rfl wr.heap.size q.cells.toArray rfl rfl _ _ (Blk.new _ _ _) Z2.out Z3.out (prt_one q) ?_
             refine gen_wpList (fun X => Ext wr X ∧ Blk X wr.heap.size 52 q.cells.toArray) (part_box wr _ _ _) ?_
             rintro W3 ⟨hE3, hQ⟩
             have k0 := C0.out W3 hQ
             have k1 := C1.out W3 hQ
             have k3 := C3.out W3 hQ
             skip)
          | fail)
        have hX := hH.add (.cons (wA_loc _ _) .nil) hE3 (p := pA wr.heap.size q) ⟨hQ, rfl⟩ (fun k hk => by have : k = wr.heap.size := hk; omega)
        clear hH hE3 hQ k0 k1 k3 hrange
        refine (hX.swap.act (.cons (pA_loc _ _) .nil) fun F h => wint_lit h (wrap64 q.n) _ hbd (by omega)).mono ?_
        rintro e w5 ⟨rfl, hX5⟩
        obtain ⟨Fq, hFq⟩ := (hX5.swap).head
        have k1 := C1.out w5 hFq.1
        have k3 := C3.out w5 hFq.1
        clear hFq
        go_wp2_with fail
        refine (ref_int _ _ hbd.1 hbd.2).mono ?_
        rintro e w6 ⟨rfl, hE6⟩
        have hX6 := hX5.ext (.cons (wA_loc _ _) (.cons (pA_loc _ _) .nil)) hE6
        go_wp2_with fail
        exact ⟨⟨i + 1, _, by omega, by go_num, HO.out, rfl, HOK.out, (hX6.swap).drop⟩, by simp [intOf]; omega⟩
      · as_aux_lemma =>
        rw [hk] at C0
        have ho : q.out = fix4 (q.n % 4294967296) := by unfold Prt.out; rw [if_neg (by omega), if_neg (by omega), if_neg (by omega), if_pos hk]
        rw [ho] at HO
        have hadd := fun X => str_add l (fix4 (q.n % 4294967296)) (by simp [fix4]; omega) X
        go_wp2_with (first
          | (refine wpList_load_mid rfl 52 _ rfl pb (po + i * 36) rfl q.cells _ hrange Try.underlying52 rfl Z1.out ?_)
          | (refine wpList_store_row rfl 52 _ _ rfl wr.heap.size q.cells.toArray rfl rfl _ _ (Blk.new _ _ _) Z2.out Z3.out (prt_one q) ?_
             refine gen_wpList (fun X => Ext wr X ∧ Blk X wr.heap.size 52 q.cells.toArray) (part_box wr _ _ _) ?_
             rintro W3 ⟨hE3, hQ⟩
             have k0 := C0.out W3 hQ
             have k1 := C1.out W3 hQ
             have k3 := C3.out W3 hQ
             skip)
          | fail)
        have hX := hH.add (.cons (wA_loc _ _) .nil) hE3 (p := pA wr.heap.size q) ⟨hQ, rfl⟩ (fun k hk => by have : k = wr.heap.size := hk; omega)
        clear hH hE3 hQ k0 k1 k3 hrange
        have em : (q.n : Int) % 4294967296 = ((q.n % 4294967296 : Nat) : Int) := by omega
        rw [em]
        refine (hX.swap.act (.cons (pA_loc _ _) .nil) fun F h => wfixed_any h (q.n % 4294967296) (by omega) (by omega)).mono ?_
        rintro e w5 ⟨rfl, hX5⟩
        obtain ⟨Fq, hFq⟩ := (hX5.swap).head
        have k1 := C1.out w5 hFq.1
        have k3 := C3.out w5 hFq.1
        clear hFq
        clear em
        go_wp2_with fail
        have em : (q.n : Int) % 4294967296 = ((q.n % 4294967296 : Nat) : Int) := by omega
        rw [em]
        clear em
        refine (ref_fixed (q.n % 4294967296) _ (by omega)).mono ?_
        rintro e w6 ⟨rfl, hE6⟩
        have hX6 := hX5.ext (.cons (wA_loc _ _) (.cons (pA_loc _ _) .nil)) hE6
        go_wp2_with fail
        exact ⟨⟨i + 1, _, by omega, by go_num, HO.out, rfl, HOK.out, (hX6.swap).drop⟩, by simp [intOf]; omega⟩
      · as_aux_lemma =>
        rw [hk] at C0
        have ho : q.out = numB q.bs.length ++ q.bs := by unfold Prt.out; rw [if_neg (by omega), if_neg (by omega), if_neg (by omega), if_neg (by omega), if_pos hk]
        rw [ho] at HO
        have HCV := Lib.hid (fun (X : World) (hE : Ext w X) => conv_at (hqok.data.ext hE) hqok.nil_)
        go_wp2_with (first
          | (refine wpList_load_mid rfl 52 _ rfl pb (po + i * 36) rfl q.cells _ hrange Try.underlying52 rfl Z1.out ?_)
          | (refine wpList_store_row rfl 52 _ _ rfl wr.heap.size q.cells.toArray rfl rfl _ _ (Blk.new _ _ _) Z2.out Z3.out (prt_one q) ?_
             refine gen_wpList (fun X => Ext wr X ∧ Blk X wr.heap.size 52 q.cells.toArray) (part_box wr _ _ _) ?_
             rintro W3 ⟨hE3, hQ⟩
             have k0 := C0.out W3 hQ
             have k1 := C1.out W3 hQ
             have k3 := C3.out W3 hQ
             have hcv := HCV.out W3 (hH.base.trans hE3))
          | fail)
        have hX := hH.add (.cons (wA_loc _ _) .nil) hE3 (p := pA wr.heap.size q) ⟨hQ, rfl⟩ (fun k hk => by have : k = wr.heap.size := hk; omega)
        clear hH hE3 hQ k0 k1 k3 hrange
        have hnl := numB_len (n := q.bs.length) (by omega)
        have hadd := fun X => str_add l (numB q.bs.length ++ q.bs) (by simp; omega) X
        refine (hX.swap.act (.cons (pA_loc _ _) .nil) fun F h => wtext_list h q.bs (by omega) (by omega)).mono ?_
        rintro e w5 ⟨rfl, hX5⟩
        clear hcv
        have hcv := HCV.out w5 hX5.base
        obtain ⟨Fq, hFq⟩ := (hX5.swap).head
        have k1 := C1.out w5 hFq.1
        have k3 := C3.out w5 hFq.1
        clear hFq
        go_wp2_with fail
        refine (ref_text q.bs _ (by omega)).mono ?_
        rintro e w6 ⟨rfl, hE6⟩
        have hX6 := hX5.ext (.cons (wA_loc _ _) (.cons (pA_loc _ _) .nil)) hE6
        go_wp2_with fail
        exact ⟨⟨i + 1, _, by omega, by go_num, HO.out, rfl, HOK.out, (hX6.swap).drop⟩, by simp [intOf]; omega⟩
      · as_aux_lemma =>
        rw [hk] at C0
        have ho : q.out = q.sum := by unfold Prt.out; rw [if_neg (by omega), if_neg (by omega), if_neg (by omega), if_neg (by omega), if_neg (by omega), if_pos hk]
        rw [ho] at HO
        have hsl := hqok.sum
        have hadd := fun X => str_add l q.sum (by omega) X
        have HSZ := Lib.hid (show (Try.prog.info? 45).map (·.size) = some (u8s q.sum).length by rw [u8s_length, hsl]; exact sumInfo)
        have HSL := Lib.hid hsl
        clear hsl
        go_wp2_with (first
          | (refine wpList_load_mid rfl 52 _ rfl pb (po + i * 36) rfl q.cells _ hrange Try.underlying52 rfl Z1.out ?_)
          | (refine wpList_store_row rfl 52 _ _ rfl wr.heap.size q.cells.toArray rfl rfl _ _ (Blk.new _ _ _) Z2.out Z3.out (prt_one q) ?_
             refine gen_wpList (fun X => Ext wr X ∧ Blk X wr.heap.size 52 q.cells.toArray) (part_box wr _ _ _) ?_
             rintro W3 ⟨hE3, hQ⟩
             have k0 := C0.out W3 hQ
             have k1 := C1.out W3 hQ
             have k3 := C3.out W3 hQ
             have hrs := (pA_sum (F := fun k => k = wr.heap.size) ⟨hQ, rfl⟩).1)
          | (refine wpList_load_mid rfl 45 _ rfl wr.heap.size 4 rfl (u8s q.sum) _ hrs Try.underlying45 rfl HSZ.out ?_))
        have hX := hH.add (.cons (wA_loc _ _) .nil) hE3 (p := pA wr.heap.size q) ⟨hQ, rfl⟩ (fun k hk => by have : k = wr.heap.size := hk; omega)
        clear hH hE3 hQ k0 k1 k3 hrange
        clear hrs
        refine (hX.swap.act (.cons (pA_loc _ _) .nil) fun F h => wsum_any h q.sum HSL.out (by omega)).mono ?_
        rintro e w5 ⟨rfl, hX5⟩
        obtain ⟨F4, h4⟩ := hX5.swap.head
        have hcv := conv_bytes w5 wr.heap.size 4 32 q.sum (pA_sum h4).2
        rw [HSL.out] at hcv
        clear h4
        have hss := slice_sum
        go_wp2_with fail
        exact ⟨⟨i + 1, _, by omega, by go_num, HO.out, rfl, HOK.out, (hX5.swap).drop⟩, by simp [intOf]; omega⟩
      · as_aux_lemma =>
        have ho : q.out = [] := by unfold Prt.out; rw [if_neg (by omega), if_neg (by omega), if_neg (by omega), if_neg (by omega), if_neg (by omega), if_neg (by omega)]
        rw [ho] at HO
        have j0 : (q.kind == 0) = false := by simp; omega
        have j1 : (q.kind == 1) = false := by simp; omega
        have j2 : (q.kind == 2) = false := by simp; omega
        have j3 : (q.kind == 3) = false := by simp; omega
        have j4 : (q.kind == 4) = false := by simp; omega
        have j5 : (q.kind == 5) = false := by simp; omega
        go_wp2_with (first
          | (refine wpList_load_mid rfl 52 _ rfl pb (po + i * 36) rfl q.cells _ hrange Try.underlying52 rfl Z1.out ?_)
          | (refine wpList_store_row rfl 52 _ _ rfl wr.heap.size q.cells.toArray rfl rfl _ _ (Blk.new _ _ _) Z2.out Z3.out (prt_one q) ?_
             refine gen_wpList (fun X => Ext wr X ∧ Blk X wr.heap.size 52 q.cells.toArray) (part_box wr _ _ _) ?_
             rintro W3 ⟨hE3, hQ⟩
             have k0 := C0.out W3 hQ
             have k1 := C1.out W3 hQ
             have k3 := C3.out W3 hQ
             skip)
          | fail)
        have hX := hH.add (.cons (wA_loc _ _) .nil) hE3 (p := pA wr.heap.size q) ⟨hQ, rfl⟩ (fun k hk => by have : k = wr.heap.size := hk; omega)
        clear hH hE3 hQ k0 k1 k3 hrange
        have hl0 : outAll (ps.take (i + 1)) = l := by rw [← HO.out]; simp
        exact ⟨⟨i + 1, _, by omega, by go_num, hl0.symm, rfl, HOK.out, hX.drop⟩, by simp [intOf]; omega⟩
    · have hii : i = ps.length := by omega
      subst hii
      rw [List.take_length] at hl hok
      have HL := Lib.hid hl
      clear gi hi hl
      have hsz := strOf_size l
      go_wp2_with fail
      refine (hH.keeps (.cons (wA_loc _ _) .nil) fun F h => wbytes_any h (by omega)).mono ?_
      rintro e w4 ⟨⟨v, rfl, hown⟩, hH4, -⟩
      obtain ⟨pv, cv, rfl⟩ := ownsRow_slice hown
      have hcv := own_conv hown
      clear hown
      go_wp2_with fail
      refine (hH4.keeps' fun F h => wlen_any h).mono ?_
      rintro e w7 ⟨rfl, rfl⟩
      clear hcv hH
      go_wp2_with fail
      refine (hH4.keeps (.cons (wA_loc _ _) .nil) fun F h => wbytes_any h (by omega)).mono ?_
      rintro e w5 ⟨⟨v, rfl, hown⟩, hH5, -⟩
      obtain ⟨pv2, cv2, rfl⟩ := ownsRow_slice hown
      clear hH4
      go_wp2_with fail
      refine (read_any w5 pv2 cv2 l (bytesAt_own hown) (row_nil hown) (by omega)).mono ?_
      rintro e w6 hR
      obtain ⟨r, rfl, hH6⟩ := hH5.reader (.cons (wA_loc _ _) .nil) hR
      have hH7 := hH6.swap.drop
      clear hH5 hR hown hH6
      go_wp2_with fail
      go_loopw [112] (fun k wr => RdRel w r ps k wr) (fun k _ => ((ps.length : Int) + 1 - intOf k).toNat)
      case atStart => exact ⟨0, by omega, rfl, by rw [← HL.out]; exact hH7⟩
      case round =>
        clear hH7
        obtain ⟨i, hi, rfl, hH⟩ := hrel
        by_cases gi : (i : Int) < ps.length
        · obtain ⟨pb, po, rfl, hpb, hcells, hqok⟩ := hP i (by omega)
          have hE1 := hH.base
          have hrange : wr.rangeAt pb (po + i * 36) (ps[i]'(by omega)).cells := by
            intro j v hj
            have hj36 : j < 36 := by have := (List.getElem?_eq_some_iff.1 hj).1; rw [prt_size hqok] at this; exact this
            have := (hE1.cell pb (po + (i * 36 + j)) hpb).trans (hcells j hj36)
            rw [show po + i * 36 + j = po + (i * 36 + j) by omega, this, hj]
          have hout := outAll_at ps i (by omega)
          have hle := outAll_le ps i
          have hsu := outAll_succ ps i (by omega)
          have hb5 := (hok (ps[i]'(by omega)) (List.getElem_mem _)).2
          rw [← HL.out] at hout hle hH
          generalize ps[i]'(by omega) = q at *
          have hn : (outAll (ps.take (i + 1))).length = (outAll (ps.take i)).length + q.out.length := by rw [hsu, List.length_append]
          generalize (outAll (ps.take i)).length = at0 at *
          have HN := Lib.hid hn
          clear hn hsu
          have hsz := prt_size hqok
          have hsz1 : (Try.prog.info? 52).map (·.size) = some q.cells.length := by rw [hsz]; exact partInfo
          have hsz2 : (Try.prog.info? 52).map (·.size) = some q.cells.toArray.size := by rw [List.size_toArray]; exact hsz1
          have hsz3 : 36 = q.cells.toArray.size := by rw [List.size_toArray, hsz]
          have c0 := fun (X : World) (hQ : Blk X wr.heap.size 52 q.cells.toArray) => (show X.cell? ⟨wr.heap.size, 0, none⟩ = some (.int .i64 q.kind) from hQ.cell 0)
          have c1 := fun (X : World) (hQ : Blk X wr.heap.size 52 q.cells.toArray) => (show X.cell? ⟨wr.heap.size, 1, none⟩ = some (.int .u64 q.n) from hQ.cell 1)
          have c3 := fun (X : World) (hQ : Blk X wr.heap.size 52 q.cells.toArray) => (show X.cell? ⟨wr.heap.size, 3, none⟩ = some (.slice q.p q.bs.length q.c) from hQ.cell 3)
          have Z1 := Lib.hid hsz1
          have Z2 := Lib.hid hsz2
          have Z3 := Lib.hid hsz3
          clear hsz hsz1 hsz2 hsz3
          have C0 := Lib.hid c0
          have C1 := Lib.hid c1
          have C3 := Lib.hid c3
          clear hcells c0 c1 c3 hpb hE1
          rcases (show q.kind = 0 ∨ q.kind = 1 ∨ q.kind = 2 ∨ q.kind = 3 ∨ q.kind = 4 ∨ q.kind = 5 ∨ (q.kind < 0 ∨ 5 < q.kind) by omega) with hk | hk | hk | hk | hk | hk | hk
          · as_aux_lemma =>
            rw [hk] at C0
            have ho : q.out = q.bs := by unfold Prt.out; rw [if_pos hk]
            rw [ho] at hout HN
            go_wp2_with (first
              | (refine wpList_load_mid rfl 52 _ rfl pb (po + i * 36) rfl q.cells _ hrange Try.underlying52 rfl Z1.out ?_)
              | (refine wpList_store_row rfl 52 _ _ rfl wr.heap.size q.cells.toArray rfl rfl _ _ (Blk.new _ _ _) Z2.out Z3.out (prt_one q) ?_
                 refine gen_wpList (fun X => Ext wr X ∧ Blk X wr.heap.size 52 q.cells.toArray) (part_box wr _ _ _) ?_
                 rintro W3 ⟨hE3, hQ⟩
                 have k0 := C0.out W3 hQ
                 have k1 := C1.out W3 hQ
                 have k3 := C3.out W3 hQ
                 skip)
              | fail)
            have hX := hH.add (.cons (rA_loc _ _) .nil) hE3 (p := pA wr.heap.size q) ⟨hQ, rfl⟩ (fun k hk => by have : k = wr.heap.size := hk; omega)
            clear hH hE3 hQ k0 k1 k3 hrange
            have hH3 := hX.drop
            clear hX
            go_loopw [123] (fun k wr => RdRel2 w r l at0 q.bs.length k wr) (fun k _ => ((q.bs.length : Int) + 1 - intOf k).toNat)
            case atStart => exact ⟨0, by omega, rfl, hH3⟩
            case round =>
              clear hH3
              obtain ⟨j, hj, rfl, hH3⟩ := hrel
              by_cases gj : (j : Int) < q.bs.length
              · obtain ⟨a, hqp, hal, hac⟩ := hqok.data j (by rw [byI_length]; omega)
                have hcell : wr.cell? (a.add j) = some (.int .u8 ((q.bs.getD j 0).toNat : Int)) := by
                  have hab : (a.add j).block = a.block := by unfold Addr.add; first | rfl | (split <;> rfl)
                  rw [World.cell?_of_block (w := w) (a := a.add j) (hH3.base.block _ (by rw [hab]; exact hal)), hac]
                  congr 2
                  rw [byI, List.getD_eq_getElem?_getD, List.getD_eq_getElem?_getD, List.getElem?_map, List.getElem?_eq_getElem (by omega)]; rfl
                have hb1 : l.drop (at0 + j) = q.bs.getD j 0 :: (q.bs.drop (j + 1) ++ outAll (ps.drop (i + 1))) := by
                  rw [← List.drop_drop, hout, List.drop_append_of_le_length (by omega), List.drop_eq_getElem_cons (by omega), List.getD_eq_getElem?_getD, List.getElem?_eq_getElem (by omega)]
                  rfl
                have hr := byte_read hb1
                clear hb1 hac
                rw [hqp] at *
                generalize q.bs.getD j 0 = y at *
                go_wp2_with fail
                refine (hH3.act .nil fun F h => rbyte_any h).mono ?_
                rw [hr]
                rintro e w5 ⟨rfl, hX5⟩
                go_wp2_with fail
                exact ⟨⟨j + 1, by omega, by go_num, by rw [← Nat.add_assoc]; exact hX5⟩, by simp [intOf]; omega⟩
              · have hjj : j = q.bs.length := by omega
                subst hjj
                clear gj hj
                go_wp2_with fail
                exact ⟨⟨i + 1, by omega, by go_num, by rw [← HL.out, HN.out]; exact (hH3)⟩, by simp [intOf]; omega⟩
          · as_aux_lemma =>
            rw [hk] at C0
            have ho : q.out = numB q.n := by unfold Prt.out; rw [if_neg (by omega), if_pos hk]
            rw [ho] at hout HN
            have hr := num_read hqok.n (Nat.le_refl q.n) hout
            go_wp2_with (first
              | (refine wpList_load_mid rfl 52 _ rfl pb (po + i * 36) rfl q.cells _ hrange Try.underlying52 rfl Z1.out ?_)
              | (refine wpList_store_row rfl 52 _ _ rfl wr.heap.size q.cells.toArray rfl rfl _ _ (Blk.new _ _ _) Z2.out Z3.out (prt_one q) ?_
                 refine gen_wpList (fun X => Ext wr X ∧ Blk X wr.heap.size 52 q.cells.toArray) (part_box wr _ _ _) ?_
                 rintro W3 ⟨hE3, hQ⟩
                 have k0 := C0.out W3 hQ
                 have k1 := C1.out W3 hQ
                 have k3 := C3.out W3 hQ
                 skip)
              | fail)
            have hX := hH.add (.cons (rA_loc _ _) .nil) hE3 (p := pA wr.heap.size q) ⟨hQ, rfl⟩ (fun k hk => by have : k = wr.heap.size := hk; omega)
            clear hH hE3 hQ k0 k1 k3 hrange
            have d1 : ∀ x : Of (PC w wr.heap.size q), x.val.cell? ⟨wr.heap.size, 1, none⟩ = some (.int .u64 q.n) := fun x => C1.out x.val x.property.1
            have d3 : ∀ x : Of (PC w wr.heap.size q), x.val.cell? ⟨wr.heap.size, 3, none⟩ = some (.slice q.p q.bs.length q.c) := fun x => C3.out x.val x.property.1
            have hX3 := hX.ext (.cons (pA_loc _ _) (.cons (rA_loc _ _) .nil)) (Ext.refl W3).drew
            have hFd := (pc_of hX3)
            have hne_ : Nonempty (Of (PC w wr.heap.size q)) := ⟨⟨_, hFd⟩⟩
            refine region_steps [0,1,2,4,5,3,6] [true,true,true,true,true,false,true] (PC w wr.heap.size q) (by kernel_rfl) (by kernel_rfl) hFd ?_
            simp only [List.filterMap_cons, List.filterMap_nil, List.getElem?_cons_zero, List.getElem?_cons_succ]
            refine steps_quiet 5 (by kernel_rfl) ?_
            simp only [List.take_succ_cons, List.take_zero, List.drop_succ_cons, List.drop_zero]
            repeat (go_big_quiet_step (fail))
            refine wpQuiet_nil ?_
            refine steps_want rfl (fun K hK => ?_)
            go_simp
            refine (hX3.swap.act (.cons (pA_loc _ _) .nil) fun F h => rnum_any h q.n hqok.n).mono ?_
            rw [hr]
            rintro e w5 ⟨rfl, hX5⟩
            refine hK _ _ (PC w wr.heap.size q) (pc_of hX5.swap) (fun _ h => h) ?_
            clear hK K
            refine steps_quiet 1 (by kernel_rfl) ?_
            simp only [List.take_succ_cons, List.take_zero, List.drop_succ_cons, List.drop_zero]
            repeat (go_big_quiet_step (fail))
            refine wpQuiet_nil ?_
            refine steps_nil ?_
            clear d1 d3
            go_wp2_with fail
            exact ⟨⟨i + 1, by omega, by go_num, by rw [← HL.out, HN.out]; exact (hX5.swap.drop)⟩, by simp [intOf]; omega⟩
          · as_aux_lemma =>
            rw [hk] at C0
            have ho : q.out = numB (zigN (wrap64 q.n)) := by unfold Prt.out; rw [if_neg (by omega), if_neg (by omega), if_pos hk]
            rw [ho] at hout HN
            have hbd := wrap_i64_bd q.n
            go_wp2_with (first
              | (refine wpList_load_mid rfl 52 _ rfl pb (po + i * 36) rfl q.cells _ hrange Try.underlying52 rfl Z1.out ?_)
              | (refine wpList_store_row rfl 52 _ _ rfl wr.heap.size q.cells.toArray rfl rfl _ _ (Blk.new _ _ _) Z2.out Z3.out (prt_one q) ?_
                 refine gen_wpList (fun X => Ext wr X ∧ Blk X wr.heap.size 52 q.cells.toArray) (part_box wr _ _ _) ?_
                 rintro W3 ⟨hE3, hQ⟩
                 have k0 := C0.out W3 hQ
                 have k1 := C1.out W3 hQ
                 have k3 := C3.out W3 hQ
                 skip)
              | fail)
            have hX := hH.add (.cons (rA_loc _ _) .nil) hE3 (p := pA wr.heap.size q) ⟨hQ, rfl⟩ (fun k hk => by have : k = wr.heap.size := hk; omega)
            clear hH hE3 hQ k0 k1 k3 hrange
            have d1 : ∀ x : Of (PC w wr.heap.size q), x.val.cell? ⟨wr.heap.size, 1, none⟩ = some (.int .u64 q.n) := fun x => C1.out x.val x.property.1
            have d3 : ∀ x : Of (PC w wr.heap.size q), x.val.cell? ⟨wr.heap.size, 3, none⟩ = some (.slice q.p q.bs.length q.c) := fun x => C3.out x.val x.property.1
            have hX3 := hX.ext (.cons (pA_loc _ _) (.cons (rA_loc _ _) .nil)) (Ext.refl W3).drew
            have hFd := (pc_of hX3)
            have hne_ : Nonempty (Of (PC w wr.heap.size q)) := ⟨⟨_, hFd⟩⟩
            refine region_steps [0,2,3,4,1,5] [true,true,true,true,false,true] (PC w wr.heap.size q) (by kernel_rfl) (by kernel_rfl) hFd ?_
            simp only [List.filterMap_cons, List.filterMap_nil, List.getElem?_cons_zero, List.getElem?_cons_succ]
            refine steps_quiet 4 (by kernel_rfl) ?_
            simp only [List.take_succ_cons, List.take_zero, List.drop_succ_cons, List.drop_zero]
            repeat (go_big_quiet_step (fail))
            refine wpQuiet_nil ?_
            refine steps_want rfl (fun K hK => ?_)
            go_simp
            refine (hX3.swap.act (.cons (pA_loc _ _) .nil) fun F h => rint_read hbd.1 hbd.2 hout h).mono ?_
            rintro e w5 ⟨rfl, hX5⟩
            refine hK _ _ (PC w wr.heap.size q) (pc_of hX5.swap) (fun _ h => h) ?_
            clear hK K
            refine steps_quiet 1 (by kernel_rfl) ?_
            simp only [List.take_succ_cons, List.take_zero, List.drop_succ_cons, List.drop_zero]
            repeat (go_big_quiet_step (fail))
            refine wpQuiet_nil ?_
            refine steps_nil ?_
            clear d1 d3
            go_wp2_with fail
            exact ⟨⟨i + 1, by omega, by go_num, by rw [← HL.out, HN.out]; exact (hX5.swap.drop)⟩, by simp [intOf]; omega⟩
          · as_aux_lemma =>
            rw [hk] at C0
            have ho : q.out = fix4 (q.n % 4294967296) := by unfold Prt.out; rw [if_neg (by omega), if_neg (by omega), if_neg (by omega), if_pos hk]
            rw [ho] at hout HN
            have hr := take_read (n := 4) rfl hout hle
            have hlo := low4_fix4 (show q.n % 4294967296 < 4294967296 by omega)
            go_wp2_with (first
              | (refine wpList_load_mid rfl 52 _ rfl pb (po + i * 36) rfl q.cells _ hrange Try.underlying52 rfl Z1.out ?_)
              | (refine wpList_store_row rfl 52 _ _ rfl wr.heap.size q.cells.toArray rfl rfl _ _ (Blk.new _ _ _) Z2.out Z3.out (prt_one q) ?_
                 refine gen_wpList (fun X => Ext wr X ∧ Blk X wr.heap.size 52 q.cells.toArray) (part_box wr _ _ _) ?_
                 rintro W3 ⟨hE3, hQ⟩
                 have k0 := C0.out W3 hQ
                 have k1 := C1.out W3 hQ
                 have k3 := C3.out W3 hQ
                 skip)
              | fail)
            have hX := hH.add (.cons (rA_loc _ _) .nil) hE3 (p := pA wr.heap.size q) ⟨hQ, rfl⟩ (fun k hk => by have : k = wr.heap.size := hk; omega)
            clear hH hE3 hQ k0 k1 k3 hrange
            have d1 : ∀ x : Of (PC w wr.heap.size q), x.val.cell? ⟨wr.heap.size, 1, none⟩ = some (.int .u64 q.n) := fun x => C1.out x.val x.property.1
            have d3 : ∀ x : Of (PC w wr.heap.size q), x.val.cell? ⟨wr.heap.size, 3, none⟩ = some (.slice q.p q.bs.length q.c) := fun x => C3.out x.val x.property.1
            have hX3 := hX.ext (.cons (pA_loc _ _) (.cons (rA_loc _ _) .nil)) (Ext.refl W3).drew
            have hFd := (pc_of hX3)
            have hne_ : Nonempty (Of (PC w wr.heap.size q)) := ⟨⟨_, hFd⟩⟩
            refine region_steps [0,2,3,4,1,5] [true,true,true,true,false,true] (PC w wr.heap.size q) (by kernel_rfl) (by kernel_rfl) hFd ?_
            simp only [List.filterMap_cons, List.filterMap_nil, List.getElem?_cons_zero, List.getElem?_cons_succ]
            refine steps_quiet 4 (by kernel_rfl) ?_
            simp only [List.take_succ_cons, List.take_zero, List.drop_succ_cons, List.drop_zero]
            repeat (go_big_quiet_step (fail))
            refine wpQuiet_nil ?_
            refine steps_want rfl (fun K hK => ?_)
            go_simp
            refine (hX3.swap.act (.cons (pA_loc _ _) .nil) fun F h => rfixed_any h).mono ?_
            rw [hr]
            simp only [hlo]
            have em : ((q.n % 4294967296 : Nat) : Int) = (q.n : Int) % 4294967296 := by omega
            rw [em]
            rintro e w5 ⟨rfl, hX5⟩
            refine hK _ _ (PC w wr.heap.size q) (pc_of hX5.swap) (fun _ h => h) ?_
            clear hK K
            refine steps_quiet 1 (by kernel_rfl) ?_
            simp only [List.take_succ_cons, List.take_zero, List.drop_succ_cons, List.drop_zero]
            repeat (go_big_quiet_step (fail))
            refine wpQuiet_nil ?_
            refine steps_nil ?_
            clear d1 d3
            go_wp2_with fail
            exact ⟨⟨i + 1, by omega, by go_num, by rw [← HL.out, HN.out]; exact (hX5.swap.drop)⟩, by simp [intOf]; omega⟩
          · as_aux_lemma =>
            rw [hk] at C0
            have ho : q.out = numB q.bs.length ++ q.bs := by unfold Prt.out; rw [if_neg (by omega), if_neg (by omega), if_neg (by omega), if_neg (by omega), if_pos hk]
            rw [ho] at hout HN
            have hr := text_read hout hle (by omega)
            go_wp2_with (first
              | (refine wpList_load_mid rfl 52 _ rfl pb (po + i * 36) rfl q.cells _ hrange Try.underlying52 rfl Z1.out ?_)
              | (refine wpList_store_row rfl 52 _ _ rfl wr.heap.size q.cells.toArray rfl rfl _ _ (Blk.new _ _ _) Z2.out Z3.out (prt_one q) ?_
                 refine gen_wpList (fun X => Ext wr X ∧ Blk X wr.heap.size 52 q.cells.toArray) (part_box wr _ _ _) ?_
                 rintro W3 ⟨hE3, hQ⟩
                 have k0 := C0.out W3 hQ
                 have k1 := C1.out W3 hQ
                 have k3 := C3.out W3 hQ
                 skip)
              | fail)
            have hX := hH.add (.cons (rA_loc _ _) .nil) hE3 (p := pA wr.heap.size q) ⟨hQ, rfl⟩ (fun k hk => by have : k = wr.heap.size := hk; omega)
            clear hH hE3 hQ k0 k1 k3 hrange
            have d1 : ∀ x : Of (PC w wr.heap.size q), x.val.cell? ⟨wr.heap.size, 1, none⟩ = some (.int .u64 q.n) := fun x => C1.out x.val x.property.1
            have d3 : ∀ x : Of (PC w wr.heap.size q), x.val.cell? ⟨wr.heap.size, 3, none⟩ = some (.slice q.p q.bs.length q.c) := fun x => C3.out x.val x.property.1
            have hX3 := hX.ext (.cons (pA_loc _ _) (.cons (rA_loc _ _) .nil)) (Ext.refl W3).drew
            have hcv : ∀ x : Of (PC w wr.heap.size q), (convert 23 9 (.slice q.p q.bs.length q.c)).run Try.prog x.val = .ok (.string (strOf q.bs)) x.val := fun x => conv_at (hqok.data.ext x.property.2) hqok.nil_
            have hFd := (pc_of hX3)
            have hne_ : Nonempty (Of (PC w wr.heap.size q)) := ⟨⟨_, hFd⟩⟩
            refine region_steps [0,2,3,4,1,5] [true,true,true,true,false,true] (PC w wr.heap.size q) (by kernel_rfl) (by kernel_rfl) hFd ?_
            simp only [List.filterMap_cons, List.filterMap_nil, List.getElem?_cons_zero, List.getElem?_cons_succ]
            refine steps_quiet 4 (by kernel_rfl) ?_
            simp only [List.take_succ_cons, List.take_zero, List.drop_succ_cons, List.drop_zero]
            repeat (go_big_quiet_step (fail))
            refine wpQuiet_nil ?_
            refine steps_want rfl (fun K hK => ?_)
            go_simp
            refine (hX3.swap.act (.cons (pA_loc _ _) .nil) fun F h => rtext_any h).mono ?_
            rw [hr]
            rintro e w5 ⟨rfl, hX5⟩
            clear hcv
            refine hK _ _ (PC w wr.heap.size q) (pc_of hX5.swap) (fun _ h => h) ?_
            clear hK K
            refine steps_quiet 1 (by kernel_rfl) ?_
            simp only [List.take_succ_cons, List.take_zero, List.drop_succ_cons, List.drop_zero]
            repeat (go_big_quiet_step (fail))
            refine wpQuiet_nil ?_
            refine steps_nil ?_
            clear d1 d3
            go_wp2_with fail
            exact ⟨⟨i + 1, by omega, by go_num, by rw [← HL.out, HN.out]; exact (hX5.swap.drop)⟩, by simp [intOf]; omega⟩
          · as_aux_lemma =>
            rw [hk] at C0
            have ho : q.out = q.sum := by unfold Prt.out; rw [if_neg (by omega), if_neg (by omega), if_neg (by omega), if_neg (by omega), if_neg (by omega), if_pos hk]
            rw [ho] at hout HN
            obtain ⟨hr1, hr2⟩ := sum_read hout hle hqok.sum
            have HSZ := Lib.hid (show (Try.prog.info? 45).map (·.size) = some (u8s q.sum).length by rw [u8s_length, hqok.sum]; exact sumInfo)
            have heq := eq_sum q.sum hqok.sum
            go_wp2_with (first
              | (refine wpList_load_mid rfl 52 _ rfl pb (po + i * 36) rfl q.cells _ hrange Try.underlying52 rfl Z1.out ?_)
              | (refine wpList_store_row rfl 52 _ _ rfl wr.heap.size q.cells.toArray rfl rfl _ _ (Blk.new _ _ _) Z2.out Z3.out (prt_one q) ?_
                 refine gen_wpList (fun X => Ext wr X ∧ Blk X wr.heap.size 52 q.cells.toArray) (part_box wr _ _ _) ?_
                 rintro W3 ⟨hE3, hQ⟩
                 have k0 := C0.out W3 hQ
                 have k1 := C1.out W3 hQ
                 have k3 := C3.out W3 hQ
                 skip)
              | fail)
            have hX := hH.add (.cons (rA_loc _ _) .nil) hE3 (p := pA wr.heap.size q) ⟨hQ, rfl⟩ (fun k hk => by have : k = wr.heap.size := hk; omega)
            clear hH hE3 hQ k0 k1 k3 hrange
            have d1 : ∀ x : Of (PC w wr.heap.size q), x.val.cell? ⟨wr.heap.size, 1, none⟩ = some (.int .u64 q.n) := fun x => C1.out x.val x.property.1
            have d3 : ∀ x : Of (PC w wr.heap.size q), x.val.cell? ⟨wr.heap.size, 3, none⟩ = some (.slice q.p q.bs.length q.c) := fun x => C3.out x.val x.property.1
            have hX3 := hX.ext (.cons (pA_loc _ _) (.cons (rA_loc _ _) .nil)) (Ext.refl W3).drew
            have hFd := (pc_of hX3)
            have hne_ : Nonempty (Of (PC w wr.heap.size q)) := ⟨⟨_, hFd⟩⟩
            refine region_steps [0,2,3,1,4] [true,true,true,false,true] (PC w wr.heap.size q) (by kernel_rfl) (by kernel_rfl) hFd ?_
            simp only [List.filterMap_cons, List.filterMap_nil, List.getElem?_cons_zero, List.getElem?_cons_succ]
            refine steps_quiet 2 (by kernel_rfl) ?_
            simp only [List.take_succ_cons, List.take_zero, List.drop_succ_cons, List.drop_zero]
            repeat (go_big_quiet_step (fail))
            refine wpQuiet_nil ?_
            refine steps_load_mid rfl 45 _ rfl wr.heap.size 4 rfl (u8s q.sum) _ (fun X h => (pA_sum (F := fun k => k = wr.heap.size) ⟨h.1, rfl⟩).1) Try.underlying45 rfl HSZ.out ?_
            simp only [Act.put, List.setIfInBounds_toArray, List.set_cons_succ, List.set_cons_zero]
            refine steps_want rfl (fun K hK => ?_)
            go_simp
            refine (hX3.swap.act (.cons (pA_loc _ _) .nil) fun F h => rsum_any h).mono ?_
            rw [hr1, hr2]
            rintro e w5 ⟨rfl, hX5⟩
            refine hK _ _ (PC w wr.heap.size q) (pc_of hX5.swap) (fun _ h => h) ?_
            clear hK K
            refine steps_quiet 1 (by kernel_rfl) ?_
            simp only [List.take_succ_cons, List.take_zero, List.drop_succ_cons, List.drop_zero]
            repeat (go_big_quiet_step (fail))
            refine wpQuiet_nil ?_
            refine steps_nil ?_
            clear d1 d3
            go_wp2_with fail
            exact ⟨⟨i + 1, by omega, by go_num, by rw [← HL.out, HN.out]; exact (hX5.swap.drop)⟩, by simp [intOf]; omega⟩
          · as_aux_lemma =>
            have ho : q.out = [] := by unfold Prt.out; rw [if_neg (by omega), if_neg (by omega), if_neg (by omega), if_neg (by omega), if_neg (by omega), if_neg (by omega)]
            rw [ho] at HN
            have j0 : (q.kind == 0) = false := by simp; omega
            have j1 : (q.kind == 1) = false := by simp; omega
            have j2 : (q.kind == 2) = false := by simp; omega
            have j3 : (q.kind == 3) = false := by simp; omega
            have j4 : (q.kind == 4) = false := by simp; omega
            have j5 : (q.kind == 5) = false := by simp; omega
            go_wp2_with (first
              | (refine wpList_load_mid rfl 52 _ rfl pb (po + i * 36) rfl q.cells _ hrange Try.underlying52 rfl Z1.out ?_)
              | (refine wpList_store_row rfl 52 _ _ rfl wr.heap.size q.cells.toArray rfl rfl _ _ (Blk.new _ _ _) Z2.out Z3.out (prt_one q) ?_
                 refine gen_wpList (fun X => Ext wr X ∧ Blk X wr.heap.size 52 q.cells.toArray) (part_box wr _ _ _) ?_
                 rintro W3 ⟨hE3, hQ⟩
                 have k0 := C0.out W3 hQ
                 have k1 := C1.out W3 hQ
                 have k3 := C3.out W3 hQ
                 skip)
              | fail)
            have hX := hH.add (.cons (rA_loc _ _) .nil) hE3 (p := pA wr.heap.size q) ⟨hQ, rfl⟩ (fun k hk => by have : k = wr.heap.size := hk; omega)
            clear hH hE3 hQ k0 k1 k3 hrange
            have hX3 := hX.drop
            exact ⟨⟨i + 1, by omega, by go_num, by rw [← HL.out, HN.out]; exact (hX3)⟩, by simp [intOf]; omega⟩
        · have hii : i = ps.length := by omega
          subst hii
          rw [List.take_length, ← HL.out] at hH
          clear gi hi
          as_aux_lemma =>
          have e1 : (⟨l, l.length, 0⟩ : Rd).end_ = 0 := by simp [Rd.end_]
          have e2 : (⟨l, l.length, 0⟩ : Rd).left = 0 := by simp [Rd.left]
          have E1 := Lib.hid e1
          have E2 := Lib.hid e2
          clear e1 e2
          go_wp2_with fail
          refine (hH.keeps (.cons (rA_loc _ _) .nil) fun F h => rend_any h).mono ?_
          rintro e w9 ⟨rfl, hH9, -⟩
          rw [E1.out]
          go_wp2_with fail
          refine (hH9.keeps (.cons (rA_loc _ _) .nil) fun F h => rleft_any h).mono ?_
          rintro e w10 ⟨rfl, hH10, -⟩
          rw [E2.out]
          go_wp2_with fail
          refine (hH10.keeps' fun F h => rat_any h).mono ?_
          rintro e w11 ⟨rfl, rfl⟩
          go_wp2_with fail
          go_ret
          exact ⟨rfl, hH10.base⟩
end Go.Proofs.Ytdaiondcaecklaa
