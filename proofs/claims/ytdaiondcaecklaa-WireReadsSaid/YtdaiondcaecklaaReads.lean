/- WireReads, walked. -/
import Derived.Test.YtdaiondcaecklaaWrites
import Derived.Test.YtdaiondcaecklaaReadsPlain
import Derived.Test.YtdaiondcaecklaaOpenP
import Derived.Deep.MidRow
namespace Go.Proofs.Ytdaiondcaecklaa
set_option linter.unusedVariables false
set_option linter.unusedSimpArgs false
open Go Go.RowKit
def sA (B : Nat) (s : Rd) : Asr := blkA B 50 #[.string (strOf s.rest), .int .i64 s.err]
theorem sA_loc (B : Nat) (s : Rd) : Loc (sA B s) := blkA_loc _ _ _
def ReadsRel (w : World) (r B : Nat) (b : List UInt8) (ps : List Prt) (k : Value) (wr : World) : Prop :=
  ∃ (i : Nat) (s : Rd), i ≤ ps.length ∧ k = .int .i64 i ∧ s.Good ∧ s.b = b ∧ Has w wr [rA r s, sA B s]
theorem partInfo : (Try.prog.info? 52).map (·.size) = some 36 := by kernel_rfl
theorem prt_size {w : World} {q : Prt} (h : q.Ok w) : q.cells.length = 36 := by simp [Prt.cells, u8s, h.sum]
theorem prt_one (q : Prt) : q.cells.toArray.all (·.oneCell') = true := by
  rw [Array.all_eq_true']
  intro x hx
  have hx' : x ∈ q.cells := by simpa using hx
  simp only [Prt.cells, List.mem_append, List.mem_cons, List.not_mem_nil, or_false] at hx'
  rcases hx' with (rfl | rfl | rfl | rfl) | h
  · rfl
  · rfl
  · rfl
  · rfl
  · exact u8s_one _ _ h
theorem wpList_load_rowG {P : Program} {ops : Array Oper} {rest : List Oper} {o : Oper} {a : Act} {w : World} {Q : Exit → Act → World → Prop} (ty : TypeId) (x : Operand) (ho : o.op = .load ty x)
    (g : Nat) (hx : a.eval x = .pointer (some ⟨g, 0, none⟩)) (t : TypeId) (cs : Array Value) (fr : Nat × Nat) (d : TypeDesc) (hg : w.heap[g]? = some (.cells cs t fr))
    (hu : P.underlying ty = some d) (hd : (match d with | .struct _ | .array _ _ => true | _ => false) = true) (hi : (P.info? ty).map (·.size) = some cs.size)
    (hw : Region.wanted o (yielded ops a.tmps) = true) (h : wpList P ops Q rest (a.put o.dst (.agg cs)) w) : wpList P ops Q (o :: rest) a w := by
  refine wpList_step fun K hK => ?_
  rw [if_pos hw]
  exact wp_load_row ty x ho g hx t cs fr d hg hu hd hi (hK _ _ h)
theorem eq_zero (w : World) : (Op.equalIn 10000 45 (.agg (u8s z32).toArray) (.agg #[.int .u8 0, .int .u8 0, .int .u8 0, .int .u8 0, .int .u8 0, .int .u8 0, .int .u8 0, .int .u8 0, .int .u8 0, .int .u8 0, .int .u8 0, .int .u8 0, .int .u8 0, .int .u8 0, .int .u8 0, .int .u8 0, .int .u8 0, .int .u8 0, .int .u8 0, .int .u8 0, .int .u8 0, .int .u8 0, .int .u8 0, .int .u8 0, .int .u8 0, .int .u8 0, .int .u8 0, .int .u8 0, .int .u8 0, .int .u8 0, .int .u8 0, .int .u8 0])).run Try.prog w = .ok true w := by kernel_rfl
theorem Has.fourth {w W : World} {p q r s : Asr} (h : Has w W [p, q, r, s]) : Has w W [s, p, q, r] := h.perm (List.perm_append_comm (l₁ := [p, q, r]) (l₂ := [s]))
theorem sum_cases (s : Rd) : s.sum = if (s.takeL 32).1 = [] then z32 else (s.takeL 32).1 := by
  unfold Rd.sum
  split
  · rename_i h; rw [h]; rfl
  · rename_i h
    have : (s.takeL 32).1.length = 32 := by
      unfold Rd.takeL at h ⊢
      split at h
      · split at h
        · rename_i h1 h2; rw [if_pos h1, if_pos h2]; simp; omega
        · exact absurd rfl h
      · exact absurd rfl h
    rw [this]; simp
theorem take_all (s : Rd) : (s.takeL 32).1 ≠ [] → (s.takeL 32).1.length = 32 := by
  intro h
  unfold Rd.takeL at h ⊢
  split at h
  · split at h
    · rename_i h1 h2; rw [if_pos h1, if_pos h2]; simp; omega
    · exact absurd rfl h
  · exact absurd rfl h
theorem sA_set {B : Nat} {s : Rd} {W : World} {F : Nat → Prop} (s' : Rd) (h : sA B s W F) : Next F W ((W.setCell ⟨B, 0, none⟩ (.string (strOf s'.rest))).setCell ⟨B, 1, none⟩ (.int .i64 s'.err)) (sA B s') := by
  obtain ⟨h1, rfl⟩ := h
  refine ⟨fun k => k = B, ⟨by simpa using (h1.set_ 0 (.string (strOf s'.rest))).set_ 1 (.int .i64 s'.err), rfl⟩, ((Tch.refl (fun k => k = B) W).setCell (p := ⟨B, 0, none⟩) (fun _ => rfl) _).setCell (p := ⟨B, 1, none⟩) (fun _ => rfl) _, fun _ h => Or.inl h⟩
theorem gen_wpList {P : Program} {ops rest : _} {Q : Exit → Act → World → Prop} {a : Act} {w : World} (F : World → Prop) (hf : F w) (h : ∀ W, F W → wpList P ops Q rest a W) : wpList P ops Q rest a w := h w hf
theorem part_box (w : World) (old cs : Array Value) (t : TypeId) : Ext w ((w.alloc (.cells old t)).setRow w.heap.size cs) ∧ Blk ((w.alloc (.cells old t)).setRow w.heap.size cs) w.heap.size t cs := by
  refine ⟨?_, setRow_blk (Blk.new _ _ _)⟩
  have h := setRow_ext (g := w.heap.size) (cs := cs) (fun _ => False) (Tch.of_ext (S := fun _ => False) (ext_alloc w (.cells old t))) (Nat.le_refl _)
  exact h.ext (fun _ h => h.elim)
set_option maxRecDepth 100000 in
set_option maxHeartbeats 40000000 in
theorem reads_any (w : World) (p : Option Addr) (c : Nat) (b : List UInt8) (hN : NumsAt .u8 w p (byI b)) (hp : p = none → b.length = 0 ∧ c = 0) (p2 : Option Addr) (c2 : Nat) (ps : List Prt) (hP : PartsAt w p2 ps) :
    Calls Try.prog 7 #[.slice p b.length c, .slice p2 ps.length c2] w fun e w' => e = .returned (.bool true) ∧ Ext w w' := by
  go_enter Try.func7, Try.ntmps7
  go_wp2_with fail
  refine (writes_any w).mono ?_
  rintro e w1 ⟨rfl, hE⟩
  rcases (show (1000 : Int) < b.length ∨ (¬ (1000 : Int) < b.length ∧ (40 : Int) < ps.length) ∨ (¬ (1000 : Int) < b.length ∧ ¬ (40 : Int) < ps.length) by omega) with g | ⟨g1, g2⟩ | ⟨g1, g2⟩
  · go_wp2_with fail
    go_ret
    exact ⟨rfl, hE⟩
  · go_wp2_with fail
    go_ret
    exact ⟨rfl, hE⟩
  go_wp2_with fail
  refine (read_any w1 p c b (hN.ext hE) hp (by omega)).mono ?_
  rintro e w2 hR
  obtain ⟨r, rfl, hH2⟩ := (Has.nil hE).reader .nil hR
  have hcv := conv_at (hN.ext hH2.base) hp
  clear hR
  go_wp2_with fail
  have hH3 : Has w (w2.alloc (.cells #[.string (strOf b), .int .i64 0] 50)) [rA r ⟨b, 0, 0⟩, sA w2.heap.size ⟨b, 0, 0⟩] :=
    (hH2.add (.cons (rA_loc _ _) .nil) (ext_alloc _ _) (p := sA w2.heap.size ⟨b, 0, 0⟩) ⟨Blk.new _ _ _, rfl⟩ (fun k hk => by show _ ≤ _; have : k = w2.heap.size := hk; omega)).swap
  clear hcv hH2
  generalize w2.heap.size = B at *
  generalize World.alloc _ _ = W at *
  go_loopw [36] (fun k wr => ReadsRel w r B b ps k wr) (fun k _ => ((ps.length : Int) + 1 - intOf k).toNat)
  case atStart => exact ⟨0, ⟨b, 0, 0⟩, by omega, rfl, ⟨Nat.zero_le _⟩, rfl, hH3⟩
  case round =>
    clear hH3
    obtain ⟨i, s, hi, rfl, hg, hb, hH⟩ := hrel
    by_cases gi : (i : Int) < ps.length
    · obtain ⟨pb, po, rfl, hpb, hcells, hok⟩ := hP i (by omega)
      have hE1 := hH.base
      have hrange : wr.rangeAt pb (po + i * 36) (ps[i]'(by omega)).cells := by
        intro j v hj
        have hj36 : j < 36 := by have := (List.getElem?_eq_some_iff.1 hj).1; rw [prt_size hok] at this; exact this
        have := (hE1.cell pb (po + (i * 36 + j)) hpb).trans (hcells j hj36)
        rw [show po + i * 36 + j = po + (i * 36 + j) by omega, this, hj]
      generalize ps[i]'(by omega) = q at *
      have hsz : (Try.prog.info? 52).map (·.size) = some q.cells.length := by rw [prt_size hok]; exact partInfo
      have hsz2 : (Try.prog.info? 52).map (·.size) = some q.cells.toArray.size := by rw [List.size_toArray]; exact hsz
      have hsz3 : 36 = q.cells.toArray.size := by rw [List.size_toArray, prt_size hok]
      have c0 := fun (X : World) (hQ : Blk X wr.heap.size 52 q.cells.toArray) => (show X.cell? ⟨wr.heap.size, 0, none⟩ = some (.int .i64 q.kind) from hQ.cell 0)
      have c2' := fun (X : World) (hQ : Blk X wr.heap.size 52 q.cells.toArray) => (show X.cell? ⟨wr.heap.size, 2, none⟩ = some (.int .u64 q.most) from hQ.cell 2)
      have Z1 := Lib.hid hsz
      have Z2 := Lib.hid hsz2
      have Z3 := Lib.hid hsz3
      clear hsz hsz2 hsz3
      have C0 := Lib.hid c0
      have C2 := Lib.hid c2'
      clear hcells c0 c2'
      have hlen : s.rest.length ≤ 70368744177664 := by
        have : s.rest.length ≤ s.b.length := by unfold Rd.rest; split <;> simp
        rw [hb] at this; omega
      rcases (show q.kind = 0 ∨ q.kind = 1 ∨ q.kind = 2 ∨ q.kind = 3 ∨ q.kind = 4 ∨ q.kind = 5 ∨ q.kind = 6 ∨ (q.kind < 0 ∨ 6 < q.kind) by omega) with hk | hk | hk | hk | hk | hk | hk | hk
      · as_aux_lemma =>
        rw [hk] at C0
        go_wp2_with (first
          | (refine wpList_load_mid rfl 52 _ rfl pb (po + i * 36) rfl q.cells _ hrange Try.underlying52 rfl Z1.out ?_)
          | (refine wpList_store_row rfl 52 _ _ rfl wr.heap.size q.cells.toArray rfl rfl _ _ (Blk.new _ _ _) Z2.out Z3.out (prt_one q) ?_
             refine gen_wpList (fun X => Ext wr X ∧ Blk X wr.heap.size 52 q.cells.toArray) (part_box wr _ _ _) ?_
             rintro W3 ⟨hE3, hQ⟩
             have k0 := C0.out W3 hQ
             have k2 := C2.out W3 hQ))
        have hX := hH.add (.cons (rA_loc _ _) (.cons (sA_loc _ _) .nil)) hE3 (p := blkA wr.heap.size 52 q.cells.toArray) ⟨hQ, rfl⟩ (fun k hk => by have : k = wr.heap.size := hk; omega)
        have LX : ∀ {t : Rd}, Locs [blkA wr.heap.size 52 q.cells.toArray, sA B t] := .cons (blkA_loc _ _ _) (.cons (sA_loc _ _) .nil)
        have LY : ∀ {s : Rd}, Locs [rA r s, blkA wr.heap.size 52 q.cells.toArray] := .cons (rA_loc _ _) (.cons (blkA_loc _ _ _) .nil)
        clear hH hE3 hQ k0 k2 hrange
        refine (hX.swap.act LX fun F h => rbyte_any h).mono ?_
        rintro e w5 ⟨rfl, hX5⟩
        obtain ⟨Fv, hFv⟩ := hX5.third.head
        have b0 := hFv.1.cell 0
        have b1 := hFv.1.cell 1
        have f0 := hFv.1.frozen 0
        have f1 := hFv.1.frozen 1
        simp only [List.getElem?_toArray, List.getElem?_cons_zero, List.getElem?_cons_succ] at b0 b1
        clear hFv
        go_wp2_with fail
        refine (rtake2_any w5 s.rest s.err 1 hlen (by omega)).mono ?_
        rw [takeV_rd hg 1]
        rintro x6 w6 ⟨rfl, hE6⟩
        have hX6 := hX5.ext (.cons (rA_loc _ _) LX) hE6
        obtain ⟨Fv, hFv⟩ := hX6.third.head
        have b0 := hFv.1.cell 0
        have b1 := hFv.1.cell 1
        have f0 := hFv.1.frozen 0
        have f1 := hFv.1.frozen 1
        simp only [List.getElem?_toArray, List.getElem?_cons_zero, List.getElem?_cons_succ] at b0 b1
        clear hFv
        unfold stV
        clear hE6 hX5
        have hg2 := Rd.take_good hg 1
        obtain ⟨hb1, hb2, hb3⟩ := s.byte_take
        rw [hb1] at hX6
        have hbl := s.byte_lt
        generalize s.byte.1 = y at *
        have hS' := hX6.third.next LY fun F h => sA_set (s.takeL 1).2 h
        by_cases hl0 : (s.takeL 1).1 = []
        · rw [hl0]
          have hy : y = 0 := hb3 hl0
          subst hy
          rw [strOf_nil]
          generalize (s.takeL 1).2 = s2 at *
          clear hb1 hb2 hb3 hX6 hl0
          go_wp2_with fail
          generalize World.setCell (World.setCell _ _ _) _ _ = W5 at *
          obtain ⟨hgd, hbb⟩ := hg2
          rw [hb] at hbb
          replace hS' := hS'.swap
          have LS : ∀ {t : Rd}, Locs [rA r t, sA B t, blkA wr.heap.size 52 q.cells.toArray] := .cons (rA_loc _ _) (.cons (sA_loc _ _) (.cons (blkA_loc _ _ _) .nil))
          obtain ⟨Fv, hFv⟩ := hS'.swap.head
          have d0 : ∀ x : Of (fun X => Ext W5 X), x.val.cell? ⟨B, 0, none⟩ = some (.string (strOf s2.rest)) := fun x => (x.property.cell B 0 hFv.1.lt).trans (hFv.1.cell 0)
          have d1 : ∀ x : Of (fun X => Ext W5 X), x.val.cell? ⟨B, 1, none⟩ = some (.int .i64 s2.err) := fun x => (x.property.cell B 1 hFv.1.lt).trans (hFv.1.cell 1)
          have hsz := strOf_size s2.rest
          have hrl : s2.rest.length ≤ 1000 := by
            have : s2.rest.length ≤ s2.b.length := by unfold Rd.rest; split <;> simp
            rw [hbb] at this; omega
          have hD := hS'.ext LS (Ext.refl W5).drew
          clear hFv hS'
          have hFd := (show Ext W5 W5.drew from (Ext.refl _).drew)
          have hne_ : Nonempty (Of (fun X => Ext W5 X)) := ⟨⟨_, hFd⟩⟩
          refine region_steps [0,2,3,1,4,5,6,8,9,10,7,11,12,13,14,15,16,17,18,20,21,22,23,24,25,19,26,27,28] [true,true,true,false,true,true,true,true,true,true,false,true,true,true,true,true,true,true,true,true,true,true,true,true,true,false,true,true,true] (fun X => Ext W5 X) (by kernel_rfl) (by kernel_rfl) hFd ?_
          simp only [List.filterMap_cons, List.filterMap_nil, List.getElem?_cons_zero, List.getElem?_cons_succ]
          refine steps_quiet 3 (by kernel_rfl) ?_
          simp only [List.take_succ_cons, List.take_zero, List.drop_succ_cons, List.drop_zero]
          repeat (go_big_quiet_step (fail))
          refine wpQuiet_nil ?_
          refine steps_want rfl (fun K hK => ?_)
          go_simp
          refine (hD.keeps' fun F h => rerr_any h).mono ?_
          rintro e w9 ⟨rfl, rfl⟩
          refine hK _ _ (fun X => Ext W5 X) (Ext.refl _).drew (fun _ h => h) ?_
          clear hK K
          refine steps_quiet 6 (by kernel_rfl) ?_
          simp only [List.take_succ_cons, List.take_zero, List.drop_succ_cons, List.drop_zero]
          repeat (go_big_quiet_step (fail))
          refine wpQuiet_nil ?_
          refine steps_want rfl (fun K hK => ?_)
          go_simp
          refine (hD.keeps LS fun F h => rleft_any h).mono ?_
          rintro e w9 ⟨rfl, hD2, hE9⟩
          rw [Rd.left_rest]
          refine hK _ _ (fun X => Ext W5 X) ((Ext.refl W5).drew.trans hE9) (fun _ h => h) ?_
          clear hK K hD
          by_cases he2 : s2.err = 0
          · have e1 : (s2.err == 0) = true := by simp [he2]
            have hat := Rd.at_rest hgd he2
            rw [hbb] at hat
            have HAT := Lib.hid hat
            have HE2 := Lib.hid he2
            clear hat he2
            refine steps_quiet 14 (by kernel_rfl) ?_
            simp only [List.take_succ_cons, List.take_zero, List.drop_succ_cons, List.drop_zero]
            repeat (go_big_quiet_step (fail))
            refine wpQuiet_nil ?_
            refine steps_want rfl (fun K hK => ?_)
            go_simp
            refine (hD2.keeps' fun F h => rat_any h).mono ?_
            rintro e w10 ⟨rfl, rfl⟩
            have hav : (s2.at_ : Int) = (b.length : Int) - s2.rest.length := by have := HAT.out; omega
            rw [hav]
            refine hK _ _ (fun X => Ext W5 X) ((Ext.refl W5).drew.trans hE9) (fun _ h => h) ?_
            clear hK K hav
            refine steps_quiet 3 (by kernel_rfl) ?_
            simp only [List.take_succ_cons, List.take_zero, List.drop_succ_cons, List.drop_zero]
            repeat (go_big_quiet_step (fail))
            refine wpQuiet_nil ?_
            refine steps_nil ?_
            clear d0 d1 hsz
            go_wp2_with fail
            exact ⟨⟨i + 1, s2, by omega, by go_num, hgd, hbb, hD2.third.drop⟩, by simp [intOf]; omega⟩
          · have e1 : (s2.err == 0) = false := by simp [he2]
            clear he2
            refine steps_quiet 14 (by kernel_rfl) ?_
            simp only [List.take_succ_cons, List.take_zero, List.drop_succ_cons, List.drop_zero]
            repeat (go_big_quiet_step (fail))
            refine wpQuiet_nil ?_
            refine steps_skip rfl ?_
            simp only [Act.put, List.setIfInBounds_toArray, List.set_cons_succ, List.set_cons_zero]
            refine steps_quiet 3 (by kernel_rfl) ?_
            simp only [List.take_succ_cons, List.take_zero, List.drop_succ_cons, List.drop_zero]
            repeat (go_big_quiet_step (fail))
            refine wpQuiet_nil ?_
            refine steps_nil ?_
            clear d0 d1 hsz
            go_wp2_with fail
            exact ⟨⟨i + 1, s2, by omega, by go_num, hgd, hbb, hD2.third.drop⟩, by simp [intOf]; omega⟩
        · rw [if_neg hl0] at hb2
          rw [hb2]
          have hgt : ∀ h, ((strOf [UInt8.ofNat y])[0]'h).toNat = y := by
            intro h
            show (UInt8.ofNat y).toNat = y
            simp; omega
          have hs1 : (strOf [UInt8.ofNat y]).size = 1 := rfl
          have hs2 : ((strOf [UInt8.ofNat y]).toList == []) = false := by simp [strOf]
          have hs3 : (strOf [UInt8.ofNat y]).toList.isEmpty = false := by simp [strOf]
          generalize strOf [UInt8.ofNat y] = st at *
          generalize (s.takeL 1).2 = s2 at *
          clear hb1 hb2 hb3 hX6 hl0
          go_wp2_with fail
          generalize World.setCell (World.setCell _ _ _) _ _ = W5 at *
          obtain ⟨hgd, hbb⟩ := hg2
          rw [hb] at hbb
          replace hS' := hS'.swap
          have LS : ∀ {t : Rd}, Locs [rA r t, sA B t, blkA wr.heap.size 52 q.cells.toArray] := .cons (rA_loc _ _) (.cons (sA_loc _ _) (.cons (blkA_loc _ _ _) .nil))
          obtain ⟨Fv, hFv⟩ := hS'.swap.head
          have d0 : ∀ x : Of (fun X => Ext W5 X), x.val.cell? ⟨B, 0, none⟩ = some (.string (strOf s2.rest)) := fun x => (x.property.cell B 0 hFv.1.lt).trans (hFv.1.cell 0)
          have d1 : ∀ x : Of (fun X => Ext W5 X), x.val.cell? ⟨B, 1, none⟩ = some (.int .i64 s2.err) := fun x => (x.property.cell B 1 hFv.1.lt).trans (hFv.1.cell 1)
          have hsz := strOf_size s2.rest
          have hrl : s2.rest.length ≤ 1000 := by
            have : s2.rest.length ≤ s2.b.length := by unfold Rd.rest; split <;> simp
            rw [hbb] at this; omega
          have hD := hS'.ext LS (Ext.refl W5).drew
          clear hFv hS'
          have hFd := (show Ext W5 W5.drew from (Ext.refl _).drew)
          have hne_ : Nonempty (Of (fun X => Ext W5 X)) := ⟨⟨_, hFd⟩⟩
          refine region_steps [0,2,3,1,4,5,6,8,9,10,7,11,12,13,14,15,16,17,18,20,21,22,23,24,25,19,26,27,28] [true,true,true,false,true,true,true,true,true,true,false,true,true,true,true,true,true,true,true,true,true,true,true,true,true,false,true,true,true] (fun X => Ext W5 X) (by kernel_rfl) (by kernel_rfl) hFd ?_
          simp only [List.filterMap_cons, List.filterMap_nil, List.getElem?_cons_zero, List.getElem?_cons_succ]
          refine steps_quiet 3 (by kernel_rfl) ?_
          simp only [List.take_succ_cons, List.take_zero, List.drop_succ_cons, List.drop_zero]
          repeat (go_big_quiet_step (fail))
          refine wpQuiet_nil ?_
          refine steps_want rfl (fun K hK => ?_)
          go_simp
          refine (hD.keeps' fun F h => rerr_any h).mono ?_
          rintro e w9 ⟨rfl, rfl⟩
          refine hK _ _ (fun X => Ext W5 X) (Ext.refl _).drew (fun _ h => h) ?_
          clear hK K
          refine steps_quiet 6 (by kernel_rfl) ?_
          simp only [List.take_succ_cons, List.take_zero, List.drop_succ_cons, List.drop_zero]
          repeat (go_big_quiet_step (fail))
          refine wpQuiet_nil ?_
          refine steps_want rfl (fun K hK => ?_)
          go_simp
          refine (hD.keeps LS fun F h => rleft_any h).mono ?_
          rintro e w9 ⟨rfl, hD2, hE9⟩
          rw [Rd.left_rest]
          refine hK _ _ (fun X => Ext W5 X) ((Ext.refl W5).drew.trans hE9) (fun _ h => h) ?_
          clear hK K hD
          by_cases he2 : s2.err = 0
          · have e1 : (s2.err == 0) = true := by simp [he2]
            have hat := Rd.at_rest hgd he2
            rw [hbb] at hat
            have HAT := Lib.hid hat
            have HE2 := Lib.hid he2
            clear hat he2
            refine steps_quiet 14 (by kernel_rfl) ?_
            simp only [List.take_succ_cons, List.take_zero, List.drop_succ_cons, List.drop_zero]
            repeat (go_big_quiet_step (fail))
            refine wpQuiet_nil ?_
            refine steps_want rfl (fun K hK => ?_)
            go_simp
            refine (hD2.keeps' fun F h => rat_any h).mono ?_
            rintro e w10 ⟨rfl, rfl⟩
            have hav : (s2.at_ : Int) = (b.length : Int) - s2.rest.length := by have := HAT.out; omega
            rw [hav]
            refine hK _ _ (fun X => Ext W5 X) ((Ext.refl W5).drew.trans hE9) (fun _ h => h) ?_
            clear hK K hav
            refine steps_quiet 3 (by kernel_rfl) ?_
            simp only [List.take_succ_cons, List.take_zero, List.drop_succ_cons, List.drop_zero]
            repeat (go_big_quiet_step (fail))
            refine wpQuiet_nil ?_
            refine steps_nil ?_
            clear d0 d1 hsz
            go_wp2_with fail
            exact ⟨⟨i + 1, s2, by omega, by go_num, hgd, hbb, hD2.third.drop⟩, by simp [intOf]; omega⟩
          · have e1 : (s2.err == 0) = false := by simp [he2]
            clear he2
            refine steps_quiet 14 (by kernel_rfl) ?_
            simp only [List.take_succ_cons, List.take_zero, List.drop_succ_cons, List.drop_zero]
            repeat (go_big_quiet_step (fail))
            refine wpQuiet_nil ?_
            refine steps_skip rfl ?_
            simp only [Act.put, List.setIfInBounds_toArray, List.set_cons_succ, List.set_cons_zero]
            refine steps_quiet 3 (by kernel_rfl) ?_
            simp only [List.take_succ_cons, List.take_zero, List.drop_succ_cons, List.drop_zero]
            repeat (go_big_quiet_step (fail))
            refine wpQuiet_nil ?_
            refine steps_nil ?_
            clear d0 d1 hsz
            go_wp2_with fail
            exact ⟨⟨i + 1, s2, by omega, by go_num, hgd, hbb, hD2.third.drop⟩, by simp [intOf]; omega⟩
      · as_aux_lemma =>
        rw [hk] at C0
        go_wp2_with (first
          | (refine wpList_load_mid rfl 52 _ rfl pb (po + i * 36) rfl q.cells _ hrange Try.underlying52 rfl Z1.out ?_)
          | (refine wpList_store_row rfl 52 _ _ rfl wr.heap.size q.cells.toArray rfl rfl _ _ (Blk.new _ _ _) Z2.out Z3.out (prt_one q) ?_
             refine gen_wpList (fun X => Ext wr X ∧ Blk X wr.heap.size 52 q.cells.toArray) (part_box wr _ _ _) ?_
             rintro W3 ⟨hE3, hQ⟩
             have k0 := C0.out W3 hQ
             have k2 := C2.out W3 hQ))
        have hX := hH.add (.cons (rA_loc _ _) (.cons (sA_loc _ _) .nil)) hE3 (p := blkA wr.heap.size 52 q.cells.toArray) ⟨hQ, rfl⟩ (fun k hk => by have : k = wr.heap.size := hk; omega)
        have LX : ∀ {t : Rd}, Locs [blkA wr.heap.size 52 q.cells.toArray, sA B t] := .cons (blkA_loc _ _ _) (.cons (sA_loc _ _) .nil)
        have LY : ∀ {s : Rd}, Locs [rA r s, blkA wr.heap.size 52 q.cells.toArray] := .cons (rA_loc _ _) (.cons (blkA_loc _ _ _) .nil)
        clear hH hE3 hQ k0 k2 hrange
        refine (hX.swap.act LX fun F h => rnum_any h q.most hok.most).mono ?_
        rintro e w5 ⟨rfl, hX5⟩
        obtain ⟨Fv, hFv⟩ := hX5.third.head
        have b0 := hFv.1.cell 0
        have b1 := hFv.1.cell 1
        have f0 := hFv.1.frozen 0
        have f1 := hFv.1.frozen 1
        simp only [List.getElem?_toArray, List.getElem?_cons_zero, List.getElem?_cons_succ] at b0 b1
        clear hFv
        obtain ⟨Fq, hFq⟩ := hX5.swap.head
        have k2 := C2.out w5 hFq.1
        clear hFq
        go_wp2_with fail
        refine (rnumber_any w5 s.rest s.err q.most hlen hok.most).mono ?_
        rw [numV_rd hg q.most]
        rintro x6 w6 ⟨rfl, hE6⟩
        have hX6 := hX5.ext (.cons (rA_loc _ _) LX) hE6
        obtain ⟨Fv, hFv⟩ := hX6.third.head
        have b0 := hFv.1.cell 0
        have b1 := hFv.1.cell 1
        have f0 := hFv.1.frozen 0
        have f1 := hFv.1.frozen 1
        simp only [List.getElem?_toArray, List.getElem?_cons_zero, List.getElem?_cons_succ] at b0 b1
        clear hFv
        unfold stV
        have hg2 := (numL_rd hg q.most).2
        have hS' := hX6.third.next LY fun F h => sA_set (s.num q.most).2 h
        clear hE6 hX5 hX6
        generalize (s.num q.most).2 = s2 at *
        generalize (s.num q.most).1 = nn at *
        go_wp2_with fail
        generalize World.setCell (World.setCell _ _ _) _ _ = W5 at *
        obtain ⟨hgd, hbb⟩ := hg2
        rw [hb] at hbb
        replace hS' := hS'.swap
        have LS : ∀ {t : Rd}, Locs [rA r t, sA B t, blkA wr.heap.size 52 q.cells.toArray] := .cons (rA_loc _ _) (.cons (sA_loc _ _) (.cons (blkA_loc _ _ _) .nil))
        obtain ⟨Fv, hFv⟩ := hS'.swap.head
        have d0 : ∀ x : Of (fun X => Ext W5 X), x.val.cell? ⟨B, 0, none⟩ = some (.string (strOf s2.rest)) := fun x => (x.property.cell B 0 hFv.1.lt).trans (hFv.1.cell 0)
        have d1 : ∀ x : Of (fun X => Ext W5 X), x.val.cell? ⟨B, 1, none⟩ = some (.int .i64 s2.err) := fun x => (x.property.cell B 1 hFv.1.lt).trans (hFv.1.cell 1)
        have hsz := strOf_size s2.rest
        have hrl : s2.rest.length ≤ 1000 := by
          have : s2.rest.length ≤ s2.b.length := by unfold Rd.rest; split <;> simp
          rw [hbb] at this; omega
        have hD := hS'.ext LS (Ext.refl W5).drew
        clear hFv hS'
        have hFd := (show Ext W5 W5.drew from (Ext.refl _).drew)
        have hne_ : Nonempty (Of (fun X => Ext W5 X)) := ⟨⟨_, hFd⟩⟩
        refine region_steps [0,2,3,1,4,5,6,8,9,10,7,11,12,13,14,15,16,17,18,20,21,22,23,24,25,19,26,27,28] [true,true,true,false,true,true,true,true,true,true,false,true,true,true,true,true,true,true,true,true,true,true,true,true,true,false,true,true,true] (fun X => Ext W5 X) (by kernel_rfl) (by kernel_rfl) hFd ?_
        simp only [List.filterMap_cons, List.filterMap_nil, List.getElem?_cons_zero, List.getElem?_cons_succ]
        refine steps_quiet 3 (by kernel_rfl) ?_
        simp only [List.take_succ_cons, List.take_zero, List.drop_succ_cons, List.drop_zero]
        repeat (go_big_quiet_step (fail))
        refine wpQuiet_nil ?_
        refine steps_want rfl (fun K hK => ?_)
        go_simp
        refine (hD.keeps' fun F h => rerr_any h).mono ?_
        rintro e w9 ⟨rfl, rfl⟩
        refine hK _ _ (fun X => Ext W5 X) (Ext.refl _).drew (fun _ h => h) ?_
        clear hK K
        refine steps_quiet 6 (by kernel_rfl) ?_
        simp only [List.take_succ_cons, List.take_zero, List.drop_succ_cons, List.drop_zero]
        repeat (go_big_quiet_step (fail))
        refine wpQuiet_nil ?_
        refine steps_want rfl (fun K hK => ?_)
        go_simp
        refine (hD.keeps LS fun F h => rleft_any h).mono ?_
        rintro e w9 ⟨rfl, hD2, hE9⟩
        rw [Rd.left_rest]
        refine hK _ _ (fun X => Ext W5 X) ((Ext.refl W5).drew.trans hE9) (fun _ h => h) ?_
        clear hK K hD
        by_cases he2 : s2.err = 0
        · have e1 : (s2.err == 0) = true := by simp [he2]
          have hat := Rd.at_rest hgd he2
          rw [hbb] at hat
          have HAT := Lib.hid hat
          have HE2 := Lib.hid he2
          clear hat he2
          refine steps_quiet 14 (by kernel_rfl) ?_
          simp only [List.take_succ_cons, List.take_zero, List.drop_succ_cons, List.drop_zero]
          repeat (go_big_quiet_step (fail))
          refine wpQuiet_nil ?_
          refine steps_want rfl (fun K hK => ?_)
          go_simp
          refine (hD2.keeps' fun F h => rat_any h).mono ?_
          rintro e w10 ⟨rfl, rfl⟩
          have hav : (s2.at_ : Int) = (b.length : Int) - s2.rest.length := by have := HAT.out; omega
          rw [hav]
          refine hK _ _ (fun X => Ext W5 X) ((Ext.refl W5).drew.trans hE9) (fun _ h => h) ?_
          clear hK K hav
          refine steps_quiet 3 (by kernel_rfl) ?_
          simp only [List.take_succ_cons, List.take_zero, List.drop_succ_cons, List.drop_zero]
          repeat (go_big_quiet_step (fail))
          refine wpQuiet_nil ?_
          refine steps_nil ?_
          clear d0 d1 hsz
          go_wp2_with fail
          exact ⟨⟨i + 1, s2, by omega, by go_num, hgd, hbb, hD2.third.drop⟩, by simp [intOf]; omega⟩
        · have e1 : (s2.err == 0) = false := by simp [he2]
          clear he2
          refine steps_quiet 14 (by kernel_rfl) ?_
          simp only [List.take_succ_cons, List.take_zero, List.drop_succ_cons, List.drop_zero]
          repeat (go_big_quiet_step (fail))
          refine wpQuiet_nil ?_
          refine steps_skip rfl ?_
          simp only [Act.put, List.setIfInBounds_toArray, List.set_cons_succ, List.set_cons_zero]
          refine steps_quiet 3 (by kernel_rfl) ?_
          simp only [List.take_succ_cons, List.take_zero, List.drop_succ_cons, List.drop_zero]
          repeat (go_big_quiet_step (fail))
          refine wpQuiet_nil ?_
          refine steps_nil ?_
          clear d0 d1 hsz
          go_wp2_with fail
          exact ⟨⟨i + 1, s2, by omega, by go_num, hgd, hbb, hD2.third.drop⟩, by simp [intOf]; omega⟩
      · as_aux_lemma =>
        rw [hk] at C0
        go_wp2_with (first
          | (refine wpList_load_mid rfl 52 _ rfl pb (po + i * 36) rfl q.cells _ hrange Try.underlying52 rfl Z1.out ?_)
          | (refine wpList_store_row rfl 52 _ _ rfl wr.heap.size q.cells.toArray rfl rfl _ _ (Blk.new _ _ _) Z2.out Z3.out (prt_one q) ?_
             refine gen_wpList (fun X => Ext wr X ∧ Blk X wr.heap.size 52 q.cells.toArray) (part_box wr _ _ _) ?_
             rintro W3 ⟨hE3, hQ⟩
             have k0 := C0.out W3 hQ
             have k2 := C2.out W3 hQ))
        have hX := hH.add (.cons (rA_loc _ _) (.cons (sA_loc _ _) .nil)) hE3 (p := blkA wr.heap.size 52 q.cells.toArray) ⟨hQ, rfl⟩ (fun k hk => by have : k = wr.heap.size := hk; omega)
        have LX : ∀ {t : Rd}, Locs [blkA wr.heap.size 52 q.cells.toArray, sA B t] := .cons (blkA_loc _ _ _) (.cons (sA_loc _ _) .nil)
        have LY : ∀ {s : Rd}, Locs [rA r s, blkA wr.heap.size 52 q.cells.toArray] := .cons (rA_loc _ _) (.cons (blkA_loc _ _ _) .nil)
        clear hH hE3 hQ k0 k2 hrange
        refine (hX.swap.act LX fun F h => rint_any h).mono ?_
        rintro e w5 ⟨rfl, hX5⟩
        obtain ⟨Fv, hFv⟩ := hX5.third.head
        have b0 := hFv.1.cell 0
        have b1 := hFv.1.cell 1
        have f0 := hFv.1.frozen 0
        have f1 := hFv.1.frozen 1
        simp only [List.getElem?_toArray, List.getElem?_cons_zero, List.getElem?_cons_succ] at b0 b1
        clear hFv
        go_wp2_with fail
        refine (rnumber_any w5 s.rest s.err 18446744073709551615 hlen (by omega)).mono ?_
        rw [numV_rd hg 18446744073709551615]
        rintro x6 w6 ⟨rfl, hE6⟩
        have hX6 := hX5.ext (.cons (rA_loc _ _) LX) hE6
        obtain ⟨Fv, hFv⟩ := hX6.third.head
        have b0 := hFv.1.cell 0
        have b1 := hFv.1.cell 1
        have f0 := hFv.1.frozen 0
        have f1 := hFv.1.frozen 1
        simp only [List.getElem?_toArray, List.getElem?_cons_zero, List.getElem?_cons_succ] at b0 b1
        clear hFv
        unfold stV
        have hg2 := (numL_rd hg 18446744073709551615).2
        have hS' := hX6.third.next LY fun F h => sA_set (s.num 18446744073709551615).2 h
        clear hE6 hX5 hX6
        have hnl := s.num_lt 18446744073709551615
        generalize (s.num 18446744073709551615).2 = s2 at *
        generalize (s.num 18446744073709551615).1 = nn at *
        go_wp2_with fail
        refine (signed_any nn _ hnl).mono ?_
        rintro e7 w7 ⟨rfl, rfl⟩
        go_wp2_with fail
        generalize World.setCell (World.setCell _ _ _) _ _ = W5 at *
        obtain ⟨hgd, hbb⟩ := hg2
        rw [hb] at hbb
        replace hS' := hS'.swap
        have LS : ∀ {t : Rd}, Locs [rA r t, sA B t, blkA wr.heap.size 52 q.cells.toArray] := .cons (rA_loc _ _) (.cons (sA_loc _ _) (.cons (blkA_loc _ _ _) .nil))
        obtain ⟨Fv, hFv⟩ := hS'.swap.head
        have d0 : ∀ x : Of (fun X => Ext W5 X), x.val.cell? ⟨B, 0, none⟩ = some (.string (strOf s2.rest)) := fun x => (x.property.cell B 0 hFv.1.lt).trans (hFv.1.cell 0)
        have d1 : ∀ x : Of (fun X => Ext W5 X), x.val.cell? ⟨B, 1, none⟩ = some (.int .i64 s2.err) := fun x => (x.property.cell B 1 hFv.1.lt).trans (hFv.1.cell 1)
        have hsz := strOf_size s2.rest
        have hrl : s2.rest.length ≤ 1000 := by
          have : s2.rest.length ≤ s2.b.length := by unfold Rd.rest; split <;> simp
          rw [hbb] at this; omega
        have hD := hS'.ext LS (Ext.refl W5).drew
        clear hFv hS'
        have hFd := (show Ext W5 W5.drew from (Ext.refl _).drew)
        have hne_ : Nonempty (Of (fun X => Ext W5 X)) := ⟨⟨_, hFd⟩⟩
        refine region_steps [0,2,3,1,4,5,6,8,9,10,7,11,12,13,14,15,16,17,18,20,21,22,23,24,25,19,26,27,28] [true,true,true,false,true,true,true,true,true,true,false,true,true,true,true,true,true,true,true,true,true,true,true,true,true,false,true,true,true] (fun X => Ext W5 X) (by kernel_rfl) (by kernel_rfl) hFd ?_
        simp only [List.filterMap_cons, List.filterMap_nil, List.getElem?_cons_zero, List.getElem?_cons_succ]
        refine steps_quiet 3 (by kernel_rfl) ?_
        simp only [List.take_succ_cons, List.take_zero, List.drop_succ_cons, List.drop_zero]
        repeat (go_big_quiet_step (fail))
        refine wpQuiet_nil ?_
        refine steps_want rfl (fun K hK => ?_)
        go_simp
        refine (hD.keeps' fun F h => rerr_any h).mono ?_
        rintro e w9 ⟨rfl, rfl⟩
        refine hK _ _ (fun X => Ext W5 X) (Ext.refl _).drew (fun _ h => h) ?_
        clear hK K
        refine steps_quiet 6 (by kernel_rfl) ?_
        simp only [List.take_succ_cons, List.take_zero, List.drop_succ_cons, List.drop_zero]
        repeat (go_big_quiet_step (fail))
        refine wpQuiet_nil ?_
        refine steps_want rfl (fun K hK => ?_)
        go_simp
        refine (hD.keeps LS fun F h => rleft_any h).mono ?_
        rintro e w9 ⟨rfl, hD2, hE9⟩
        rw [Rd.left_rest]
        refine hK _ _ (fun X => Ext W5 X) ((Ext.refl W5).drew.trans hE9) (fun _ h => h) ?_
        clear hK K hD
        by_cases he2 : s2.err = 0
        · have e1 : (s2.err == 0) = true := by simp [he2]
          have hat := Rd.at_rest hgd he2
          rw [hbb] at hat
          have HAT := Lib.hid hat
          have HE2 := Lib.hid he2
          clear hat he2
          refine steps_quiet 14 (by kernel_rfl) ?_
          simp only [List.take_succ_cons, List.take_zero, List.drop_succ_cons, List.drop_zero]
          repeat (go_big_quiet_step (fail))
          refine wpQuiet_nil ?_
          refine steps_want rfl (fun K hK => ?_)
          go_simp
          refine (hD2.keeps' fun F h => rat_any h).mono ?_
          rintro e w10 ⟨rfl, rfl⟩
          have hav : (s2.at_ : Int) = (b.length : Int) - s2.rest.length := by have := HAT.out; omega
          rw [hav]
          refine hK _ _ (fun X => Ext W5 X) ((Ext.refl W5).drew.trans hE9) (fun _ h => h) ?_
          clear hK K hav
          refine steps_quiet 3 (by kernel_rfl) ?_
          simp only [List.take_succ_cons, List.take_zero, List.drop_succ_cons, List.drop_zero]
          repeat (go_big_quiet_step (fail))
          refine wpQuiet_nil ?_
          refine steps_nil ?_
          clear d0 d1 hsz
          go_wp2_with fail
          exact ⟨⟨i + 1, s2, by omega, by go_num, hgd, hbb, hD2.third.drop⟩, by simp [intOf]; omega⟩
        · have e1 : (s2.err == 0) = false := by simp [he2]
          clear he2
          refine steps_quiet 14 (by kernel_rfl) ?_
          simp only [List.take_succ_cons, List.take_zero, List.drop_succ_cons, List.drop_zero]
          repeat (go_big_quiet_step (fail))
          refine wpQuiet_nil ?_
          refine steps_skip rfl ?_
          simp only [Act.put, List.setIfInBounds_toArray, List.set_cons_succ, List.set_cons_zero]
          refine steps_quiet 3 (by kernel_rfl) ?_
          simp only [List.take_succ_cons, List.take_zero, List.drop_succ_cons, List.drop_zero]
          repeat (go_big_quiet_step (fail))
          refine wpQuiet_nil ?_
          refine steps_nil ?_
          clear d0 d1 hsz
          go_wp2_with fail
          exact ⟨⟨i + 1, s2, by omega, by go_num, hgd, hbb, hD2.third.drop⟩, by simp [intOf]; omega⟩
      · as_aux_lemma =>
        rw [hk] at C0
        go_wp2_with (first
          | (refine wpList_load_mid rfl 52 _ rfl pb (po + i * 36) rfl q.cells _ hrange Try.underlying52 rfl Z1.out ?_)
          | (refine wpList_store_row rfl 52 _ _ rfl wr.heap.size q.cells.toArray rfl rfl _ _ (Blk.new _ _ _) Z2.out Z3.out (prt_one q) ?_
             refine gen_wpList (fun X => Ext wr X ∧ Blk X wr.heap.size 52 q.cells.toArray) (part_box wr _ _ _) ?_
             rintro W3 ⟨hE3, hQ⟩
             have k0 := C0.out W3 hQ
             have k2 := C2.out W3 hQ))
        have hX := hH.add (.cons (rA_loc _ _) (.cons (sA_loc _ _) .nil)) hE3 (p := blkA wr.heap.size 52 q.cells.toArray) ⟨hQ, rfl⟩ (fun k hk => by have : k = wr.heap.size := hk; omega)
        have LX : ∀ {t : Rd}, Locs [blkA wr.heap.size 52 q.cells.toArray, sA B t] := .cons (blkA_loc _ _ _) (.cons (sA_loc _ _) .nil)
        have LY : ∀ {s : Rd}, Locs [rA r s, blkA wr.heap.size 52 q.cells.toArray] := .cons (rA_loc _ _) (.cons (blkA_loc _ _ _) .nil)
        clear hH hE3 hQ k0 k2 hrange
        refine (hX.swap.act LX fun F h => rfixed_any h).mono ?_
        rintro e w5 ⟨rfl, hX5⟩
        rw [← low_eq]
        obtain ⟨Fv, hFv⟩ := hX5.third.head
        have b0 := hFv.1.cell 0
        have b1 := hFv.1.cell 1
        have f0 := hFv.1.frozen 0
        have f1 := hFv.1.frozen 1
        simp only [List.getElem?_toArray, List.getElem?_cons_zero, List.getElem?_cons_succ] at b0 b1
        clear hFv
        go_wp2_with fail
        refine (rtake2_any w5 s.rest s.err 4 hlen (by omega)).mono ?_
        rw [takeV_rd hg 4]
        rintro x6 w6 ⟨rfl, hE6⟩
        have hX6 := hX5.ext (.cons (rA_loc _ _) LX) hE6
        obtain ⟨Fv, hFv⟩ := hX6.third.head
        have b0 := hFv.1.cell 0
        have b1 := hFv.1.cell 1
        have f0 := hFv.1.frozen 0
        have f1 := hFv.1.frozen 1
        simp only [List.getElem?_toArray, List.getElem?_cons_zero, List.getElem?_cons_succ] at b0 b1
        clear hFv
        unfold stV
        clear hE6 hX5
        have hg2 := Rd.take_good hg 4
        have hS' := hX6.third.next LY fun F h => sA_set (s.takeL 4).2 h
        have hl4 : (s.takeL 4).1.length ≤ 4 := by
          unfold Rd.takeL; split
          · split
            · simp; omega
            · simp
          · simp
        generalize (s.takeL 4).2 = s2 at *
        generalize (s.takeL 4).1 = lt at *
        clear hX6
        go_wp2_with fail
        refine (low_any _ lt hl4).mono ?_
        rintro e7 w7 ⟨rfl, rfl⟩
        go_wp2_with fail
        generalize World.setCell (World.setCell _ _ _) _ _ = W5 at *
        obtain ⟨hgd, hbb⟩ := hg2
        rw [hb] at hbb
        replace hS' := hS'.swap
        have LS : ∀ {t : Rd}, Locs [rA r t, sA B t, blkA wr.heap.size 52 q.cells.toArray] := .cons (rA_loc _ _) (.cons (sA_loc _ _) (.cons (blkA_loc _ _ _) .nil))
        obtain ⟨Fv, hFv⟩ := hS'.swap.head
        have d0 : ∀ x : Of (fun X => Ext W5 X), x.val.cell? ⟨B, 0, none⟩ = some (.string (strOf s2.rest)) := fun x => (x.property.cell B 0 hFv.1.lt).trans (hFv.1.cell 0)
        have d1 : ∀ x : Of (fun X => Ext W5 X), x.val.cell? ⟨B, 1, none⟩ = some (.int .i64 s2.err) := fun x => (x.property.cell B 1 hFv.1.lt).trans (hFv.1.cell 1)
        have hsz := strOf_size s2.rest
        have hrl : s2.rest.length ≤ 1000 := by
          have : s2.rest.length ≤ s2.b.length := by unfold Rd.rest; split <;> simp
          rw [hbb] at this; omega
        have hD := hS'.ext LS (Ext.refl W5).drew
        clear hFv hS'
        have hFd := (show Ext W5 W5.drew from (Ext.refl _).drew)
        have hne_ : Nonempty (Of (fun X => Ext W5 X)) := ⟨⟨_, hFd⟩⟩
        refine region_steps [0,2,3,1,4,5,6,8,9,10,7,11,12,13,14,15,16,17,18,20,21,22,23,24,25,19,26,27,28] [true,true,true,false,true,true,true,true,true,true,false,true,true,true,true,true,true,true,true,true,true,true,true,true,true,false,true,true,true] (fun X => Ext W5 X) (by kernel_rfl) (by kernel_rfl) hFd ?_
        simp only [List.filterMap_cons, List.filterMap_nil, List.getElem?_cons_zero, List.getElem?_cons_succ]
        refine steps_quiet 3 (by kernel_rfl) ?_
        simp only [List.take_succ_cons, List.take_zero, List.drop_succ_cons, List.drop_zero]
        repeat (go_big_quiet_step (fail))
        refine wpQuiet_nil ?_
        refine steps_want rfl (fun K hK => ?_)
        go_simp
        refine (hD.keeps' fun F h => rerr_any h).mono ?_
        rintro e w9 ⟨rfl, rfl⟩
        refine hK _ _ (fun X => Ext W5 X) (Ext.refl _).drew (fun _ h => h) ?_
        clear hK K
        refine steps_quiet 6 (by kernel_rfl) ?_
        simp only [List.take_succ_cons, List.take_zero, List.drop_succ_cons, List.drop_zero]
        repeat (go_big_quiet_step (fail))
        refine wpQuiet_nil ?_
        refine steps_want rfl (fun K hK => ?_)
        go_simp
        refine (hD.keeps LS fun F h => rleft_any h).mono ?_
        rintro e w9 ⟨rfl, hD2, hE9⟩
        rw [Rd.left_rest]
        refine hK _ _ (fun X => Ext W5 X) ((Ext.refl W5).drew.trans hE9) (fun _ h => h) ?_
        clear hK K hD
        by_cases he2 : s2.err = 0
        · have e1 : (s2.err == 0) = true := by simp [he2]
          have hat := Rd.at_rest hgd he2
          rw [hbb] at hat
          have HAT := Lib.hid hat
          have HE2 := Lib.hid he2
          clear hat he2
          refine steps_quiet 14 (by kernel_rfl) ?_
          simp only [List.take_succ_cons, List.take_zero, List.drop_succ_cons, List.drop_zero]
          repeat (go_big_quiet_step (fail))
          refine wpQuiet_nil ?_
          refine steps_want rfl (fun K hK => ?_)
          go_simp
          refine (hD2.keeps' fun F h => rat_any h).mono ?_
          rintro e w10 ⟨rfl, rfl⟩
          have hav : (s2.at_ : Int) = (b.length : Int) - s2.rest.length := by have := HAT.out; omega
          rw [hav]
          refine hK _ _ (fun X => Ext W5 X) ((Ext.refl W5).drew.trans hE9) (fun _ h => h) ?_
          clear hK K hav
          refine steps_quiet 3 (by kernel_rfl) ?_
          simp only [List.take_succ_cons, List.take_zero, List.drop_succ_cons, List.drop_zero]
          repeat (go_big_quiet_step (fail))
          refine wpQuiet_nil ?_
          refine steps_nil ?_
          clear d0 d1 hsz
          go_wp2_with fail
          exact ⟨⟨i + 1, s2, by omega, by go_num, hgd, hbb, hD2.third.drop⟩, by simp [intOf]; omega⟩
        · have e1 : (s2.err == 0) = false := by simp [he2]
          clear he2
          refine steps_quiet 14 (by kernel_rfl) ?_
          simp only [List.take_succ_cons, List.take_zero, List.drop_succ_cons, List.drop_zero]
          repeat (go_big_quiet_step (fail))
          refine wpQuiet_nil ?_
          refine steps_skip rfl ?_
          simp only [Act.put, List.setIfInBounds_toArray, List.set_cons_succ, List.set_cons_zero]
          refine steps_quiet 3 (by kernel_rfl) ?_
          simp only [List.take_succ_cons, List.take_zero, List.drop_succ_cons, List.drop_zero]
          repeat (go_big_quiet_step (fail))
          refine wpQuiet_nil ?_
          refine steps_nil ?_
          clear d0 d1 hsz
          go_wp2_with fail
          exact ⟨⟨i + 1, s2, by omega, by go_num, hgd, hbb, hD2.third.drop⟩, by simp [intOf]; omega⟩
      · as_aux_lemma =>
        rw [hk] at C0
        go_wp2_with (first
          | (refine wpList_load_mid rfl 52 _ rfl pb (po + i * 36) rfl q.cells _ hrange Try.underlying52 rfl Z1.out ?_)
          | (refine wpList_store_row rfl 52 _ _ rfl wr.heap.size q.cells.toArray rfl rfl _ _ (Blk.new _ _ _) Z2.out Z3.out (prt_one q) ?_
             refine gen_wpList (fun X => Ext wr X ∧ Blk X wr.heap.size 52 q.cells.toArray) (part_box wr _ _ _) ?_
             rintro W3 ⟨hE3, hQ⟩
             have k0 := C0.out W3 hQ
             have k2 := C2.out W3 hQ))
        have hX := hH.add (.cons (rA_loc _ _) (.cons (sA_loc _ _) .nil)) hE3 (p := blkA wr.heap.size 52 q.cells.toArray) ⟨hQ, rfl⟩ (fun k hk => by have : k = wr.heap.size := hk; omega)
        have LX : ∀ {t : Rd}, Locs [blkA wr.heap.size 52 q.cells.toArray, sA B t] := .cons (blkA_loc _ _ _) (.cons (sA_loc _ _) .nil)
        have LY : ∀ {s : Rd}, Locs [rA r s, blkA wr.heap.size 52 q.cells.toArray] := .cons (rA_loc _ _) (.cons (blkA_loc _ _ _) .nil)
        clear hH hE3 hQ k0 k2 hrange
        refine (hX.swap.act LX fun F h => rtext_any h).mono ?_
        rintro e w5 ⟨rfl, hX5⟩
        have htx : s.text = (s.num 4096).2.takeL (s.num 4096).1 := rfl
        rw [htx] at hX5 ⊢
        clear htx
        obtain ⟨Fv, hFv⟩ := hX5.third.head
        have b0 := hFv.1.cell 0
        have b1 := hFv.1.cell 1
        have f0 := hFv.1.frozen 0
        have f1 := hFv.1.frozen 1
        simp only [List.getElem?_toArray, List.getElem?_cons_zero, List.getElem?_cons_succ] at b0 b1
        clear hFv
        go_wp2_with fail
        refine (rnumber_any w5 s.rest s.err 4096 hlen (by omega)).mono ?_
        rw [numV_rd hg 4096]
        rintro x6 w6 ⟨rfl, hE6⟩
        have hX6 := hX5.ext (.cons (rA_loc _ _) LX) hE6
        obtain ⟨Fv, hFv⟩ := hX6.third.head
        have b0 := hFv.1.cell 0
        have b1 := hFv.1.cell 1
        have f0 := hFv.1.frozen 0
        have f1 := hFv.1.frozen 1
        simp only [List.getElem?_toArray, List.getElem?_cons_zero, List.getElem?_cons_succ] at b0 b1
        clear hFv
        unfold stV
        have hg2 := (numL_rd hg 4096).2
        have hS' := hX6.third.next LY fun F h => sA_set (s.num 4096).2 h
        clear hE6 hX5 hX6
        have hnl := s.num_le 4096
        have hlen2 : (s.num 4096).2.rest.length ≤ 70368744177664 := by
          have : (s.num 4096).2.rest.length ≤ (s.num 4096).2.b.length := by unfold Rd.rest; split <;> simp
          rw [hg2.2, hb] at this; omega
        generalize (s.num 4096).2 = s1 at *
        generalize (s.num 4096).1 = nn at *
        go_wp2_with fail
        refine (rtake2_any _ s1.rest s1.err nn hlen2 (by omega)).mono ?_
        rw [takeV_rd hg2.1 nn]
        rintro x7 w7 ⟨rfl, hE7⟩
        replace hS' := hS'.ext (.cons (sA_loc _ _) (.cons (rA_loc _ _) (.cons (blkA_loc _ _ _) .nil))) hE7
        clear b0 b1 f0 f1
        obtain ⟨Fv, hFv⟩ := hS'.head
        have b0 := hFv.1.cell 0
        have b1 := hFv.1.cell 1
        have f0 := hFv.1.frozen 0
        have f1 := hFv.1.frozen 1
        simp only [List.getElem?_toArray, List.getElem?_cons_zero, List.getElem?_cons_succ] at b0 b1
        clear hFv hE7
        unfold stV
        have hg3 := Rd.take_good hg2.1 nn
        replace hg2 : (s1.takeL nn).2.Good ∧ (s1.takeL nn).2.b = s.b := ⟨hg3.1, hg3.2.trans hg2.2⟩
        clear hg3
        replace hS' := hS'.next LY fun F h => sA_set (s1.takeL nn).2 h
        generalize (s1.takeL nn).2 = s2 at *
        generalize (s1.takeL nn).1 = lt at *
        go_wp2_with fail
        generalize World.setCell (World.setCell _ _ _) _ _ = W5 at *
        obtain ⟨hgd, hbb⟩ := hg2
        rw [hb] at hbb
        replace hS' := hS'.swap
        have LS : ∀ {t : Rd}, Locs [rA r t, sA B t, blkA wr.heap.size 52 q.cells.toArray] := .cons (rA_loc _ _) (.cons (sA_loc _ _) (.cons (blkA_loc _ _ _) .nil))
        obtain ⟨Fv, hFv⟩ := hS'.swap.head
        have d0 : ∀ x : Of (fun X => Ext W5 X), x.val.cell? ⟨B, 0, none⟩ = some (.string (strOf s2.rest)) := fun x => (x.property.cell B 0 hFv.1.lt).trans (hFv.1.cell 0)
        have d1 : ∀ x : Of (fun X => Ext W5 X), x.val.cell? ⟨B, 1, none⟩ = some (.int .i64 s2.err) := fun x => (x.property.cell B 1 hFv.1.lt).trans (hFv.1.cell 1)
        have hsz := strOf_size s2.rest
        have hrl : s2.rest.length ≤ 1000 := by
          have : s2.rest.length ≤ s2.b.length := by unfold Rd.rest; split <;> simp
          rw [hbb] at this; omega
        have hD := hS'.ext LS (Ext.refl W5).drew
        clear hFv hS'
        have hFd := (show Ext W5 W5.drew from (Ext.refl _).drew)
        have hne_ : Nonempty (Of (fun X => Ext W5 X)) := ⟨⟨_, hFd⟩⟩
        refine region_steps [0,2,3,1,4,5,6,8,9,10,7,11,12,13,14,15,16,17,18,20,21,22,23,24,25,19,26,27,28] [true,true,true,false,true,true,true,true,true,true,false,true,true,true,true,true,true,true,true,true,true,true,true,true,true,false,true,true,true] (fun X => Ext W5 X) (by kernel_rfl) (by kernel_rfl) hFd ?_
        simp only [List.filterMap_cons, List.filterMap_nil, List.getElem?_cons_zero, List.getElem?_cons_succ]
        refine steps_quiet 3 (by kernel_rfl) ?_
        simp only [List.take_succ_cons, List.take_zero, List.drop_succ_cons, List.drop_zero]
        repeat (go_big_quiet_step (fail))
        refine wpQuiet_nil ?_
        refine steps_want rfl (fun K hK => ?_)
        go_simp
        refine (hD.keeps' fun F h => rerr_any h).mono ?_
        rintro e w9 ⟨rfl, rfl⟩
        refine hK _ _ (fun X => Ext W5 X) (Ext.refl _).drew (fun _ h => h) ?_
        clear hK K
        refine steps_quiet 6 (by kernel_rfl) ?_
        simp only [List.take_succ_cons, List.take_zero, List.drop_succ_cons, List.drop_zero]
        repeat (go_big_quiet_step (fail))
        refine wpQuiet_nil ?_
        refine steps_want rfl (fun K hK => ?_)
        go_simp
        refine (hD.keeps LS fun F h => rleft_any h).mono ?_
        rintro e w9 ⟨rfl, hD2, hE9⟩
        rw [Rd.left_rest]
        refine hK _ _ (fun X => Ext W5 X) ((Ext.refl W5).drew.trans hE9) (fun _ h => h) ?_
        clear hK K hD
        by_cases he2 : s2.err = 0
        · have e1 : (s2.err == 0) = true := by simp [he2]
          have hat := Rd.at_rest hgd he2
          rw [hbb] at hat
          have HAT := Lib.hid hat
          have HE2 := Lib.hid he2
          clear hat he2
          refine steps_quiet 14 (by kernel_rfl) ?_
          simp only [List.take_succ_cons, List.take_zero, List.drop_succ_cons, List.drop_zero]
          repeat (go_big_quiet_step (fail))
          refine wpQuiet_nil ?_
          refine steps_want rfl (fun K hK => ?_)
          go_simp
          refine (hD2.keeps' fun F h => rat_any h).mono ?_
          rintro e w10 ⟨rfl, rfl⟩
          have hav : (s2.at_ : Int) = (b.length : Int) - s2.rest.length := by have := HAT.out; omega
          rw [hav]
          refine hK _ _ (fun X => Ext W5 X) ((Ext.refl W5).drew.trans hE9) (fun _ h => h) ?_
          clear hK K hav
          refine steps_quiet 3 (by kernel_rfl) ?_
          simp only [List.take_succ_cons, List.take_zero, List.drop_succ_cons, List.drop_zero]
          repeat (go_big_quiet_step (fail))
          refine wpQuiet_nil ?_
          refine steps_nil ?_
          clear d0 d1 hsz
          go_wp2_with fail
          exact ⟨⟨i + 1, s2, by omega, by go_num, hgd, hbb, hD2.third.drop⟩, by simp [intOf]; omega⟩
        · have e1 : (s2.err == 0) = false := by simp [he2]
          clear he2
          refine steps_quiet 14 (by kernel_rfl) ?_
          simp only [List.take_succ_cons, List.take_zero, List.drop_succ_cons, List.drop_zero]
          repeat (go_big_quiet_step (fail))
          refine wpQuiet_nil ?_
          refine steps_skip rfl ?_
          simp only [Act.put, List.setIfInBounds_toArray, List.set_cons_succ, List.set_cons_zero]
          refine steps_quiet 3 (by kernel_rfl) ?_
          simp only [List.take_succ_cons, List.take_zero, List.drop_succ_cons, List.drop_zero]
          repeat (go_big_quiet_step (fail))
          refine wpQuiet_nil ?_
          refine steps_nil ?_
          clear d0 d1 hsz
          go_wp2_with fail
          exact ⟨⟨i + 1, s2, by omega, by go_num, hgd, hbb, hD2.third.drop⟩, by simp [intOf]; omega⟩
      · as_aux_lemma =>
        rw [hk] at C0
        go_wp2_with (first
          | (refine wpList_load_mid rfl 52 _ rfl pb (po + i * 36) rfl q.cells _ hrange Try.underlying52 rfl Z1.out ?_)
          | (refine wpList_store_row rfl 52 _ _ rfl wr.heap.size q.cells.toArray rfl rfl _ _ (Blk.new _ _ _) Z2.out Z3.out (prt_one q) ?_
             refine gen_wpList (fun X => Ext wr X ∧ Blk X wr.heap.size 52 q.cells.toArray) (part_box wr _ _ _) ?_
             rintro W3 ⟨hE3, hQ⟩
             have k0 := C0.out W3 hQ
             have k2 := C2.out W3 hQ))
        have hX := hH.add (.cons (rA_loc _ _) (.cons (sA_loc _ _) .nil)) hE3 (p := blkA wr.heap.size 52 q.cells.toArray) ⟨hQ, rfl⟩ (fun k hk => by have : k = wr.heap.size := hk; omega)
        have LX : ∀ {t : Rd}, Locs [blkA wr.heap.size 52 q.cells.toArray, sA B t] := .cons (blkA_loc _ _ _) (.cons (sA_loc _ _) .nil)
        have LY : ∀ {s : Rd}, Locs [rA r s, blkA wr.heap.size 52 q.cells.toArray] := .cons (rA_loc _ _) (.cons (blkA_loc _ _ _) .nil)
        clear hH hE3 hQ k0 k2 hrange
        refine (hX.swap.act LX fun F h => rsum_any h).mono ?_
        rintro e w5 ⟨rfl, hX5⟩
        obtain ⟨Fv, hFv⟩ := hX5.third.head
        have b0 := hFv.1.cell 0
        have b1 := hFv.1.cell 1
        have f0 := hFv.1.frozen 0
        have f1 := hFv.1.frozen 1
        simp only [List.getElem?_toArray, List.getElem?_cons_zero, List.getElem?_cons_succ] at b0 b1
        clear hFv
        have hcl : s.sum.length = 32 := takeL_len s
        have hsm : s.sum = if (s.takeL 32).1 = [] then z32 else (s.takeL 32).1 := sum_cases s
        generalize s.sum = cs at *
        have SZ1 := Lib.hid (sumSize hcl)
        have SZ2 := Lib.hid (show 32 = (u8s cs).toArray.size by simp [u8s, hcl])
        have SM := Lib.hid hsm
        have CL := Lib.hid hcl
        clear hcl hsm
        go_wp2_with (first
          | (refine wpList_store_row rfl 45 _ _ rfl w5.heap.size (u8s cs).toArray rfl rfl _ _ (Blk.new _ _ _) SZ1.out SZ2.out (u8s_all _) ?_
             refine gen_wpList (fun X => Ext w5 X ∧ Blk X w5.heap.size 45 (u8s cs).toArray) (part_box w5 _ _ _) ?_
             rintro W6 ⟨hE6, hQ6⟩
             have hX6 := (hX5.add (.cons (rA_loc _ _) LX) hE6 (p := blkA w5.heap.size 45 (u8s cs).toArray) ⟨hQ6, rfl⟩ (fun k hk => by have : k = w5.heap.size := hk; omega)).fourth
             clear b0 b1 f0 f1 hX5
             obtain ⟨Fv, hFv⟩ := hX6.head
             have b0 := hFv.1.cell 0
             have b1 := hFv.1.cell 1
             have f0 := hFv.1.frozen 0
             have f1 := hFv.1.frozen 1
             simp only [List.getElem?_toArray, List.getElem?_cons_zero, List.getElem?_cons_succ] at b0 b1
             clear hFv hE6 hQ6))
        refine (rtake2_any W6 s.rest s.err 32 hlen (by omega)).mono ?_
        rw [takeV_rd hg 32]
        rintro x7 w7 ⟨rfl, hE7⟩
        have hX7 := hX6.ext (.cons (sA_loc _ _) (.cons (blkA_loc _ _ _) (.cons (rA_loc _ _) (.cons (blkA_loc _ _ _) .nil)))) hE7
        clear b0 b1 f0 f1 hE7 hX6
        obtain ⟨Fv, hFv⟩ := hX7.head
        have b0 := hFv.1.cell 0
        have b1 := hFv.1.cell 1
        have f0 := hFv.1.frozen 0
        have f1 := hFv.1.frozen 1
        simp only [List.getElem?_toArray, List.getElem?_cons_zero, List.getElem?_cons_succ] at b0 b1
        clear hFv
        have hn4 := (hX7.next (.cons (blkA_loc _ _ _) (.cons (rA_loc _ _) (.cons (blkA_loc _ _ _) .nil))) fun F h => sA_set (s.takeL 32).2 h)
        obtain ⟨F16, h16⟩ := hn4.swap.head
        have hB16 := h16.1
        have hcv := conv_bytes _ w5.heap.size 0 32 cs fun i hi => by
          rw [Nat.zero_add, h16.1.cell i]
          simp [u8s, List.getElem?_eq_getElem hi]
        rw [CL.out] at hcv
        clear h16
        unfold stV
        have hg2 := Rd.take_good hg 32
        have hS' := hn4.swap.drop
        have hSM := SM.out
        clear hn4
        by_cases hl0 : (s.takeL 32).1 = []
        · rw [if_pos hl0] at hSM
          rw [hl0, strOf_nil]
          generalize (s.takeL 32).2 = s2 at *
          subst hSM
          clear hl0 hX7 SM hcv
          have hcmp := eq_zero
          go_wp2_with (refine wpList_load_rowG _ _ rfl _ rfl _ _ _ _ hB16 Try.underlying45 rfl SZ1.out rfl ?_)
          clear hcmp hB16
          generalize World.setCell (World.setCell _ _ _) _ _ = W5 at *
          obtain ⟨hgd, hbb⟩ := hg2
          rw [hb] at hbb
          replace hS' := hS'.swap
          have LS : ∀ {t : Rd}, Locs [rA r t, sA B t, blkA wr.heap.size 52 q.cells.toArray] := .cons (rA_loc _ _) (.cons (sA_loc _ _) (.cons (blkA_loc _ _ _) .nil))
          obtain ⟨Fv, hFv⟩ := hS'.swap.head
          have d0 : ∀ x : Of (fun X => Ext W5 X), x.val.cell? ⟨B, 0, none⟩ = some (.string (strOf s2.rest)) := fun x => (x.property.cell B 0 hFv.1.lt).trans (hFv.1.cell 0)
          have d1 : ∀ x : Of (fun X => Ext W5 X), x.val.cell? ⟨B, 1, none⟩ = some (.int .i64 s2.err) := fun x => (x.property.cell B 1 hFv.1.lt).trans (hFv.1.cell 1)
          have hsz := strOf_size s2.rest
          have hrl : s2.rest.length ≤ 1000 := by
            have : s2.rest.length ≤ s2.b.length := by unfold Rd.rest; split <;> simp
            rw [hbb] at this; omega
          have hD := hS'.ext LS (Ext.refl W5).drew
          clear hFv hS'
          have hFd := (show Ext W5 W5.drew from (Ext.refl _).drew)
          have hne_ : Nonempty (Of (fun X => Ext W5 X)) := ⟨⟨_, hFd⟩⟩
          refine region_steps [0,2,3,1,4,5,6,8,9,10,7,11,12,13,14,15,16,17,18,20,21,22,23,24,25,19,26,27,28] [true,true,true,false,true,true,true,true,true,true,false,true,true,true,true,true,true,true,true,true,true,true,true,true,true,false,true,true,true] (fun X => Ext W5 X) (by kernel_rfl) (by kernel_rfl) hFd ?_
          simp only [List.filterMap_cons, List.filterMap_nil, List.getElem?_cons_zero, List.getElem?_cons_succ]
          refine steps_quiet 3 (by kernel_rfl) ?_
          simp only [List.take_succ_cons, List.take_zero, List.drop_succ_cons, List.drop_zero]
          repeat (go_big_quiet_step (fail))
          refine wpQuiet_nil ?_
          refine steps_want rfl (fun K hK => ?_)
          go_simp
          refine (hD.keeps' fun F h => rerr_any h).mono ?_
          rintro e w9 ⟨rfl, rfl⟩
          refine hK _ _ (fun X => Ext W5 X) (Ext.refl _).drew (fun _ h => h) ?_
          clear hK K
          refine steps_quiet 6 (by kernel_rfl) ?_
          simp only [List.take_succ_cons, List.take_zero, List.drop_succ_cons, List.drop_zero]
          repeat (go_big_quiet_step (fail))
          refine wpQuiet_nil ?_
          refine steps_want rfl (fun K hK => ?_)
          go_simp
          refine (hD.keeps LS fun F h => rleft_any h).mono ?_
          rintro e w9 ⟨rfl, hD2, hE9⟩
          rw [Rd.left_rest]
          refine hK _ _ (fun X => Ext W5 X) ((Ext.refl W5).drew.trans hE9) (fun _ h => h) ?_
          clear hK K hD
          by_cases he2 : s2.err = 0
          · have e1 : (s2.err == 0) = true := by simp [he2]
            have hat := Rd.at_rest hgd he2
            rw [hbb] at hat
            have HAT := Lib.hid hat
            have HE2 := Lib.hid he2
            clear hat he2
            refine steps_quiet 14 (by kernel_rfl) ?_
            simp only [List.take_succ_cons, List.take_zero, List.drop_succ_cons, List.drop_zero]
            repeat (go_big_quiet_step (fail))
            refine wpQuiet_nil ?_
            refine steps_want rfl (fun K hK => ?_)
            go_simp
            refine (hD2.keeps' fun F h => rat_any h).mono ?_
            rintro e w10 ⟨rfl, rfl⟩
            have hav : (s2.at_ : Int) = (b.length : Int) - s2.rest.length := by have := HAT.out; omega
            rw [hav]
            refine hK _ _ (fun X => Ext W5 X) ((Ext.refl W5).drew.trans hE9) (fun _ h => h) ?_
            clear hK K hav
            refine steps_quiet 3 (by kernel_rfl) ?_
            simp only [List.take_succ_cons, List.take_zero, List.drop_succ_cons, List.drop_zero]
            repeat (go_big_quiet_step (fail))
            refine wpQuiet_nil ?_
            refine steps_nil ?_
            clear d0 d1 hsz
            go_wp2_with fail
            exact ⟨⟨i + 1, s2, by omega, by go_num, hgd, hbb, hD2.third.drop⟩, by simp [intOf]; omega⟩
          · have e1 : (s2.err == 0) = false := by simp [he2]
            clear he2
            refine steps_quiet 14 (by kernel_rfl) ?_
            simp only [List.take_succ_cons, List.take_zero, List.drop_succ_cons, List.drop_zero]
            repeat (go_big_quiet_step (fail))
            refine wpQuiet_nil ?_
            refine steps_skip rfl ?_
            simp only [Act.put, List.setIfInBounds_toArray, List.set_cons_succ, List.set_cons_zero]
            refine steps_quiet 3 (by kernel_rfl) ?_
            simp only [List.take_succ_cons, List.take_zero, List.drop_succ_cons, List.drop_zero]
            repeat (go_big_quiet_step (fail))
            refine wpQuiet_nil ?_
            refine steps_nil ?_
            clear d0 d1 hsz
            go_wp2_with fail
            exact ⟨⟨i + 1, s2, by omega, by go_num, hgd, hbb, hD2.third.drop⟩, by simp [intOf]; omega⟩
        · rw [if_neg hl0] at hSM
          rw [← hSM]
          generalize (s.takeL 32).2 = s2 at *
          clear hl0 hX7 SM hSM
          have hnn : cs ≠ [] := by intro h; have := CL.out; rw [h] at this; cases this
          have hs2 : ((strOf cs).toList == []) = false := by simpa [strOf] using hnn
          have hs3 : (strOf cs).toList.isEmpty = false := by simpa [strOf] using hnn
          have hsl := slice_sum
          clear hnn
          go_wp2_with fail
          clear hs2 hs3 hsl hcv hB16
          generalize World.setCell (World.setCell _ _ _) _ _ = W5 at *
          obtain ⟨hgd, hbb⟩ := hg2
          rw [hb] at hbb
          replace hS' := hS'.swap
          have LS : ∀ {t : Rd}, Locs [rA r t, sA B t, blkA wr.heap.size 52 q.cells.toArray] := .cons (rA_loc _ _) (.cons (sA_loc _ _) (.cons (blkA_loc _ _ _) .nil))
          obtain ⟨Fv, hFv⟩ := hS'.swap.head
          have d0 : ∀ x : Of (fun X => Ext W5 X), x.val.cell? ⟨B, 0, none⟩ = some (.string (strOf s2.rest)) := fun x => (x.property.cell B 0 hFv.1.lt).trans (hFv.1.cell 0)
          have d1 : ∀ x : Of (fun X => Ext W5 X), x.val.cell? ⟨B, 1, none⟩ = some (.int .i64 s2.err) := fun x => (x.property.cell B 1 hFv.1.lt).trans (hFv.1.cell 1)
          have hsz := strOf_size s2.rest
          have hrl : s2.rest.length ≤ 1000 := by
            have : s2.rest.length ≤ s2.b.length := by unfold Rd.rest; split <;> simp
            rw [hbb] at this; omega
          have hD := hS'.ext LS (Ext.refl W5).drew
          clear hFv hS'
          have hFd := (show Ext W5 W5.drew from (Ext.refl _).drew)
          have hne_ : Nonempty (Of (fun X => Ext W5 X)) := ⟨⟨_, hFd⟩⟩
          refine region_steps [0,2,3,1,4,5,6,8,9,10,7,11,12,13,14,15,16,17,18,20,21,22,23,24,25,19,26,27,28] [true,true,true,false,true,true,true,true,true,true,false,true,true,true,true,true,true,true,true,true,true,true,true,true,true,false,true,true,true] (fun X => Ext W5 X) (by kernel_rfl) (by kernel_rfl) hFd ?_
          simp only [List.filterMap_cons, List.filterMap_nil, List.getElem?_cons_zero, List.getElem?_cons_succ]
          refine steps_quiet 3 (by kernel_rfl) ?_
          simp only [List.take_succ_cons, List.take_zero, List.drop_succ_cons, List.drop_zero]
          repeat (go_big_quiet_step (fail))
          refine wpQuiet_nil ?_
          refine steps_want rfl (fun K hK => ?_)
          go_simp
          refine (hD.keeps' fun F h => rerr_any h).mono ?_
          rintro e w9 ⟨rfl, rfl⟩
          refine hK _ _ (fun X => Ext W5 X) (Ext.refl _).drew (fun _ h => h) ?_
          clear hK K
          refine steps_quiet 6 (by kernel_rfl) ?_
          simp only [List.take_succ_cons, List.take_zero, List.drop_succ_cons, List.drop_zero]
          repeat (go_big_quiet_step (fail))
          refine wpQuiet_nil ?_
          refine steps_want rfl (fun K hK => ?_)
          go_simp
          refine (hD.keeps LS fun F h => rleft_any h).mono ?_
          rintro e w9 ⟨rfl, hD2, hE9⟩
          rw [Rd.left_rest]
          refine hK _ _ (fun X => Ext W5 X) ((Ext.refl W5).drew.trans hE9) (fun _ h => h) ?_
          clear hK K hD
          by_cases he2 : s2.err = 0
          · have e1 : (s2.err == 0) = true := by simp [he2]
            have hat := Rd.at_rest hgd he2
            rw [hbb] at hat
            have HAT := Lib.hid hat
            have HE2 := Lib.hid he2
            clear hat he2
            refine steps_quiet 14 (by kernel_rfl) ?_
            simp only [List.take_succ_cons, List.take_zero, List.drop_succ_cons, List.drop_zero]
            repeat (go_big_quiet_step (fail))
            refine wpQuiet_nil ?_
            refine steps_want rfl (fun K hK => ?_)
            go_simp
            refine (hD2.keeps' fun F h => rat_any h).mono ?_
            rintro e w10 ⟨rfl, rfl⟩
            have hav : (s2.at_ : Int) = (b.length : Int) - s2.rest.length := by have := HAT.out; omega
            rw [hav]
            refine hK _ _ (fun X => Ext W5 X) ((Ext.refl W5).drew.trans hE9) (fun _ h => h) ?_
            clear hK K hav
            refine steps_quiet 3 (by kernel_rfl) ?_
            simp only [List.take_succ_cons, List.take_zero, List.drop_succ_cons, List.drop_zero]
            repeat (go_big_quiet_step (fail))
            refine wpQuiet_nil ?_
            refine steps_nil ?_
            clear d0 d1 hsz
            go_wp2_with fail
            exact ⟨⟨i + 1, s2, by omega, by go_num, hgd, hbb, hD2.third.drop⟩, by simp [intOf]; omega⟩
          · have e1 : (s2.err == 0) = false := by simp [he2]
            clear he2
            refine steps_quiet 14 (by kernel_rfl) ?_
            simp only [List.take_succ_cons, List.take_zero, List.drop_succ_cons, List.drop_zero]
            repeat (go_big_quiet_step (fail))
            refine wpQuiet_nil ?_
            refine steps_skip rfl ?_
            simp only [Act.put, List.setIfInBounds_toArray, List.set_cons_succ, List.set_cons_zero]
            refine steps_quiet 3 (by kernel_rfl) ?_
            simp only [List.take_succ_cons, List.take_zero, List.drop_succ_cons, List.drop_zero]
            repeat (go_big_quiet_step (fail))
            refine wpQuiet_nil ?_
            refine steps_nil ?_
            clear d0 d1 hsz
            go_wp2_with fail
            exact ⟨⟨i + 1, s2, by omega, by go_num, hgd, hbb, hD2.third.drop⟩, by simp [intOf]; omega⟩
      · as_aux_lemma =>
        rw [hk] at C0
        go_wp2_with (first
          | (refine wpList_load_mid rfl 52 _ rfl pb (po + i * 36) rfl q.cells _ hrange Try.underlying52 rfl Z1.out ?_)
          | (refine wpList_store_row rfl 52 _ _ rfl wr.heap.size q.cells.toArray rfl rfl _ _ (Blk.new _ _ _) Z2.out Z3.out (prt_one q) ?_
             refine gen_wpList (fun X => Ext wr X ∧ Blk X wr.heap.size 52 q.cells.toArray) (part_box wr _ _ _) ?_
             rintro W3 ⟨hE3, hQ⟩
             have k0 := C0.out W3 hQ
             have k2 := C2.out W3 hQ))
        have hX := hH.add (.cons (rA_loc _ _) (.cons (sA_loc _ _) .nil)) hE3 (p := blkA wr.heap.size 52 q.cells.toArray) ⟨hQ, rfl⟩ (fun k hk => by have : k = wr.heap.size := hk; omega)
        have LX : ∀ {t : Rd}, Locs [blkA wr.heap.size 52 q.cells.toArray, sA B t] := .cons (blkA_loc _ _ _) (.cons (sA_loc _ _) .nil)
        have LY : ∀ {s : Rd}, Locs [rA r s, blkA wr.heap.size 52 q.cells.toArray] := .cons (rA_loc _ _) (.cons (blkA_loc _ _ _) .nil)
        clear hH hE3 hQ k0 k2 hrange
        refine (hX.swap.act LX fun F h => rcount_any h).mono ?_
        rintro e w5 ⟨rfl, hX5⟩
        obtain ⟨Fv, hFv⟩ := hX5.third.head
        have b0 := hFv.1.cell 0
        have b1 := hFv.1.cell 1
        have f0 := hFv.1.frozen 0
        have f1 := hFv.1.frozen 1
        simp only [List.getElem?_toArray, List.getElem?_cons_zero, List.getElem?_cons_succ] at b0 b1
        clear hFv
        go_wp2_with fail
        refine (rnumber_any w5 s.rest s.err 4096 hlen (by omega)).mono ?_
        rw [numV_rd hg 4096]
        rintro x6 w6 ⟨rfl, hE6⟩
        have hX6 := hX5.ext (.cons (rA_loc _ _) LX) hE6
        obtain ⟨Fv, hFv⟩ := hX6.third.head
        have b0 := hFv.1.cell 0
        have b1 := hFv.1.cell 1
        have f0 := hFv.1.frozen 0
        have f1 := hFv.1.frozen 1
        simp only [List.getElem?_toArray, List.getElem?_cons_zero, List.getElem?_cons_succ] at b0 b1
        clear hFv
        unfold stV
        have hg2 := (numL_rd hg 4096).2
        have hS' := hX6.third.next LY fun F h => sA_set (s.num 4096).2 h
        clear hE6 hX5 hX6
        have hnl := s.num_le 4096
        generalize (s.num 4096).2 = s2 at *
        generalize (s.num 4096).1 = nn at *
        go_wp2_with fail
        generalize World.setCell (World.setCell _ _ _) _ _ = W5 at *
        obtain ⟨hgd, hbb⟩ := hg2
        rw [hb] at hbb
        replace hS' := hS'.swap
        have LS : ∀ {t : Rd}, Locs [rA r t, sA B t, blkA wr.heap.size 52 q.cells.toArray] := .cons (rA_loc _ _) (.cons (sA_loc _ _) (.cons (blkA_loc _ _ _) .nil))
        obtain ⟨Fv, hFv⟩ := hS'.swap.head
        have d0 : ∀ x : Of (fun X => Ext W5 X), x.val.cell? ⟨B, 0, none⟩ = some (.string (strOf s2.rest)) := fun x => (x.property.cell B 0 hFv.1.lt).trans (hFv.1.cell 0)
        have d1 : ∀ x : Of (fun X => Ext W5 X), x.val.cell? ⟨B, 1, none⟩ = some (.int .i64 s2.err) := fun x => (x.property.cell B 1 hFv.1.lt).trans (hFv.1.cell 1)
        have hsz := strOf_size s2.rest
        have hrl : s2.rest.length ≤ 1000 := by
          have : s2.rest.length ≤ s2.b.length := by unfold Rd.rest; split <;> simp
          rw [hbb] at this; omega
        have hD := hS'.ext LS (Ext.refl W5).drew
        clear hFv hS'
        have hFd := (show Ext W5 W5.drew from (Ext.refl _).drew)
        have hne_ : Nonempty (Of (fun X => Ext W5 X)) := ⟨⟨_, hFd⟩⟩
        refine region_steps [0,2,3,1,4,5,6,8,9,10,7,11,12,13,14,15,16,17,18,20,21,22,23,24,25,19,26,27,28] [true,true,true,false,true,true,true,true,true,true,false,true,true,true,true,true,true,true,true,true,true,true,true,true,true,false,true,true,true] (fun X => Ext W5 X) (by kernel_rfl) (by kernel_rfl) hFd ?_
        simp only [List.filterMap_cons, List.filterMap_nil, List.getElem?_cons_zero, List.getElem?_cons_succ]
        refine steps_quiet 3 (by kernel_rfl) ?_
        simp only [List.take_succ_cons, List.take_zero, List.drop_succ_cons, List.drop_zero]
        repeat (go_big_quiet_step (fail))
        refine wpQuiet_nil ?_
        refine steps_want rfl (fun K hK => ?_)
        go_simp
        refine (hD.keeps' fun F h => rerr_any h).mono ?_
        rintro e w9 ⟨rfl, rfl⟩
        refine hK _ _ (fun X => Ext W5 X) (Ext.refl _).drew (fun _ h => h) ?_
        clear hK K
        refine steps_quiet 6 (by kernel_rfl) ?_
        simp only [List.take_succ_cons, List.take_zero, List.drop_succ_cons, List.drop_zero]
        repeat (go_big_quiet_step (fail))
        refine wpQuiet_nil ?_
        refine steps_want rfl (fun K hK => ?_)
        go_simp
        refine (hD.keeps LS fun F h => rleft_any h).mono ?_
        rintro e w9 ⟨rfl, hD2, hE9⟩
        rw [Rd.left_rest]
        refine hK _ _ (fun X => Ext W5 X) ((Ext.refl W5).drew.trans hE9) (fun _ h => h) ?_
        clear hK K hD
        by_cases he2 : s2.err = 0
        · have e1 : (s2.err == 0) = true := by simp [he2]
          have hat := Rd.at_rest hgd he2
          rw [hbb] at hat
          have HAT := Lib.hid hat
          have HE2 := Lib.hid he2
          clear hat he2
          refine steps_quiet 14 (by kernel_rfl) ?_
          simp only [List.take_succ_cons, List.take_zero, List.drop_succ_cons, List.drop_zero]
          repeat (go_big_quiet_step (fail))
          refine wpQuiet_nil ?_
          refine steps_want rfl (fun K hK => ?_)
          go_simp
          refine (hD2.keeps' fun F h => rat_any h).mono ?_
          rintro e w10 ⟨rfl, rfl⟩
          have hav : (s2.at_ : Int) = (b.length : Int) - s2.rest.length := by have := HAT.out; omega
          rw [hav]
          refine hK _ _ (fun X => Ext W5 X) ((Ext.refl W5).drew.trans hE9) (fun _ h => h) ?_
          clear hK K hav
          refine steps_quiet 3 (by kernel_rfl) ?_
          simp only [List.take_succ_cons, List.take_zero, List.drop_succ_cons, List.drop_zero]
          repeat (go_big_quiet_step (fail))
          refine wpQuiet_nil ?_
          refine steps_nil ?_
          clear d0 d1 hsz
          go_wp2_with fail
          exact ⟨⟨i + 1, s2, by omega, by go_num, hgd, hbb, hD2.third.drop⟩, by simp [intOf]; omega⟩
        · have e1 : (s2.err == 0) = false := by simp [he2]
          clear he2
          refine steps_quiet 14 (by kernel_rfl) ?_
          simp only [List.take_succ_cons, List.take_zero, List.drop_succ_cons, List.drop_zero]
          repeat (go_big_quiet_step (fail))
          refine wpQuiet_nil ?_
          refine steps_skip rfl ?_
          simp only [Act.put, List.setIfInBounds_toArray, List.set_cons_succ, List.set_cons_zero]
          refine steps_quiet 3 (by kernel_rfl) ?_
          simp only [List.take_succ_cons, List.take_zero, List.drop_succ_cons, List.drop_zero]
          repeat (go_big_quiet_step (fail))
          refine wpQuiet_nil ?_
          refine steps_nil ?_
          clear d0 d1 hsz
          go_wp2_with fail
          exact ⟨⟨i + 1, s2, by omega, by go_num, hgd, hbb, hD2.third.drop⟩, by simp [intOf]; omega⟩
      · as_aux_lemma =>
        have j0 : (q.kind == 0) = false := by simp; omega
        have j1 : (q.kind == 1) = false := by simp; omega
        have j2 : (q.kind == 2) = false := by simp; omega
        have j3 : (q.kind == 3) = false := by simp; omega
        have j4 : (q.kind == 4) = false := by simp; omega
        have j5 : (q.kind == 5) = false := by simp; omega
        have j6 : (q.kind == 6) = false := by simp; omega
        go_wp2_with (first
          | (refine wpList_load_mid rfl 52 _ rfl pb (po + i * 36) rfl q.cells _ hrange Try.underlying52 rfl Z1.out ?_)
          | (refine wpList_store_row rfl 52 _ _ rfl wr.heap.size q.cells.toArray rfl rfl _ _ (Blk.new _ _ _) Z2.out Z3.out (prt_one q) ?_
             refine gen_wpList (fun X => Ext wr X ∧ Blk X wr.heap.size 52 q.cells.toArray) (part_box wr _ _ _) ?_
             rintro W3 ⟨hE3, hQ⟩
             have k0 := C0.out W3 hQ
             have k2 := C2.out W3 hQ))
        have hX := hH.add (.cons (rA_loc _ _) (.cons (sA_loc _ _) .nil)) hE3 (p := blkA wr.heap.size 52 q.cells.toArray) ⟨hQ, rfl⟩ (fun k hk => by have : k = wr.heap.size := hk; omega)
        have LX : ∀ {t : Rd}, Locs [blkA wr.heap.size 52 q.cells.toArray, sA B t] := .cons (blkA_loc _ _ _) (.cons (sA_loc _ _) .nil)
        have LY : ∀ {s : Rd}, Locs [rA r s, blkA wr.heap.size 52 q.cells.toArray] := .cons (rA_loc _ _) (.cons (blkA_loc _ _ _) .nil)
        clear hH hE3 hQ k0 k2 hrange
        refine gen_world' (fun X => X = W3) rfl ?_
        intro W5 hW5
        obtain ⟨s2, hs2⟩ : ∃ s2, s2 = s := ⟨s, rfl⟩
        have hg2 : s2.Good ∧ s2.b = s.b := by rw [hs2]; exact ⟨hg, rfl⟩
        have hS' : Has w W3 [sA B s2, rA r s2, blkA wr.heap.size 52 q.cells.toArray] := by rw [hs2]; exact hX.swap.third
        rw [← hW5] at hS'
        clear hW5 hX hs2
        obtain ⟨hgd, hbb⟩ := hg2
        rw [hb] at hbb
        replace hS' := hS'.swap
        have LS : ∀ {t : Rd}, Locs [rA r t, sA B t, blkA wr.heap.size 52 q.cells.toArray] := .cons (rA_loc _ _) (.cons (sA_loc _ _) (.cons (blkA_loc _ _ _) .nil))
        obtain ⟨Fv, hFv⟩ := hS'.swap.head
        have d0 : ∀ x : Of (fun X => Ext W5 X), x.val.cell? ⟨B, 0, none⟩ = some (.string (strOf s2.rest)) := fun x => (x.property.cell B 0 hFv.1.lt).trans (hFv.1.cell 0)
        have d1 : ∀ x : Of (fun X => Ext W5 X), x.val.cell? ⟨B, 1, none⟩ = some (.int .i64 s2.err) := fun x => (x.property.cell B 1 hFv.1.lt).trans (hFv.1.cell 1)
        have hsz := strOf_size s2.rest
        have hrl : s2.rest.length ≤ 1000 := by
          have : s2.rest.length ≤ s2.b.length := by unfold Rd.rest; split <;> simp
          rw [hbb] at this; omega
        have hD := hS'.ext LS (Ext.refl W5).drew
        clear hFv hS'
        have hFd := (show Ext W5 W5.drew from (Ext.refl _).drew)
        have hne_ : Nonempty (Of (fun X => Ext W5 X)) := ⟨⟨_, hFd⟩⟩
        refine region_steps [0,2,3,1,4,5,6,8,9,10,7,11,12,13,14,15,16,17,18,20,21,22,23,24,25,19,26,27,28] [true,true,true,false,true,true,true,true,true,true,false,true,true,true,true,true,true,true,true,true,true,true,true,true,true,false,true,true,true] (fun X => Ext W5 X) (by kernel_rfl) (by kernel_rfl) hFd ?_
        simp only [List.filterMap_cons, List.filterMap_nil, List.getElem?_cons_zero, List.getElem?_cons_succ]
        refine steps_quiet 3 (by kernel_rfl) ?_
        simp only [List.take_succ_cons, List.take_zero, List.drop_succ_cons, List.drop_zero]
        repeat (go_big_quiet_step (fail))
        refine wpQuiet_nil ?_
        refine steps_want rfl (fun K hK => ?_)
        go_simp
        refine (hD.keeps' fun F h => rerr_any h).mono ?_
        rintro e w9 ⟨rfl, rfl⟩
        refine hK _ _ (fun X => Ext W5 X) (Ext.refl _).drew (fun _ h => h) ?_
        clear hK K
        refine steps_quiet 6 (by kernel_rfl) ?_
        simp only [List.take_succ_cons, List.take_zero, List.drop_succ_cons, List.drop_zero]
        repeat (go_big_quiet_step (fail))
        refine wpQuiet_nil ?_
        refine steps_want rfl (fun K hK => ?_)
        go_simp
        refine (hD.keeps LS fun F h => rleft_any h).mono ?_
        rintro e w9 ⟨rfl, hD2, hE9⟩
        rw [Rd.left_rest]
        refine hK _ _ (fun X => Ext W5 X) ((Ext.refl W5).drew.trans hE9) (fun _ h => h) ?_
        clear hK K hD
        by_cases he2 : s2.err = 0
        · have e1 : (s2.err == 0) = true := by simp [he2]
          have hat := Rd.at_rest hgd he2
          rw [hbb] at hat
          have HAT := Lib.hid hat
          have HE2 := Lib.hid he2
          clear hat he2
          refine steps_quiet 14 (by kernel_rfl) ?_
          simp only [List.take_succ_cons, List.take_zero, List.drop_succ_cons, List.drop_zero]
          repeat (go_big_quiet_step (fail))
          refine wpQuiet_nil ?_
          refine steps_want rfl (fun K hK => ?_)
          go_simp
          refine (hD2.keeps' fun F h => rat_any h).mono ?_
          rintro e w10 ⟨rfl, rfl⟩
          have hav : (s2.at_ : Int) = (b.length : Int) - s2.rest.length := by have := HAT.out; omega
          rw [hav]
          refine hK _ _ (fun X => Ext W5 X) ((Ext.refl W5).drew.trans hE9) (fun _ h => h) ?_
          clear hK K hav
          refine steps_quiet 3 (by kernel_rfl) ?_
          simp only [List.take_succ_cons, List.take_zero, List.drop_succ_cons, List.drop_zero]
          repeat (go_big_quiet_step (fail))
          refine wpQuiet_nil ?_
          refine steps_nil ?_
          clear d0 d1 hsz
          go_wp2_with fail
          exact ⟨⟨i + 1, s2, by omega, by go_num, hgd, hbb, hD2.third.drop⟩, by simp [intOf]; omega⟩
        · have e1 : (s2.err == 0) = false := by simp [he2]
          clear he2
          refine steps_quiet 14 (by kernel_rfl) ?_
          simp only [List.take_succ_cons, List.take_zero, List.drop_succ_cons, List.drop_zero]
          repeat (go_big_quiet_step (fail))
          refine wpQuiet_nil ?_
          refine steps_skip rfl ?_
          simp only [Act.put, List.setIfInBounds_toArray, List.set_cons_succ, List.set_cons_zero]
          refine steps_quiet 3 (by kernel_rfl) ?_
          simp only [List.take_succ_cons, List.take_zero, List.drop_succ_cons, List.drop_zero]
          repeat (go_big_quiet_step (fail))
          refine wpQuiet_nil ?_
          refine steps_nil ?_
          clear d0 d1 hsz
          go_wp2_with fail
          exact ⟨⟨i + 1, s2, by omega, by go_num, hgd, hbb, hD2.third.drop⟩, by simp [intOf]; omega⟩
    · have hii : i = ps.length := by omega
      subst hii
      as_aux_lemma =>
      clear gi hi
      obtain ⟨Fv, hFv⟩ := hH.swap.head
      have b0 := hFv.1.cell 0
      have b1 := hFv.1.cell 1
      simp only [List.getElem?_toArray, List.getElem?_cons_zero, List.getElem?_cons_succ] at b0 b1
      clear hFv
      have hend := Rd.end_rest (s := s)
      by_cases he : s.err = 0
      · rw [he] at b1
        by_cases hr : s.rest = []
        · rw [if_neg (fun h => h.2 hr), he] at hend
          rw [hr, strOf_nil] at b0
          have HN := Lib.hid hend
          clear hend he hr
          go_wp2_with fail
          refine (hH.keeps (.cons (rA_loc _ _) (.cons (sA_loc _ _) .nil)) fun F h => rend_any h).mono ?_
          rintro e w9 ⟨rfl, hH9, -⟩
          rw [HN.out]
          go_wp2_with fail
          go_ret
          exact ⟨by go_num, hH9.base⟩
        · rw [if_pos ⟨he, hr⟩] at hend
          have hs2 : ((strOf s.rest).toList == []) = false := by simpa [strOf] using hr
          have HN := Lib.hid hend
          clear hend he hr
          go_wp2_with fail
          refine (hH.keeps (.cons (rA_loc _ _) (.cons (sA_loc _ _) .nil)) fun F h => rend_any h).mono ?_
          rintro e w9 ⟨rfl, hH9, -⟩
          rw [HN.out]
          go_wp2_with fail
          go_ret
          exact ⟨by go_num, hH9.base⟩
      · rw [if_neg (fun h => he h.1)] at hend
        have e1 : (s.err == 0) = false := by simp [he]
        have HN := Lib.hid hend
        clear hend he
        go_wp2_with fail
        refine (hH.keeps (.cons (rA_loc _ _) (.cons (sA_loc _ _) .nil)) fun F h => rend_any h).mono ?_
        rintro e w9 ⟨rfl, hH9, -⟩
        rw [HN.out]
        go_wp2_with fail
        go_ret
        exact ⟨by go_num, hH9.base⟩
end Go.Proofs.Ytdaiondcaecklaa
