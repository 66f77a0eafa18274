/- WireOwn, walked. -/
import Derived.Test.YtdaiondcaecklaaWrites
import Derived.Test.YtdaiondcaecklaaSteps
namespace Go.Proofs.Ytdaiondcaecklaa
set_option linter.unusedVariables false
set_option linter.unusedSimpArgs false
open Go Go.RowKit
/-- bytes of one's own -/
def bA (p : Option Addr) (c : Nat) (l : List UInt8) : Asr := rowA 5 1 (.slice p l.length c) l.length (u8s l)
theorem bA_loc (p : Option Addr) (c : Nat) (l : List UInt8) : Loc (bA p c l) := rowA_loc _ _ _ _ _
def incL (k : Nat) (l : List UInt8) : List UInt8 := (l.take k).map (· + 1) ++ l.drop k
theorem incL_length (k : Nat) (l : List UInt8) : (incL k l).length = l.length := by simp [incL]; omega
theorem incL_zero (l : List UInt8) : incL 0 l = l := by simp [incL]
theorem incL_get (k : Nat) (l : List UInt8) (h : k < l.length) : (incL k l).getD k 0 = l.getD k 0 := by
  unfold incL
  rw [List.getD_eq_getElem?_getD, List.getD_eq_getElem?_getD, List.getElem?_append_right (by simp; omega), List.getElem?_drop]
  simp
  congr 2
  omega
theorem incL_succ (k : Nat) (l : List UInt8) (h : k < l.length) : incL (k + 1) l = (incL k l).set k (l.getD k 0 + 1) := by
  unfold incL
  have hl : ((l.take k).map (· + 1)).length = k := by simp; omega
  rw [List.set_append_right _ _ (by omega), hl, Nat.sub_self, drop_cons l 0 k h, take_snoc l 0 k h]
  simp
theorem bA_cell {p : Option Addr} {c : Nat} {l : List UInt8} {W : World} {F : Nat → Prop} (h : bA p c l W F) (i : Nat) (hi : i < l.length) : ∃ g, p = some ⟨g, 0, none⟩ ∧ W.cell? ⟨g, i, none⟩ = some (.int .u8 ((l.getD i 0).toNat : Int)) ∧ W.frozen? ⟨g, i, none⟩ = false ∧ F = fun k => k = g := by
  obtain ⟨h1, rfl⟩ := h
  rcases h1.2 with ⟨hv, hn⟩ | ⟨g, cap, cur, hv, hb, hg, hnc, hcm, hcs, ht⟩
  · omega
  · have hc := h1.cells (g := g) (by rw [hv]; rfl) i (.int .u8 ((l.getD i 0).toNat : Int)) (by
      rw [u8s, List.getElem?_map, List.getElem?_eq_getElem hi, List.getD_eq_getElem?_getD, List.getElem?_eq_getElem hi]; rfl)
    rw [Go.WideShapes.add_plain, Nat.zero_add] at hc
    injection hv with h2
    refine ⟨g, h2, hc, frozen_of_row W g i cur _ hg, ?_⟩
    funext k
    rw [h2]
    simp [Value.ownBlock, eq_comm]
theorem bA_set {g c : Nat} {l : List UInt8} {W : World} {F : Nat → Prop} (h : bA (some ⟨g, 0, none⟩) c l W F) (i : Nat) (x : UInt8) (hi : i < l.length) : Next F W (W.setCell ⟨g, i, none⟩ (.int .u8 (x.toNat : Int))) (bA (some ⟨g, 0, none⟩) c (l.set i x)) := by
  obtain ⟨h1, rfl⟩ := h
  have h2 := (h1.stored i (.int .u8 (x.toNat : Int))).1
  refine ⟨_, ⟨?_, rfl⟩, (Tch.refl _ _).setCell (fun _ => by simp [Value.ownBlock]) _, fun k hk => Or.inl ?_⟩
  · rw [List.length_set]
    have : u8s (l.set i x) = (u8s l).set i (.int .u8 (x.toNat : Int)) := by simp [u8s, List.map_set]
    rw [this]
    exact h2
  · rw [List.length_set] at hk
    exact hk
theorem u8_inc (x : UInt8) : ((x.toNat : Int) + 1) % 256 = (((x + 1).toNat : Nat) : Int) := by
  rw [UInt8.toNat_add]; simp
theorem incL_full (l : List UInt8) (k : Nat) (h : l.length ≤ k) : incL k l = incL l.length l := by
  unfold incL; rw [List.take_of_length_le h, List.take_length, List.drop_of_length_le h, List.drop_length]
/-- new bytes of one's own -/
theorem Has.bytes {w W W' : World} {ps : List Asr} {p : Option Addr} {c : Nat} {l : List UInt8} (h : Has w W ps) (hl : Locs ps) (hE : Ext W W') (ho : W'.ownsRow W.heap.size 5 1 (.slice p l.length c) l.length (u8s l)) : Has w W' (bA p c l :: ps) :=
  h.add hl hE ⟨ownsRow_base ho (fun _ _ => Nat.zero_le _), rfl⟩ (fun k hk => (ho.lt k hk).1)
def IncRel (w : World) (n : Nat) (p : Option Addr) (c : Nat) (l : List UInt8) (ps : List Asr) (k : Value) (wr : World) : Prop := ∃ i : Nat, i ≤ n ∧ k = .int .i64 i ∧ Has w wr (bA p c (incL i l) :: ps)
def OwnRel3 (w : World) (r : Nat) (b : List UInt8) (k : Value) (wr : World) : Prop := ∃ i : Nat, i ≤ b.length ∧ k = .int .i64 i ∧ Has w wr [rA r ⟨b, i, 0⟩]
set_option maxRecDepth 100000 in
set_option maxHeartbeats 4000000 in
theorem own_any (w : World) (p : Option Addr) (c : Nat) (b : List UInt8) (hN : NumsAt .u8 w p (byI b)) (hp : p = none → b.length = 0 ∧ c = 0) :
    Calls Try.prog 4 #[.slice p b.length c] w fun e w' => e = .returned (.bool true) ∧ Ext w w' := by
  obtain ⟨i0, hi0, hz0, hz1, hz2⟩ := info_parts u8Info
  go_enter Try.func4, Try.ntmps4
  go_wp2_with fail
  refine (writes_any w).mono ?_
  rintro e w1 ⟨rfl, hE⟩
  rcases (show (1000 : Int) < b.length ∨ ¬ (1000 : Int) < b.length by omega) with g | g1
  · go_wp2_with fail
    go_ret
    exact ⟨rfl, hE⟩
  have hEl := ext_alloc w1 (.cells #[] 5)
  have hlit := World.ownsRow_made (base := 0) (e := 5) (size := 1) w1 #[] 0 (Nat.zero_le _) (by simp) rfl
  have hb1 : 0 + b.length ≤ maxLen := by unfold maxLen; omega
  have hb2 : (0 + b.length) * 1 ≤ 140737488355328 := by omega
  have hN1 := hN.ext (hE.trans hEl)
  go_wp2_with (at_builtin; refine wpList_append_new rfl _ _ 23 rfl 5 i0 (.int .u8 0) 1 1 Try.underlying23 hi0 hz0 hz1 hz2 rfl (by decide) _ 0 [] rfl hlit p b.length c (u8s b) rfl (u8s_length b ▸ (Nat.mul_one _).symm) hp (news_at hN1) (u8s_one b) hb1 hb2 ?_)
  intro v' w3 hown3 hg3 hf3
  have hE3 : Ext w1 w3 := hEl.grown hg3 (by simp) (fun k hk => by simp [Value.ownBlock] at hk; omega)
  have hown4 := ownsRow_base (b' := w1.heap.size) hown3 (fun k hk => by
    rcases hf3.1 k hk with h1 | h1
    · simp [Value.ownBlock] at h1; omega
    · simp at h1; omega)
  try simp only [List.nil_append, Nat.zero_add] at hown4
  obtain ⟨pm, cm, rfl⟩ := ownsRow_slice hown4
  have hH3 := (Has.nil hE).bytes .nil hE3 hown4
  have hW3 := hH3.writer (.cons (bA_loc _ _ _) .nil)
  clear hg3 hf3 hlit hown3 hN1 hEl hE3 hown4 hH3
  go_wp2_with fail
  generalize w3.heap.size = q at *
  generalize World.alloc _ _ = W at *
  have hlen : (([] : List UInt8) ++ b).length ≤ 70368744177664 := by simp; omega
  obtain ⟨Fm, hm⟩ := hW3.swap.head
  refine (hW3.act (.cons (bA_loc _ _ _) .nil) fun F h => wbyte_any h pm cm b (bytesAt_own hm.1) (row_nil hm.1) (by simpa using hlen)).mono ?_
  rintro e w4 ⟨rfl, hH4⟩
  simp only [List.nil_append] at hH4
  clear hW3 hm Fm hlen
  go_wp2_with fail
  obtain ⟨Fm, hm⟩ := hH4.swap.head
  refine (read_any w4 pm cm b (bytesAt_own hm.1) (row_nil hm.1) (by omega)).mono ?_
  rintro e w5 hR
  obtain ⟨r, rfl, hH5⟩ := hH4.reader (.cons (wA_loc _ _) (.cons (bA_loc _ _ _) .nil)) hR
  replace hH5 := hH5.third
  clear hH4 hm Fm hR
  have LR : ∀ {s : Rd} {l : List UInt8}, Locs [rA r s, wA q l] := .cons (rA_loc _ _) (.cons (wA_loc _ _) .nil)
  go_wp2_with fail
  go_loopw [25] (fun k wr => IncRel w b.length pm cm b [rA r ⟨b, 0, 0⟩, wA q b] k wr) (fun k _ => ((b.length : Int) + 1 - intOf k).toNat)
  case atStart => exact ⟨0, by omega, rfl, by rw [incL_zero]; exact hH5⟩
  case round =>
    clear hH5
    obtain ⟨i, hi, rfl, hH⟩ := hrel
    by_cases gi : (i : Int) < b.length
    · obtain ⟨Fm, hm⟩ := hH.head
      obtain ⟨g, rfl, hc, hfz, -⟩ := bA_cell hm i (by rw [incL_length]; omega)
      rw [incL_get i b (by omega)] at hc
      have hs := incL_succ i b (by omega)
      have hinc := u8_inc (b.getD i 0)
      have hH2 := hH.next LR fun F h => bA_set h i (b.getD i 0 + 1) (by rw [incL_length]; omega)
      rw [← hs] at hH2
      have hxx : (b.getD i 0).toNat < 256 := UInt8.toNat_lt _
      generalize b.getD i 0 = x at *
      have HI := Lib.hid hinc
      generalize (x + 1).toNat = x1 at *
      generalize x.toNat = x0 at *
      clear hm hs hH hinc
      go_wp2_with fail
      rw [HI.out]
      exact ⟨⟨i + 1, by omega, by go_num, hH2⟩, by simp [intOf]; omega⟩
    · replace hH := hH.drop.swap
      have hE5 := hH.base
      have hi2 : i = b.length := by omega
      subst hi2
      clear gi hi
      go_wp2_with fail
      refine (hH.keeps (.cons (wA_loc _ _) (.cons (rA_loc _ _) .nil)) fun F h => wbytes_any h (by omega)).mono ?_
      rintro e w6 ⟨⟨v1, rfl, hown1⟩, -, hE6⟩
      obtain ⟨px, cx, rfl⟩ := ownsRow_slice hown1
      have hH6 := hH.bytes (.cons (wA_loc _ _) (.cons (rA_loc _ _) .nil)) hE6 hown1
      have LW : ∀ {s : Rd} {l : List UInt8}, Locs [wA q l, rA r s] := .cons (wA_loc _ _) (.cons (rA_loc _ _) .nil)
      clear hH hown1 hE6
      go_wp2_with fail
      obtain ⟨wo, rfl⟩ : ∃ wo : World, wo = wr := ⟨_, rfl⟩
      go_loopw [38] (fun k wr => IncRel w b.length px cx b [wA q b, rA r ⟨b, 0, 0⟩] k wr) (fun k _ => ((b.length : Int) + 1 - intOf k).toNat)
      case atStart => exact ⟨0, by omega, rfl, by rw [incL_zero]; exact hH6⟩
      case round =>
        clear hH6 hE5
        obtain ⟨i, hi, rfl, hH⟩ := hrel
        by_cases gi : (i : Int) < b.length
        · obtain ⟨Fm, hm⟩ := hH.head
          obtain ⟨g, rfl, hc, hfz, -⟩ := bA_cell hm i (by rw [incL_length]; omega)
          rw [incL_get i b (by omega)] at hc
          have hs := incL_succ i b (by omega)
          have hinc := u8_inc (b.getD i 0)
          have hH2 := hH.next LW fun F h => bA_set h i (b.getD i 0 + 1) (by rw [incL_length]; omega)
          rw [← hs] at hH2
          have hxx : (b.getD i 0).toNat < 256 := UInt8.toNat_lt _
          generalize b.getD i 0 = x at *
          have HI := Lib.hid hinc
          generalize (x + 1).toNat = x1 at *
          generalize x.toNat = x0 at *
          clear hm hs hH hinc
          go_wp2_with fail
          rw [HI.out]
          exact ⟨⟨i + 1, by omega, by go_num, hH2⟩, by simp [intOf]; omega⟩
        · replace hH := hH.drop
          have hE6 := hH.base
          have hcb : ∀ x : Of (fun X => Ext wr X), (convert 23 9 (.slice p b.length c)).run Try.prog x.val = .ok (.string (strOf b)) x.val := fun x => conv_at (hN.ext (hE6.trans x.property)) hp
          have hH2 : Has w wr.drew _ := hH.ext LW (Ext.refl wr).drew
          have hi2 : i = b.length := by omega
          subst hi2
          clear gi hi hH
          go_wp2_with fail
          have hFd := (show Ext wr wr.drew from (Ext.refl _).drew)
          have hne_ : Nonempty (Of (fun X => Ext wr X)) := ⟨⟨_, hFd⟩⟩
          refine region_steps [2,3,0,1,4] [true,true,false,true,true] (fun X => Ext wr X) (by kernel_rfl) (by kernel_rfl) hFd ?_
          simp only [List.filterMap_cons, List.filterMap_nil, List.getElem?_cons_zero, List.getElem?_cons_succ]
          refine steps_quiet 2 (by kernel_rfl) ?_
          simp only [List.take_succ_cons, List.take_zero, List.drop_succ_cons, List.drop_zero]
          repeat (go_big_quiet_step (fail))
          refine wpQuiet_nil ?_
          refine steps_want rfl (fun K hK => ?_)
          go_simp
          refine (hH2.keeps (.cons (wA_loc _ _) (.cons (rA_loc _ _) .nil)) fun F h => wbytes_any h (by omega)).mono ?_
          rintro e w7 ⟨⟨v1, rfl, hown1⟩, hH7, hE7⟩
          obtain ⟨px2, cx2, rfl⟩ := ownsRow_slice hown1
          have hcv1 : ∀ x : Of (fun X => Ext w7 X), (convert 23 9 (.slice px2 b.length cx2)).run Try.prog x.val = .ok (.string (strOf b)) x.val := fun x => own_conv (ownsRow_ext hown1 x.property)
          have hFn := (show Ext w7 w7 from Ext.refl w7)
          have hnx_ : Nonempty (Of (fun X => Ext w7 X)) := ⟨⟨_, hFn⟩⟩
          refine hK _ _ (fun X => Ext w7 X) hFn (fun X hX => ((Ext.refl wr).drew.trans hE7).trans hX) ?_
          clear hK K hFn
          try simp only [Act.put, List.setIfInBounds_toArray, List.set_cons_succ, List.set_cons_zero]
          refine steps_quiet 2 (by kernel_rfl) ?_
          simp only [List.take_succ_cons, List.take_zero, List.drop_succ_cons, List.drop_zero]
          repeat (go_big_quiet_step (fail))
          refine wpQuiet_nil ?_
          refine steps_nil ?_
          clear hcv1 hcb hown1 hE7 hH2
          replace hH7 := hH7.drop
          go_wp2_with fail
          obtain ⟨wo2, rfl⟩ : ∃ wo : World, wo = wr := ⟨_, rfl⟩
          go_loopw [55] (fun k wr => OwnRel3 w r b k wr) (fun k _ => ((b.length : Int) + 1 - intOf k).toNat)
          case atStart => exact ⟨0, by omega, rfl, hH7⟩
          case round =>
            clear hH7 hE6
            obtain ⟨i, hi, rfl, hH⟩ := hrel
            have hE8 := hH.base
            by_cases gi : (i : Int) < b.length
            · obtain ⟨a, rfl, hcell⟩ := hN.get hE8 i (by rw [byI_length]; omega)
              have hgd : (byI b).getD i 0 = ((b.getD i 0).toNat : Int) := by
                rw [byI, List.getD_eq_getElem?_getD, List.getD_eq_getElem?_getD, List.getElem?_map, List.getElem?_eq_getElem (by omega)]; rfl
              rw [hgd] at hcell
              have hby : (⟨b, i, 0⟩ : Rd).byte = ((b.getD i 0).toNat, ⟨b, i + 1, 0⟩) := by
                unfold Rd.byte; rw [if_pos rfl, if_pos (by show i < b.length; omega)]
              have hr := hH.act .nil fun F h => rbyte_any h
              rw [hby] at hr
              simp only at hr
              clear hgd hby
              generalize (b.getD i 0).toNat = x at *
              go_wp2_with fail
              refine hr.mono ?_
              rintro e w9 ⟨rfl, hH9⟩
              clear hr hH hE8 hcell
              go_wp2_with fail
              exact ⟨⟨i + 1, by omega, by go_num, hH9⟩, by simp [intOf]; omega⟩
            · have hi2 : i = b.length := by omega
              subst hi2
              clear gi hi
              go_wp2_with fail
              refine (hH.keeps (.cons (rA_loc _ _) .nil) fun F h => rend_any h).mono ?_
              rintro e w10 ⟨rfl, hH10, -⟩
              have he : (⟨b, b.length, 0⟩ : Rd).end_ = 0 := by unfold Rd.end_; rw [if_neg (fun h => Nat.lt_irrefl _ h.2)]
              rw [he]
              have hE10 := hH10.base
              clear hH hH10 he
              go_wp2_with fail
              go_ret
              exact ⟨rfl, hE10⟩
end Go.Proofs.Ytdaiondcaecklaa
