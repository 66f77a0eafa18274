/- QueuePlays, walked. -/
import Derived.Test.YtkpdhciomfanoaaPlayL
import Derived.Deep.DeepCutAuto
import Derived.Deep.CutBlock
namespace Go.Proofs.Ytkpdhciomfanoaa
set_option linter.unusedVariables false
set_option linter.unusedSimpArgs false
open Go Go.RowKit Go.Maps Go.ChangeMaps Go.MapKept
/-- something that is done -/
structure Opn where
  kind : Int
  run : Int
  tk : Int
  id : Int
  now : Int
def Opn.cells (o : Opn) : List Value := [.int .i64 o.kind, .int .i64 o.run, .int .i64 o.tk, .int .i64 o.id, .int .i64 o.now]
abbrev Opn.it (o : Opn) : It := ⟨o.run, o.tk, o.id, o.now⟩
structure Opn.Ok (o : Opn) : Prop where
  kind : -9223372036854775808 ≤ o.kind ∧ o.kind ≤ 9223372036854775807
  key : TaskOk o.run o.tk o.id
  now : -9223372036854775808 ≤ o.now ∧ o.now ≤ 9223372036854775807
def OpsAt (w : World) (p : Option Addr) (os : List Opn) : Prop :=
  ∀ i (h : i < os.length), ∃ b o, p = some ⟨b, o, none⟩ ∧ b < w.heap.size ∧ (∀ j, j < 5 → w.cell? ⟨b, o + (i * 5 + j), none⟩ = os[i].cells[j]?) ∧ os[i].Ok
def oA (g : Nat) (o : Opn) : Asr := blkA g 48 o.cells.toArray
theorem oA_loc (g : Nat) (o : Opn) : Loc (oA g o) := blkA_loc _ _ _
def PlRel (w : World) (q : Nat) (os : List Opn) (v k : Value) (wr : World) : Prop :=
  ∃ (i : Nat) (l : List It), i ≤ os.length ∧ k = .int .i64 i ∧ l.length ≤ 128 ∧ Has w wr [qA q l, lA v l]
theorem l_new {w W : World} {q : Nat} {ps : List Asr} (h : Has w W ps) (hl : Locs ps) : Has w W (lA (.slice none 0 0) [] :: ps) :=
  h.add hl (Ext.refl W) (F := fun _ => False) ⟨World.ownsRow_nil _ _ _ _, by funext k; simp [Value.ownBlock]⟩ (fun k hk => hk.elim)
def PlRel3 (w : World) (q bx : Nat) (o : Opn) (vl : Value) (l : List It) (v k : Value) (wr : World) : Prop :=
  ∃ pre post, l = pre ++ post ∧ k = .int .i64 pre.length ∧ Has w wr [oA bx o, qA q l, lA vl l, lA v (restIt o.run pre)]
theorem rest_snoc_in (run : Int) (l : List It) (x : It) (h : x.run = run) : restIt run (l ++ [x]) = restIt run l := by simp [restIt, h]
theorem rest_snoc_out (run : Int) (l : List It) (x : It) (h : x.run ≠ run) : restIt run (l ++ [x]) = restIt run l ++ [x] := by simp [restIt, h]
theorem rest_le (run : Int) (l : List It) : (restIt run l).length ≤ l.length := List.length_filter_le _ _
theorem Has.fourth {w W : World} {p q r s : Asr} (h : Has w W [p, q, r, s]) : Has w W [s, p, q, r] := h.perm (List.perm_append_comm (l₁ := [p, q, r]) (l₂ := [s]))
def tA (v : Value) (l : List It) : Asr := rowA 32 3 v l.length (flatIt l)
theorem tA_loc (v : Value) (l : List It) : Loc (tA v l) := rowA_loc _ _ _ _ _
def PlRel5 (w : World) (q bx : Nat) (o : Opn) (vg vl : Value) (l : List It) (k : Value) (wr : World) : Prop :=
  ∃ pre post, l = pre ++ post ∧ k = .int .i64 pre.length ∧ Has w wr [tA vg l, qA q l, oA bx o, lA vl l]
theorem any_mem {pre post : List It} {x : It} : (pre ++ x :: post).any (isK · x.run x.kind x.id) = true := by
  rw [List.any_eq_true]; exact ⟨x, by simp, isK_self x⟩
set_option maxRecDepth 100000 in
set_option maxHeartbeats 40000000 in
theorem plays_any (w : World) (p : Option Addr) (c : Nat) (os : List Opn) (hO : OpsAt w p os) :
    Calls Try.prog 6 #[.slice p os.length c] w fun e w' => e = .returned (.bool true) ∧ Ext w w' := by
  go_enter Try.func6, Try.ntmps6
  go_wp2_with fail
  refine (waits_any w).mono ?_
  rintro e w1 ⟨rfl, hE⟩
  rcases (show (200 : Int) < os.length ∨ ¬ (200 : Int) < os.length by omega) with g | g2
  · go_wp2_with fail
    go_ret
    exact ⟨rfl, hE⟩
  have hH1 : Has w (w1.alloc (.cells #[.pointer none, .pointer none, .map none] 28)) [qA w1.heap.size []] :=
    (Has.nil hE).add .nil (ext_alloc _ _) (q_new w1 28 (by decide)) (by rintro k (rfl | hk | hk); exact Nat.le_refl _; cases hk; simp [blks] at hk)
  have hH2 := (l_new (q := 0) hH1 (.cons (qA_loc _ _) .nil)).swap
  clear hH1
  go_wp2_with fail
  generalize World.alloc _ _ = W at *
  generalize w1.heap.size = q at *
  go_loopw [4, 29] (fun v k wr => PlRel w q os v k wr) (fun _ k _ => ((os.length : Int) + 1 - intOf k).toNat)
  case atStart => exact ⟨0, [], by omega, rfl, by simp, hH2⟩
  case round =>
    clear hH2
    obtain ⟨i, l, hi, rfl, hl, hH⟩ := hrel
    by_cases gi : (i : Int) < os.length
    · obtain ⟨pb, po, rfl, hpb, hcells, hok⟩ := hO i (by omega)
      have hE1 := hH.base
      have x0 := (hE1.cell pb _ hpb).trans (hcells 0 (by omega))
      have x1 := (hE1.cell pb _ hpb).trans (hcells 1 (by omega))
      have x2 := (hE1.cell pb _ hpb).trans (hcells 2 (by omega))
      have x3 := (hE1.cell pb _ hpb).trans (hcells 3 (by omega))
      have x4 := (hE1.cell pb _ hpb).trans (hcells 4 (by omega))
      clear hcells hE1 hpb
      generalize os[i]'(by omega) = o at *
      simp only [Opn.cells, List.getElem?_cons_zero, List.getElem?_cons_succ] at x0 x1 x2 x3 x4
      simp only [← Nat.add_assoc, Nat.add_zero] at x0 x1 x2 x3 x4
      have hX := hH.add (.cons (qA_loc _ _) (.cons (lA_loc _ _) .nil)) (ext_alloc wr (.cells o.cells.toArray 48)) (p := oA wr.heap.size o) ⟨Blk.new _ _ _, rfl⟩ (fun k hk => by have : k = wr.heap.size := hk; omega)
      simp only [Opn.cells] at hX
      obtain ⟨Fl, hFl⟩ := hH.swap.head
      obtain ⟨pv, cv, rfl⟩ := ownsRow_slice hFl.1
      clear hH hFl
      go_upto_region 10 with fail
      have hbx : wr.heap.size < (wr.alloc (.cells #[.int .i64 o.kind, .int .i64 o.run, .int .i64 o.tk, .int .i64 o.id, .int .i64 o.now] 48)).heap.size := by simp
      generalize World.alloc _ _ = W3 at *
      generalize wr.heap.size = bx at *
      obtain ⟨Fo, hFo⟩ := (hX).head
      have b0 := hFo.1.cell 0
      have b1 := hFo.1.cell 1
      have b2 := hFo.1.cell 2
      have b3 := hFo.1.cell 3
      have b4 := hFo.1.cell 4
      have hbl := hFo.1.lt
      simp only [Opn.cells, List.getElem?_toArray, List.getElem?_cons_zero, List.getElem?_cons_succ] at b0 b1 b2 b3 b4
      clear hFo
      have LQ : ∀ {l : List It}, Locs [qA q l] := .cons (qA_loc _ _) .nil
      go_upto_block 2 with fail
      refine (hX.third.keeps (.cons (lA_loc _ _) (.cons (oA_loc _ _) (.cons (qA_loc _ _) .nil))) fun F h => find_any h.1 (by omega) o.run o.tk o.id).mono ?_
      rintro e w4 ⟨rfl, hX4', -⟩
      have hX4 := hX4'.third.third
      clear b0 b1 b2 b3 b4 hbl hX hX4'
      obtain ⟨Fo, hFo⟩ := (hX4).head
      have b0 := hFo.1.cell 0
      have b1 := hFo.1.cell 1
      have b2 := hFo.1.cell 2
      have b3 := hFo.1.cell 3
      have b4 := hFo.1.cell 4
      have hbl := hFo.1.lt
      simp only [Opn.cells, List.getElem?_toArray, List.getElem?_cons_zero, List.getElem?_cons_succ] at b0 b1 b2 b3 b4
      clear hFo
      go_upto_block 2 with fail
      go_cut [4, 7, 38] (fun v' _ _ wx => ∃ l' : List It, l'.length ≤ 128 ∧ Has w wx [oA bx o, qA q l', lA v' l'])
      case first =>
        have okE : Ent.Ok ⟨o.run, o.tk, o.id, o.now, 0⟩ := ⟨hok.key, hok.now.1, hok.now.2⟩
        rcases (show o.kind = 0 ∨ o.kind = 1 ∨ o.kind = 2 ∨ o.kind = 3 ∨ (o.kind < 0 ∨ 3 < o.kind) by omega) with hk | hk | hk | hk | hk
        · rw [hk] at b0
          rcases Bool.eq_false_or_eq_true (l.any (isK · o.run o.tk o.id)) with hin | hin
          · as_aux_lemma =>
            /- kind 0, there already -/
            have hat := findI_pos hin
            generalize findI l o.run o.tk o.id = at0 at *
            go_wp2_with fail
            refine (hX4.swap.keeps (.cons (qA_loc _ _) (.cons (oA_loc _ _) (.cons (lA_loc _ _) .nil))) fun F h => q_add_twice h o.run o.tk o.id o.now okE hin).mono ?_
            rintro e w5 ⟨rfl, hX5, -⟩
            clear b0 b1 b2 b3 b4 hbl hX4
            go_wp2_with fail
            go_meet
            exact ⟨l, hl, hX5.swap⟩
          · by_cases h128 : 128 ≤ l.length
            · as_aux_lemma =>
              /- kind 0, full -/
              rw [findI_none hin]
              have e1 : ((l.length : Int) == 128) = true := by simp; omega
              go_wp2_with fail
              refine (hX4.swap.keeps (.cons (qA_loc _ _) (.cons (oA_loc _ _) (.cons (lA_loc _ _) .nil))) fun F h => q_add_full h o.run o.tk o.id o.now okE hin (by omega)).mono ?_
              rintro e w5 ⟨rfl, hX5, -⟩
              clear b0 b1 b2 b3 b4 hbl hX4 e1
              go_wp2_with fail
              go_meet
              exact ⟨l, hl, hX5.swap⟩
            · as_aux_lemma =>
              /- kind 0, added -/
              rw [findI_none hin]
              have e1 : ((l.length : Int) == 128) = false := by simp; omega
              go_wp2_with fail
              refine (hX4.swap.act (.cons (oA_loc _ _) (.cons (lA_loc _ _) .nil)) fun F h => q_add_ok h o.run o.tk o.id o.now okE hin (by omega)).mono ?_
              rintro e W5 ⟨rfl, hX5'⟩
              have hX5 := hX5'.swap
              clear b0 b1 b2 b3 b4 hbl hX4 e1 hX5'
              obtain ⟨Fo, hFo⟩ := (hX5).head
              have b0 := hFo.1.cell 0
              have b1 := hFo.1.cell 1
              have b2 := hFo.1.cell 2
              have b3 := hFo.1.cell 3
              have b4 := hFo.1.cell 4
              have hbl := hFo.1.lt
              simp only [Opn.cells, List.getElem?_toArray, List.getElem?_cons_zero, List.getElem?_cons_succ] at b0 b1 b2 b3 b4
              clear hFo
              go_upto_region 21 with fail
              obtain ⟨i0, hi0, hz0, hz1, hz2⟩ := info_parts heldInfo
              obtain ⟨Fl2, hFl2⟩ := hX5.third.head
              have hrow := hFl2.1
              have hlN := flat4_length l
              have hE5 := Ext.refl W5
              clear hFl2
              have d1 : ∀ x : Of (fun X => Ext W5 X), x.val.cell? ⟨bx, 1, none⟩ = some (.int .i64 o.run) := fun x => (x.property.cell bx 1 hbl).trans b1
              have d2 : ∀ x : Of (fun X => Ext W5 X), x.val.cell? ⟨bx, 2, none⟩ = some (.int .i64 o.tk) := fun x => (x.property.cell bx 2 hbl).trans b2
              have d3 : ∀ x : Of (fun X => Ext W5 X), x.val.cell? ⟨bx, 3, none⟩ = some (.int .i64 o.id) := fun x => (x.property.cell bx 3 hbl).trans b3
              have d4 : ∀ x : Of (fun X => Ext W5 X), x.val.cell? ⟨bx, 4, none⟩ = some (.int .i64 o.now) := fun x => (x.property.cell bx 4 hbl).trans b4
              have hFd := (Ext.refl W5).drew
              have hne_ : Nonempty (Of ((fun X => Ext W5 X))) := ⟨⟨_, hFd⟩⟩
              refine region_plan (.seg [1,3,4,5,6,7] [true,true,true,true,true,true] (.fork 0 (.fork 2 (.seg [8,9,10] [false,false,true] .done) 8 (.seg [2,9,10] [false,false,true] .done)) 8 (.seg [0,2,9,10] [false,false,false,true] .done))) ((fun X => Ext W5 X)) (by kernel_rfl) (by kernel_rfl) hFd ?_
              refine walkP_seg ?_
              simp only [List.filterMap_cons, List.filterMap_nil, List.getElem?_cons_zero, List.getElem?_cons_succ]
              refine steps_quiet 6 (by kernel_rfl) ?_
              simp only [List.take_succ_cons, List.take_zero, List.drop_succ_cons, List.drop_zero]
              repeat (go_big_quiet_step (fail))
              refine wpQuiet_nil ?_
              clear d1 d2 d3 d4 b0 b1 b2 b3 b4
              refine steps_end ?_
              refine walkP_fork ?_ ?_
              all_goals simp only [List.filterMap_cons, List.filterMap_nil, List.getElem?_cons_zero, List.getElem?_cons_succ]
              · refine steps_want rfl (fun K hK => ?_)
                go_simp
                have hlit := World.ownsRow_made (base := 0) (e := 51) (size := 4) W5 #[] 0 (Nat.zero_le _) (by simp) rfl
                have hE6 : Ext W5 (W5.alloc (.cells #[] 51)).drew := (ext_alloc _ _).drew
                have hlb : ∀ k, (Value.slice (some ⟨W5.heap.size, 0, none⟩) 0 0).ownBlock = some k → W5.heap.size ≤ k := fun k hk => Nat.le_of_eq (by simpa [Value.ownBlock] using hk)
                refine hK _ _ (fun X => Ext W5 X) (hE6) (fun _ h => h) ?_
                clear hK K
                try simp only [Act.put, List.setIfInBounds_toArray, List.set_cons_succ, List.set_cons_zero]
                refine steps_end ?_
                refine walkP_fork ?_ ?_
                all_goals simp only [List.filterMap_cons, List.filterMap_nil, List.getElem?_cons_zero, List.getElem?_cons_succ]
                · refine steps_want rfl (fun K hK => ?_)
                  refine wp_append_new _ _ 46 rfl 51 i0 (.agg #[.int .i64 0, .int .i64 0, .int .i64 0, .int .i64 0]) 4 32 Try.underlying46 hi0 hz0 hz1 hz2 rfl (by decide) (.slice (some ⟨W5.heap.size, 0, none⟩) 0 0) 0 [] rfl (World.ownsRow.drew hlit) pv l.length cv (flat4 l) rfl hlN (row_nil hrow) (row_news (ownsRow_ext hrow hE6)) (flat4_one l) (by unfold maxLen; omega) (by omega) ?_
                  intro v7 w7 hown7 hg7 hf7
                  obtain ⟨hE7, hb7⟩ := fresh_ext hE6 hlb hg7 hf7
                  refine hK _ _ (fun X => Ext W5 X) (hE7) (fun _ h => h) ?_
                  clear hK K
                  try simp only [Act.put, List.setIfInBounds_toArray, List.set_cons_succ, List.set_cons_zero]
                  refine steps_end ?_
                  refine walkP_seg ?_
                  simp only [List.filterMap_cons, List.filterMap_nil, List.getElem?_cons_zero, List.getElem?_cons_succ]
                  refine steps_want rfl (fun K hK => ?_)
                  go_simp
                  have hE8 : Ext W5 (w7.alloc (.cells (flat4 [o.it]).toArray 51)) := hE7.alloc _
                  have hB8 : Blk (w7.alloc (.cells (flat4 [o.it]).toArray 51)) w7.heap.size 51 (flat4 [o.it]).toArray := Blk.new _ _ _
                  refine hK _ _ (fun X => Ext W5 X) (hE8) (fun _ h => h) ?_
                  clear hK K
                  try simp only [Act.put, List.setIfInBounds_toArray, List.set_cons_succ, List.set_cons_zero]
                  refine steps_want rfl (fun K hK => ?_)
                  refine wp_append_new _ _ 46 rfl 51 i0 (.agg #[.int .i64 0, .int .i64 0, .int .i64 0, .int .i64 0]) 4 32 Try.underlying46 hi0 hz0 hz1 hz2 rfl (by decide) v7 _ _ rfl (hown7.alloc _) (some ⟨w7.heap.size, 0, none⟩) 1 1 (flat4 [o.it]) rfl rfl (fun h => nomatch h) (news_blk hB8) (flat4_one _) (by unfold maxLen; omega) (by omega) ?_
                  intro v9 w9 hown9 hg9 hf9
                  obtain ⟨hE9, hb9⟩ := fresh_ext hE8 hb7 hg9 hf9
                  have hownF : w9.ownsRow W5.heap.size 51 4 v9 (l ++ [o.it]).length (flat4 (l ++ [o.it])) := by
                    have := ownsRow_base (b' := W5.heap.size) hown9 hb9
                    rw [flat4_append, List.length_append]
                    simpa using this
                  have hY := hX5.third.newrow (.cons (oA_loc _ _) (.cons (qA_loc _ _) .nil)) hE9 hownF
                  refine hK _ _ (fun X => Ext W5 X) (hE9) (fun _ h => h) ?_
                  clear hK K
                  try simp only [Act.put, List.setIfInBounds_toArray, List.set_cons_succ, List.set_cons_zero]
                  clear hown9 hg9 hf9 hown7 hg7 hf7 hlit hB8 hX5 hrow
                  refine steps_quiet 1 (by kernel_rfl) ?_
                  simp only [List.take_succ_cons, List.take_zero, List.drop_succ_cons, List.drop_zero]
                  repeat (go_big_quiet_step (fail))
                  refine wpQuiet_nil ?_
                  refine steps_end ?_
                  refine walkP_done ?_
                  go_wp2_with fail
                  go_meet
                  exact ⟨_, by simp; omega, hY.third.third⟩
                · refine steps_want rfl (fun K hK => ?_)
                  go_simp
                  have hE8 : Ext W5 ((W5.alloc (.cells #[] 51)).alloc (.cells (flat4 [o.it]).toArray 51)).drew := ((ext_alloc _ _).alloc _).drew
                  have hB8' : Blk ((W5.alloc (.cells #[] 51)).alloc (.cells (flat4 [o.it]).toArray 51)).drew (W5.heap.size + 1) 51 (flat4 [o.it]).toArray := by
                    have := Blk.new (W5.alloc (.cells #[] 51)) 51 (flat4 [o.it]).toArray
                    exact Blk.drew (by simpa using this)
                  refine hK _ _ (fun X => Ext W5 X) (hE8) (fun _ h => h) ?_
                  clear hK K
                  try simp only [Act.put, List.setIfInBounds_toArray, List.set_cons_succ, List.set_cons_zero]
                  refine steps_end ?_
                  refine walkP_seg ?_
                  simp only [List.filterMap_cons, List.filterMap_nil, List.getElem?_cons_zero, List.getElem?_cons_succ]
                  refine steps_want rfl (fun K hK => ?_)
                  refine wp_append_new _ _ 46 rfl 51 i0 (.agg #[.int .i64 0, .int .i64 0, .int .i64 0, .int .i64 0]) 4 32 Try.underlying46 hi0 hz0 hz1 hz2 rfl (by decide) (.slice (some ⟨W5.heap.size, 0, none⟩) 0 0) 0 [] rfl (World.ownsRow.drew (hlit.alloc _)) pv l.length cv (flat4 l) rfl hlN (row_nil hrow) (row_news (ownsRow_ext hrow hE8)) (flat4_one l) (by unfold maxLen; omega) (by omega) ?_
                  intro v7 w7 hown7 hg7 hf7
                  obtain ⟨hE7, hb7⟩ := fresh_ext hE8 hlb hg7 hf7
                  have hB8 := hB8'.of_eq (hg7.block _ hB8'.lt (by simp [Value.ownBlock]))
                  clear hB8'
                  refine hK _ _ (fun X => Ext W5 X) (hE7) (fun _ h => h) ?_
                  clear hK K
                  try simp only [Act.put, List.setIfInBounds_toArray, List.set_cons_succ, List.set_cons_zero]
                  refine steps_want rfl (fun K hK => ?_)
                  refine wp_append_new _ _ 46 rfl 51 i0 (.agg #[.int .i64 0, .int .i64 0, .int .i64 0, .int .i64 0]) 4 32 Try.underlying46 hi0 hz0 hz1 hz2 rfl (by decide) v7 _ _ rfl hown7 (some ⟨(W5.heap.size + 1), 0, none⟩) 1 1 (flat4 [o.it]) rfl rfl (fun h => nomatch h) (news_blk hB8) (flat4_one _) (by unfold maxLen; omega) (by omega) ?_
                  intro v9 w9 hown9 hg9 hf9
                  obtain ⟨hE9, hb9⟩ := fresh_ext hE7 hb7 hg9 hf9
                  have hownF : w9.ownsRow W5.heap.size 51 4 v9 (l ++ [o.it]).length (flat4 (l ++ [o.it])) := by
                    have := ownsRow_base (b' := W5.heap.size) hown9 hb9
                    rw [flat4_append, List.length_append]
                    simpa using this
                  have hY := hX5.third.newrow (.cons (oA_loc _ _) (.cons (qA_loc _ _) .nil)) hE9 hownF
                  refine hK _ _ (fun X => Ext W5 X) (hE9) (fun _ h => h) ?_
                  clear hK K
                  try simp only [Act.put, List.setIfInBounds_toArray, List.set_cons_succ, List.set_cons_zero]
                  clear hown9 hg9 hf9 hown7 hg7 hf7 hlit hB8 hX5 hrow
                  refine steps_quiet 1 (by kernel_rfl) ?_
                  simp only [List.take_succ_cons, List.take_zero, List.drop_succ_cons, List.drop_zero]
                  repeat (go_big_quiet_step (fail))
                  refine wpQuiet_nil ?_
                  refine steps_end ?_
                  refine walkP_done ?_
                  go_wp2_with fail
                  go_meet
                  exact ⟨_, by simp; omega, hY.third.third⟩
              · refine steps_want rfl (fun K hK => ?_)
                go_simp
                refine hK _ _ (fun X => Ext W5 X) ((show Ext W5 (W5.alloc (.cells (flat4 [o.it]).toArray 51)).drew from (ext_alloc _ _).drew)) (fun _ h => h) ?_
                clear hK K
                try simp only [Act.put, List.setIfInBounds_toArray, List.set_cons_succ, List.set_cons_zero]
                refine steps_end ?_
                refine walkP_seg ?_
                simp only [List.filterMap_cons, List.filterMap_nil, List.getElem?_cons_zero, List.getElem?_cons_succ]
                refine steps_want rfl (fun K hK => ?_)
                go_simp
                have hlit : ((W5.alloc (.cells (flat4 [o.it]).toArray 51)).alloc (.cells #[] 51)).drew.ownsRow 0 51 4 (.slice (some ⟨W5.heap.size + 1, 0, none⟩) 0 0) 0 [] := by
                  have := World.ownsRow_made (base := 0) (e := 51) (size := 4) (W5.alloc (.cells (flat4 [o.it]).toArray 51)) #[] 0 (Nat.zero_le _) (by simp) rfl
                  exact World.ownsRow.drew (by simpa using this)
                have hlb : ∀ k, (Value.slice (some ⟨W5.heap.size + 1, 0, none⟩) 0 0).ownBlock = some k → W5.heap.size ≤ k := fun k hk => by
                  have : W5.heap.size + 1 = k := by simpa [Value.ownBlock] using hk
                  omega
                have hE8 : Ext W5 ((W5.alloc (.cells (flat4 [o.it]).toArray 51)).alloc (.cells #[] 51)).drew := ((ext_alloc _ _).alloc _).drew
                have hB8' : Blk ((W5.alloc (.cells (flat4 [o.it]).toArray 51)).alloc (.cells #[] 51)).drew W5.heap.size 51 (flat4 [o.it]).toArray := ((Blk.new _ _ _).alloc _).drew
                refine hK _ _ (fun X => Ext W5 X) (hE8) (fun _ h => h) ?_
                clear hK K
                try simp only [Act.put, List.setIfInBounds_toArray, List.set_cons_succ, List.set_cons_zero]
                refine steps_want rfl (fun K hK => ?_)
                refine wp_append_new _ _ 46 rfl 51 i0 (.agg #[.int .i64 0, .int .i64 0, .int .i64 0, .int .i64 0]) 4 32 Try.underlying46 hi0 hz0 hz1 hz2 rfl (by decide) (.slice (some ⟨W5.heap.size + 1, 0, none⟩) 0 0) 0 [] rfl hlit pv l.length cv (flat4 l) rfl hlN (row_nil hrow) (row_news (ownsRow_ext hrow hE8)) (flat4_one l) (by unfold maxLen; omega) (by omega) ?_
                intro v7 w7 hown7 hg7 hf7
                obtain ⟨hE7, hb7⟩ := fresh_ext hE8 hlb hg7 hf7
                have hB8 := hB8'.of_eq (hg7.block _ hB8'.lt (by simp [Value.ownBlock]))
                clear hB8'
                refine hK _ _ (fun X => Ext W5 X) (hE7) (fun _ h => h) ?_
                clear hK K
                try simp only [Act.put, List.setIfInBounds_toArray, List.set_cons_succ, List.set_cons_zero]
                refine steps_want rfl (fun K hK => ?_)
                refine wp_append_new _ _ 46 rfl 51 i0 (.agg #[.int .i64 0, .int .i64 0, .int .i64 0, .int .i64 0]) 4 32 Try.underlying46 hi0 hz0 hz1 hz2 rfl (by decide) v7 _ _ rfl hown7 (some ⟨W5.heap.size, 0, none⟩) 1 1 (flat4 [o.it]) rfl rfl (fun h => nomatch h) (news_blk hB8) (flat4_one _) (by unfold maxLen; omega) (by omega) ?_
                intro v9 w9 hown9 hg9 hf9
                obtain ⟨hE9, hb9⟩ := fresh_ext hE7 hb7 hg9 hf9
                have hownF : w9.ownsRow W5.heap.size 51 4 v9 (l ++ [o.it]).length (flat4 (l ++ [o.it])) := by
                  have := ownsRow_base (b' := W5.heap.size) hown9 hb9
                  rw [flat4_append, List.length_append]
                  simpa using this
                have hY := hX5.third.newrow (.cons (oA_loc _ _) (.cons (qA_loc _ _) .nil)) hE9 hownF
                refine hK _ _ (fun X => Ext W5 X) (hE9) (fun _ h => h) ?_
                clear hK K
                try simp only [Act.put, List.setIfInBounds_toArray, List.set_cons_succ, List.set_cons_zero]
                clear hown9 hg9 hf9 hown7 hg7 hf7 hlit hB8 hX5 hrow
                refine steps_quiet 1 (by kernel_rfl) ?_
                simp only [List.take_succ_cons, List.take_zero, List.drop_succ_cons, List.drop_zero]
                repeat (go_big_quiet_step (fail))
                refine wpQuiet_nil ?_
                refine steps_end ?_
                refine walkP_done ?_
                go_wp2_with fail
                go_meet
                exact ⟨_, by simp; omega, hY.third.third⟩
        · rw [hk] at b0
          by_cases h1 : 0 < l.length
          · as_aux_lemma =>
            generalize findI l o.run o.tk o.id = at0 at *
            obtain ⟨x, t, rfl⟩ : ∃ x t, l = x :: t := by cases l; simp at h1; exact ⟨_, _, rfl⟩
            go_wp2_with fail
            refine (hX4.swap.act (.cons (oA_loc _ _) (.cons (lA_loc _ _) .nil)) fun F h => q_take_yes h).mono ?_
            rintro e w5 ⟨rfl, hX5⟩
            clear b0 b1 b2 b3 b4 hbl hX4
            obtain ⟨Fl2, hFl2⟩ := hX5.third.head
            have hrow := hFl2.1
            obtain ⟨gl, rfl, -, hgl, y0, y1, y2, y3⟩ := flat4_cell (pre := []) rfl hFl2.1
            simp only [List.length_nil, Nat.zero_mul, Nat.zero_add] at y0 y1 y2 y3
            clear hFl2
            have Y0 := Lib.hid (fun (X : World) (hE : Ext w5 X) => (hE.cell gl 0 hgl).trans y0)
            have Y1 := Lib.hid (fun (X : World) (hE : Ext w5 X) => (hE.cell gl 1 hgl).trans y1)
            have Y2 := Lib.hid (fun (X : World) (hE : Ext w5 X) => (hE.cell gl 2 hgl).trans y2)
            clear y0 y1 y2 y3
            go_upto_region 24 with fail
            have hE6 := ext_alloc w5 (.cells #[.int .i64 x.run, .int .i64 x.kind, .int .i64 x.id] 32)
            have hB6 := Blk.new w5 32 #[.int .i64 x.run, .int .i64 x.kind, .int .i64 x.id]
            generalize World.alloc w5 _ = W6 at *
            generalize (w5).heap.size = tb at *
            have e0 : ∀ X : Of (fun X => Ext W6 X), X.val.cell? ⟨tb, 0, none⟩ = some (.int .i64 x.run) := fun X => (X.property.cell tb 0 hB6.lt).trans (hB6.cell 0)
            have e1 : ∀ X : Of (fun X => Ext W6 X), X.val.cell? ⟨tb, 1, none⟩ = some (.int .i64 x.kind) := fun X => (X.property.cell tb 1 hB6.lt).trans (hB6.cell 1)
            have e2 : ∀ X : Of (fun X => Ext W6 X), X.val.cell? ⟨tb, 2, none⟩ = some (.int .i64 x.id) := fun X => (X.property.cell tb 2 hB6.lt).trans (hB6.cell 2)
            clear hB6
            have z0 : ∀ X : Of (fun X => Ext W6 X), X.val.cell? ⟨gl, 0, none⟩ = some (.int .i64 x.run) := fun X => Y0.out _ (hE6.trans X.property)
            have z1 : ∀ X : Of (fun X => Ext W6 X), X.val.cell? ⟨gl, 1, none⟩ = some (.int .i64 x.kind) := fun X => Y1.out _ (hE6.trans X.property)
            have z2 : ∀ X : Of (fun X => Ext W6 X), X.val.cell? ⟨gl, 2, none⟩ = some (.int .i64 x.id) := fun X => Y2.out _ (hE6.trans X.property)
            have hFd := (Ext.refl W6).drew
            have hne_ : Nonempty (Of ((fun X => Ext W6 X))) := ⟨⟨_, hFd⟩⟩
            refine region_steps [0,1,2,3,4,5,6,7,8,9,10,11,12,13,14,15,16,17,18,19,20,21,22,23,24] [true,true,true,true,true,true,true,true,true,true,true,true,true,true,true,true,true,true,true,true,true,true,true,true,true] ((fun X => Ext W6 X)) (by kernel_rfl) (by kernel_rfl) hFd ?_
            simp only [List.filterMap_cons, List.filterMap_nil, List.getElem?_cons_zero, List.getElem?_cons_succ]
            refine steps_quiet 25 (by kernel_rfl) ?_
            simp only [List.take_succ_cons, List.take_zero, List.drop_succ_cons, List.drop_zero]
            repeat (go_big_quiet_step (fail))
            refine wpQuiet_nil ?_
            clear e0 e1 e2 z0 z1 z2
            refine steps_nil ?_
            have hX6 := hX5.ext (.cons (qA_loc _ _) (.cons (oA_loc _ _) (.cons (lA_loc _ _) .nil))) (hE6.drew)
            go_wp2_with fail
            obtain ⟨Fl3, hFl3⟩ := hX6.third.head
            refine (without_at (pre := []) (x := x) (post := t) hFl3.1 (by simp at hl ⊢; omega)).mono ?_
            rintro e w7 ⟨⟨v7, rfl, hown7⟩, hE7⟩
            have hY := hX6.third.newrow (l' := t) (.cons (qA_loc _ _) (.cons (oA_loc _ _) .nil)) hE7 hown7
            clear hX6 hFl3 hX5
            go_wp2_with fail
            go_meet
            exact ⟨t, by simp at hl; omega, hY.swap.third⟩
          · as_aux_lemma =>
            generalize findI l o.run o.tk o.id = at0 at *
            obtain rfl : l = [] := by cases l; rfl; simp at h1
            go_wp2_with fail
            refine (hX4.swap.keeps (.cons (qA_loc _ _) (.cons (oA_loc _ _) (.cons (lA_loc _ _) .nil))) fun F h => q_take_no h).mono ?_
            rintro e w5 ⟨rfl, hX5, -⟩
            clear b0 b1 b2 b3 b4 hbl hX4
            go_upto_region 24 with fail
            have hE6 := ext_alloc w5 (.cells #[.int .i64 0, .int .i64 0, .int .i64 0] 32)
            have hB6 := Blk.new w5 32 #[.int .i64 0, .int .i64 0, .int .i64 0]
            generalize World.alloc w5 _ = W6 at *
            generalize (w5).heap.size = tb at *
            have e0 : ∀ X : Of (fun X => Ext W6 X), X.val.cell? ⟨tb, 0, none⟩ = some (.int .i64 0) := fun X => (X.property.cell tb 0 hB6.lt).trans (hB6.cell 0)
            have e1 : ∀ X : Of (fun X => Ext W6 X), X.val.cell? ⟨tb, 1, none⟩ = some (.int .i64 0) := fun X => (X.property.cell tb 1 hB6.lt).trans (hB6.cell 1)
            have e2 : ∀ X : Of (fun X => Ext W6 X), X.val.cell? ⟨tb, 2, none⟩ = some (.int .i64 0) := fun X => (X.property.cell tb 2 hB6.lt).trans (hB6.cell 2)
            clear hB6
            have hFd := (Ext.refl W6).drew
            have hne_ : Nonempty (Of ((fun X => Ext W6 X))) := ⟨⟨_, hFd⟩⟩
            refine region_steps [0,1,2,3,4,5,6,7,8,9,10,11,12,13,14,15,16,17,18,19,20,21,22,23,24] [true,true,true,true,true,true,true,true,true,true,true,true,true,true,true,true,true,true,true,true,true,true,true,true,true] ((fun X => Ext W6 X)) (by kernel_rfl) (by kernel_rfl) hFd ?_
            simp only [List.filterMap_cons, List.filterMap_nil, List.getElem?_cons_zero, List.getElem?_cons_succ]
            refine steps_quiet 25 (by kernel_rfl) ?_
            simp only [List.take_succ_cons, List.take_zero, List.drop_succ_cons, List.drop_zero]
            repeat (go_big_quiet_step (fail))
            refine wpQuiet_nil ?_
            clear e0 e1 e2
            refine steps_nil ?_
            go_wp2_with fail
            go_meet
            exact ⟨[], by simp, (hX5.swap.ext (.cons (oA_loc _ _) (.cons (qA_loc _ _) (.cons (lA_loc _ _) .nil))) (hE6.drew))⟩
        · rw [hk] at b0
          rcases Bool.eq_false_or_eq_true (l.any (isK · o.run o.tk o.id)) with hin | hin
          · as_aux_lemma =>
            obtain ⟨Fq, hFq⟩ := hX4.swap.head
            have hap := (q_apart hFq).1
            generalize hL : l.length = L at *
            obtain ⟨pre, x, post, rfl, hn, hx⟩ := split_first hin
            have HL := Lib.hid hL
            clear hL
            rw [findI_hit hn hx]
            obtain ⟨h1, h2, h3⟩ := isK_iff.1 hx
            have hoth : others (pre ++ x :: post) o.run o.tk o.id = pre ++ post := by rw [← h1, ← h2, ← h3]; exact others_at hap
            have HO := Lib.hid hoth
            have HIN := Lib.hid hin
            clear hoth h1 h2 h3 hx hn hap hFq hin
            go_wp2_with fail
            refine (hX4.swap.act (.cons (oA_loc _ _) (.cons (lA_loc _ _) .nil)) fun F h => q_remove h o.run o.tk o.id hok.key).mono ?_
            rw [HIN.out, HO.out]
            rintro e w5 ⟨rfl, hX5⟩
            clear b0 b1 b2 b3 b4 hbl hX4
            go_wp2_with fail
            obtain ⟨Fl3, hFl3⟩ := hX5.third.head
            refine (without_at (pre := pre) (x := x) (post := post) hFl3.1 (by rw [HL.out]; omega)).mono ?_
            rintro e w7 ⟨⟨v7, rfl, hown7⟩, hE7⟩
            have hY := hX5.third.newrow (l' := pre ++ post) (.cons (qA_loc _ _) (.cons (oA_loc _ _) .nil)) hE7 hown7
            clear hX5 hFl3
            go_wp2_with fail
            go_meet
            exact ⟨pre ++ post, by have := HL.out; simp at this ⊢; omega, hY.swap.third⟩
          · as_aux_lemma =>
            rw [findI_none hin]
            have hoth := others_none hin
            go_wp2_with fail
            refine (hX4.swap.act (.cons (oA_loc _ _) (.cons (lA_loc _ _) .nil)) fun F h => q_remove h o.run o.tk o.id hok.key).mono ?_
            rw [hin, hoth]
            rintro e w5 ⟨rfl, hX5⟩
            clear b0 b1 b2 b3 b4 hbl hX4 hoth
            go_wp2_with fail
            refine (without_no _).mono ?_
            rintro e w6 ⟨rfl, rfl⟩
            go_wp2_with fail
            go_meet
            exact ⟨l, hl, hX5.swap⟩
        · rw [hk] at b0
          as_aux_lemma =>
          rw [hk]
          clear hk
          generalize findI l o.run o.tk o.id = at0 at *
          generalize hL : l.length = L at *
          have HL := Lib.hid hL
          clear hL
          go_wp2_with fail
          have hN : Has w w4 [oA bx o, qA q l, lA (.slice pv L cv) l, lA (.slice none 0 0) []] := (l_new (q := 0) hX4 (.cons (oA_loc _ _) (.cons (qA_loc _ _) (.cons (lA_loc _ _) .nil)))).perm (List.perm_append_comm (l₁ := [lA (.slice none 0 0) []]) (l₂ := [oA bx o, qA q l, lA (.slice pv L cv) l]))
          clear b0 b1 b2 b3 b4 hbl hX4
          go_loopw [11, 114] (fun v k wr => PlRel3 w q bx o (.slice pv L cv) l v k wr) (fun _ k _ => ((L : Int) + 1 - intOf k).toNat)
          case atStart => exact ⟨[], l, rfl, rfl, hN⟩
          case round =>
            clear hN
            obtain ⟨pre, post, hll, rfl, hH⟩ := hrel
            obtain ⟨Fv, hFv⟩ := hH.fourth.head
            obtain ⟨pw, cw, rfl⟩ := ownsRow_slice hFv.1
            have hleft := hFv.1
            have hrl := rest_le o.run pre
            have hpl : pre.length + post.length = L := by rw [← HL.out, hll]; simp
            clear hFv
            obtain ⟨Fo, hFo⟩ := (hH).head
            have b0 := hFo.1.cell 0
            have b1 := hFo.1.cell 1
            have b2 := hFo.1.cell 2
            have b3 := hFo.1.cell 3
            have b4 := hFo.1.cell 4
            have hbl := hFo.1.lt
            simp only [Opn.cells, List.getElem?_toArray, List.getElem?_cons_zero, List.getElem?_cons_succ] at b0 b1 b2 b3 b4
            clear hFo
            cases post with
            | nil =>
              have hx : l = pre := by simpa using hll
              subst hx
              have hpL : ((l.length : Int)) = L := by have := HL.out; omega
              have hnl : ¬ ((l.length : Int) < L) := by omega
              have HP := Lib.hid hpL
              clear hll hpL hpl
              generalize hR : (restIt o.run l).length = R at *
              have HR := Lib.hid hR
              clear hR
              go_wp2_with fail
              have hRL : R ≤ L := by have := HP.out; omega
              refine (hH.swap.act (.cons (oA_loc _ _) (.cons (lA_loc _ _) (.cons (lA_loc _ _) .nil))) fun F h => q_drop h o.run (by have := HP.out; omega)).mono ?_
              rw [HP.out, HR.out]
              rintro e w5 ⟨rfl, hX5⟩
              have hX6 := hX5.swap.third.drop
              clear b0 b1 b2 b3 b4 hbl hX5 hH
              go_wp2_with fail
              go_meet
              exact ⟨_, by rw [HR.out]; omega, hX6⟩
            | cons x post =>
              have hlt : (pre.length : Int) < L := by simp at hpl; omega
              obtain ⟨Fr, hFr⟩ := hH.third.head
              have hrow := hFr.1
              rw [hll] at hrow
              have HLL := Lib.hid hll
              obtain ⟨gl, rfl, -, hgl, y0, y1, y2, y3⟩ := flat4_cell (L := L) (by rw [← HL.out, hll]) (show wr.ownsRow 0 51 4 (.slice pv L cv) L (flat4 (pre ++ x :: post)) by have := HL.out; rw [hll] at this; rw [this] at hrow; exact hrow)
              clear hrow hFr hll hpl
              by_cases hr : x.run = o.run
              · have e1 : (x.run != o.run) = false := by simp [hr]
                have HR := Lib.hid hr
                clear hr
                go_wp2_with fail
                exact ⟨⟨pre ++ [x], post, by simp [HLL.out], by simp, by rw [rest_snoc_in _ _ _ HR.out]; exact hH.ext (.cons (oA_loc _ _) (.cons (qA_loc _ _) (.cons (lA_loc _ _) (.cons (lA_loc _ _) .nil)))) (ext_alloc _ _)⟩, by simp [intOf]; omega⟩
              · have e1 : (x.run != o.run) = true := by simp [hr]
                have HR := Lib.hid hr
                clear hr
                obtain ⟨i0, hi0, hz0, hz1, hz2⟩ := info_parts heldInfo
                have hlN := flat4_length (restIt o.run pre)
                have hB8 : Blk ((wr.alloc (.cells #[.int .i64 x.run, .int .i64 x.kind, .int .i64 x.id, .int .i64 x.since] 51)).alloc (.cells (flat4 [x]).toArray 51)) (wr.heap.size + 1) 51 (flat4 [x]).toArray := by
                  have := Blk.new (wr.alloc (.cells #[.int .i64 x.run, .int .i64 x.kind, .int .i64 x.id, .int .i64 x.since] 51)) 51 (flat4 [x]).toArray
                  simpa using this
                have hE2 : Ext wr ((wr.alloc (.cells #[.int .i64 x.run, .int .i64 x.kind, .int .i64 x.id, .int .i64 x.since] 51)).alloc (.cells (flat4 [x]).toArray 51)) := (ext_alloc _ _).alloc _
                go_wp2_with (at_builtin; refine wpList_append_new rfl _ _ 46 rfl 51 i0 (.agg #[.int .i64 0, .int .i64 0, .int .i64 0, .int .i64 0]) 4 32 Try.underlying46 hi0 hz0 hz1 hz2 rfl (by decide) (.slice pw (restIt o.run pre).length cw) (restIt o.run pre).length (flat4 (restIt o.run pre)) rfl ((hleft.alloc _).alloc _) (some ⟨wr.heap.size + 1, 0, none⟩) 1 1 (flat4 [x]) rfl rfl (fun h => nomatch h) (news_blk hB8) (flat4_one _) (by unfold maxLen; omega) (by omega) ?_)
                intro v' w3 hown3 hg3 hf3
                have ho : w3.ownsRow 0 51 4 v' (restIt o.run pre ++ [x]).length (flat4 (restIt o.run pre ++ [x])) := by
                  rw [flat4_append, List.length_append]; exact hown3
                have hX := hH.fourth.next (.cons (oA_loc _ _) (.cons (qA_loc _ _) (.cons (lA_loc _ _) .nil))) fun F h => row_next h hE2 hg3 hf3 ho
                have hX2 := hX.perm (List.perm_append_comm (l₁ := [lA v' (restIt o.run pre ++ [x])]) (l₂ := [oA bx o, qA q l, lA (.slice (some ⟨gl, 0, none⟩) L cv) l]))
                clear hX hH hown3 hg3 hf3 ho hB8 hE2 hleft y0 y1 y2 y3 b0 b1 b2 b3 b4
                go_wp2_with fail
                exact ⟨⟨pre ++ [x], post, by simp [HLL.out], by simp, by rw [rest_snoc_out _ _ _ HR.out]; exact hX2⟩, by simp [intOf]; omega⟩
        · as_aux_lemma =>
          have j0 : (o.kind == 0) = false := by simp; omega
          have j1 : (o.kind == 1) = false := by simp; omega
          have j2 : (o.kind == 2) = false := by simp; omega
          have j3 : (o.kind == 3) = false := by simp; omega
          go_wp2_with fail
          go_meet
          exact ⟨l, hl, hX4⟩
      case rest =>
        obtain ⟨l2, hl2, hX⟩ := hcut
        clear hl hX4 b0 b1 b2 b3 b4 hbl
        obtain ⟨Fl4, hFl4⟩ := hX.third.head
        obtain ⟨pv2, cv2, rfl⟩ := ownsRow_slice hFl4.1
        clear hFl4
        obtain ⟨Fq4, hFq4⟩ := hX.swap.head
        have hap := q_apart hFq4
        clear hFq4
        generalize hL : l2.length = L at *
        have HL := Lib.hid hL
        clear hL
        have HAP := Lib.hid hap
        clear hap
        go_wp2_with fail
        obtain ⟨Fq5, hFq5⟩ := hX.swap.head
        refine (q_list hFq5 (by rw [HL.out]; omega)).mono ?_
        rintro e w5 ⟨⟨vg, rfl, hown⟩, hE5⟩
        have hT : Has w w5 [tA vg l2, qA q l2, oA bx o, lA (.slice pv2 L cv2) l2] := hX.swap.add (.cons (qA_loc _ _) (.cons (oA_loc _ _) (.cons (lA_loc _ _) .nil))) hE5 (p := tA vg l2) (F := fun k => vg.ownBlock = some k) ⟨ownsRow_base hown (fun _ _ => Nat.zero_le _), rfl⟩ (fun k hk => (hown.lt k hk).1)
        rw [HL.out] at hown
        obtain ⟨pg, cg, rfl⟩ := ownsRow_slice hown
        clear hX hown hE5 hFq5
        have LT : ∀ {a : Value}, Locs [qA q l2, tA a l2, oA bx o, lA (.slice pv2 L cv2) l2] := .cons (qA_loc _ _) (.cons (tA_loc _ _) (.cons (oA_loc _ _) (.cons (lA_loc _ _) .nil)))
        go_wp2_with fail
        refine (hT.swap.keeps LT fun F h => q_len h).mono ?_
        rw [HL.out]
        rintro e w6 ⟨rfl, hT6', -⟩
        have hT6 := hT6'.swap
        clear hT hT6'
        go_wp2_with fail
        go_loopw [155] (fun k wr => PlRel5 w q bx o (.slice pg L cg) (.slice pv2 L cv2) l2 k wr) (fun k _ => ((L : Int) + 1 - intOf k).toNat)
        case atStart => exact ⟨[], l2, rfl, rfl, hT6⟩
        case round =>
          clear hT6
          obtain ⟨pre, post, hll, rfl, hH⟩ := hrel
          have hpl : pre.length + post.length = L := by rw [← HL.out, hll]; simp
          cases post with
          | nil =>
            have hx : l2 = pre := by simpa using hll
            subst hx
            have hpL : ((l2.length : Int)) = L := by have := HL.out; omega
            have hnl : ¬ ((l2.length : Int) < L) := by omega
            clear hll hpL hpl
            as_aux_lemma =>
            have hX := hH.drop.swap
            clear hH HAP
            obtain ⟨Fo, hFo⟩ := (hX).head
            have b0 := hFo.1.cell 0
            have b1 := hFo.1.cell 1
            have b2 := hFo.1.cell 2
            have b3 := hFo.1.cell 3
            have b4 := hFo.1.cell 4
            have hbl := hFo.1.lt
            simp only [Opn.cells, List.getElem?_toArray, List.getElem?_cons_zero, List.getElem?_cons_succ] at b0 b1 b2 b3 b4
            clear hFo
            go_wp2_with fail
            refine (hX.third.keeps (.cons (lA_loc _ _) (.cons (oA_loc _ _) (.cons (qA_loc _ _) .nil))) fun F h => find_any h.1 (by rw [HL.out]; omega) o.run o.tk o.id).mono ?_
            rintro e w7 ⟨rfl, hX7', -⟩
            have hX7 := hX7'.third.third
            clear b0 b1 b2 b3 b4 hbl hX hX7'
            obtain ⟨Fo, hFo⟩ := (hX7).head
            have b0 := hFo.1.cell 0
            have b1 := hFo.1.cell 1
            have b2 := hFo.1.cell 2
            have b3 := hFo.1.cell 3
            have b4 := hFo.1.cell 4
            have hbl := hFo.1.lt
            simp only [Opn.cells, List.getElem?_toArray, List.getElem?_cons_zero, List.getElem?_cons_succ] at b0 b1 b2 b3 b4
            clear hFo
            rcases Bool.eq_false_or_eq_true (l2.any (isK · o.run o.tk o.id)) with hin | hin
            · have hat := findI_pos hin
              generalize findI l2 o.run o.tk o.id = at1 at *
              go_wp2_with fail
              refine (hX7.swap.keeps (.cons (qA_loc _ _) (.cons (oA_loc _ _) (.cons (lA_loc _ _) .nil))) fun F h => q_has h o.run o.tk o.id hok.key).mono ?_
              rw [hin]
              rintro e w8 ⟨rfl, hX8', -⟩
              have hX8 := hX8'.swap
              clear hX7 hX8' hin
              clear b0 b1 b2 b3 b4 hbl
              go_wp2_with fail
              cases l2 with
              | nil =>
                have hL0 : ¬ ((0 : Int) < L) := by have := HL.out; simp at this; omega
                have hL1 : ¬ (0 < L) := by have := HL.out; simp at this; omega
                refine (hX8.swap.keeps (.cons (qA_loc _ _) (.cons (oA_loc _ _) (.cons (lA_loc _ _) .nil))) fun F h => q_first_no h).mono ?_
                rintro e w9 ⟨rfl, hX9, -⟩
                go_upto_region 57 with fail
                have hE6 := ext_alloc w9 (.cells #[.int .i64 0, .int .i64 0, .int .i64 0] 32)
                have hB6 := Blk.new w9 32 #[.int .i64 0, .int .i64 0, .int .i64 0]
                generalize World.alloc w9 _ = W6 at *
                generalize (w9).heap.size = tb at *
                have e0 : ∀ X : Of (fun X => Ext W6 X), X.val.cell? ⟨tb, 0, none⟩ = some (.int .i64 0) := fun X => (X.property.cell tb 0 hB6.lt).trans (hB6.cell 0)
                have e1 : ∀ X : Of (fun X => Ext W6 X), X.val.cell? ⟨tb, 1, none⟩ = some (.int .i64 0) := fun X => (X.property.cell tb 1 hB6.lt).trans (hB6.cell 1)
                have e2 : ∀ X : Of (fun X => Ext W6 X), X.val.cell? ⟨tb, 2, none⟩ = some (.int .i64 0) := fun X => (X.property.cell tb 2 hB6.lt).trans (hB6.cell 2)
                clear hB6
                have hFd := (Ext.refl W6).drew
                have hne_ : Nonempty (Of ((fun X => Ext W6 X))) := ⟨⟨_, hFd⟩⟩
                refine region_steps [0,1,2,3,4,5,6,7,8,9,10,11,12,13,14,15,16,17,18,19,20,21,22,23] [true,true,true,true,true,true,true,true,true,true,true,true,true,true,true,true,true,true,true,true,true,true,true,true] ((fun X => Ext W6 X)) (by kernel_rfl) (by kernel_rfl) hFd ?_
                simp only [List.filterMap_cons, List.filterMap_nil, List.getElem?_cons_zero, List.getElem?_cons_succ]
                refine steps_quiet 24 (by kernel_rfl) ?_
                simp only [List.take_succ_cons, List.take_zero, List.drop_succ_cons, List.drop_zero]
                repeat (go_big_quiet_step (fail))
                refine wpQuiet_nil ?_
                clear e0 e1 e2
                refine steps_nil ?_
                have hX10 := hX9.swap.ext (.cons (oA_loc _ _) (.cons (qA_loc _ _) (.cons (lA_loc _ _) .nil))) (hE6.drew)
                clear hX9 hX8 hE6
                go_wp2_with fail
                exact ⟨⟨i + 1, _, by omega, by go_num, by rw [HL.out]; exact hl2, (hX10).drop⟩, by simp [intOf]; omega⟩
              | cons x t =>
                have hL0 : ((0 : Int) < L) := by have := HL.out; simp at this; omega
                have hL1 : (0 < L) := by have := HL.out; simp at this; omega
                refine (hX8.swap.keeps (.cons (qA_loc _ _) (.cons (oA_loc _ _) (.cons (lA_loc _ _) .nil))) fun F h => q_first_yes h).mono ?_
                rintro e w9 ⟨rfl, hX9, -⟩
                obtain ⟨Fr, hFr⟩ := hX9.third.head
                obtain ⟨gl, rfl, -, hgl, y0, y1, y2, y3⟩ := flat4_cell (pre := []) (L := L) (e := x) (post := t) (by rw [← HL.out]; rfl) (show w9.ownsRow 0 51 4 (.slice pv2 L cv2) L (flat4 ([] ++ x :: t)) by have := hFr.1; rw [HL.out] at this; exact this)
                simp only [List.length_nil, Nat.zero_mul, Nat.zero_add] at y0 y1 y2 y3
                clear hFr
                have Y0 := Lib.hid (fun (X : World) (hE : Ext w9 X) => (hE.cell gl 0 hgl).trans y0)
                have Y1 := Lib.hid (fun (X : World) (hE : Ext w9 X) => (hE.cell gl 1 hgl).trans y1)
                have Y2 := Lib.hid (fun (X : World) (hE : Ext w9 X) => (hE.cell gl 2 hgl).trans y2)
                have Y3 := Lib.hid (fun (X : World) (hE : Ext w9 X) => (hE.cell gl 3 hgl).trans y3)
                clear y0 y1 y2 y3 hgl
                go_upto_region 57 with fail
                have hE6 := ext_alloc w9 (.cells #[.int .i64 x.run, .int .i64 x.kind, .int .i64 x.id] 32)
                have hB6 := Blk.new w9 32 #[.int .i64 x.run, .int .i64 x.kind, .int .i64 x.id]
                generalize World.alloc w9 _ = W6 at *
                generalize (w9).heap.size = tb at *
                have e0 : ∀ X : Of (fun X => Ext W6 X), X.val.cell? ⟨tb, 0, none⟩ = some (.int .i64 x.run) := fun X => (X.property.cell tb 0 hB6.lt).trans (hB6.cell 0)
                have e1 : ∀ X : Of (fun X => Ext W6 X), X.val.cell? ⟨tb, 1, none⟩ = some (.int .i64 x.kind) := fun X => (X.property.cell tb 1 hB6.lt).trans (hB6.cell 1)
                have e2 : ∀ X : Of (fun X => Ext W6 X), X.val.cell? ⟨tb, 2, none⟩ = some (.int .i64 x.id) := fun X => (X.property.cell tb 2 hB6.lt).trans (hB6.cell 2)
                clear hB6
                have z0 : ∀ X : Of (fun X => Ext W6 X), X.val.cell? ⟨gl, 0, none⟩ = some (.int .i64 x.run) := fun X => Y0.out _ (hE6.trans X.property)
                have z1 : ∀ X : Of (fun X => Ext W6 X), X.val.cell? ⟨gl, 1, none⟩ = some (.int .i64 x.kind) := fun X => Y1.out _ (hE6.trans X.property)
                have z2 : ∀ X : Of (fun X => Ext W6 X), X.val.cell? ⟨gl, 2, none⟩ = some (.int .i64 x.id) := fun X => Y2.out _ (hE6.trans X.property)
                have z3 : ∀ X : Of (fun X => Ext W6 X), X.val.cell? ⟨gl, 3, none⟩ = some (.int .i64 x.since) := fun X => Y3.out _ (hE6.trans X.property)
                have hFd := (Ext.refl W6).drew
                have hne_ : Nonempty (Of ((fun X => Ext W6 X))) := ⟨⟨_, hFd⟩⟩
                refine region_steps [0,1,2,3,4,5,6,7,8,9,10,11,12,13,14,15,16,17,18,19,20,21,22,23] [true,true,true,true,true,true,true,true,true,true,true,true,true,true,true,true,true,true,true,true,true,true,true,true] ((fun X => Ext W6 X)) (by kernel_rfl) (by kernel_rfl) hFd ?_
                simp only [List.filterMap_cons, List.filterMap_nil, List.getElem?_cons_zero, List.getElem?_cons_succ]
                refine steps_quiet 24 (by kernel_rfl) ?_
                simp only [List.take_succ_cons, List.take_zero, List.drop_succ_cons, List.drop_zero]
                repeat (go_big_quiet_step (fail))
                refine wpQuiet_nil ?_
                clear e0 e1 e2 z0 z1 z2 z3
                refine steps_nil ?_
                have hX10 := hX9.swap.ext (.cons (oA_loc _ _) (.cons (qA_loc _ _) (.cons (lA_loc _ _) .nil))) (hE6.drew)
                clear hX9 hX8 hE6
                go_wp2_with fail
                exact ⟨⟨i + 1, _, by omega, by go_num, by rw [HL.out]; exact hl2, (hX10).drop⟩, by simp [intOf]; omega⟩
            · rw [findI_none hin]
              go_wp2_with fail
              refine (hX7.swap.keeps (.cons (qA_loc _ _) (.cons (oA_loc _ _) (.cons (lA_loc _ _) .nil))) fun F h => q_has h o.run o.tk o.id hok.key).mono ?_
              rw [hin]
              rintro e w8 ⟨rfl, hX8', -⟩
              have hX8 := hX8'.swap
              clear hX7 hX8' hin
              clear b0 b1 b2 b3 b4 hbl
              go_wp2_with fail
              cases l2 with
              | nil =>
                have hL0 : ¬ ((0 : Int) < L) := by have := HL.out; simp at this; omega
                have hL1 : ¬ (0 < L) := by have := HL.out; simp at this; omega
                refine (hX8.swap.keeps (.cons (qA_loc _ _) (.cons (oA_loc _ _) (.cons (lA_loc _ _) .nil))) fun F h => q_first_no h).mono ?_
                rintro e w9 ⟨rfl, hX9, -⟩
                go_upto_region 57 with fail
                have hE6 := ext_alloc w9 (.cells #[.int .i64 0, .int .i64 0, .int .i64 0] 32)
                have hB6 := Blk.new w9 32 #[.int .i64 0, .int .i64 0, .int .i64 0]
                generalize World.alloc w9 _ = W6 at *
                generalize (w9).heap.size = tb at *
                have e0 : ∀ X : Of (fun X => Ext W6 X), X.val.cell? ⟨tb, 0, none⟩ = some (.int .i64 0) := fun X => (X.property.cell tb 0 hB6.lt).trans (hB6.cell 0)
                have e1 : ∀ X : Of (fun X => Ext W6 X), X.val.cell? ⟨tb, 1, none⟩ = some (.int .i64 0) := fun X => (X.property.cell tb 1 hB6.lt).trans (hB6.cell 1)
                have e2 : ∀ X : Of (fun X => Ext W6 X), X.val.cell? ⟨tb, 2, none⟩ = some (.int .i64 0) := fun X => (X.property.cell tb 2 hB6.lt).trans (hB6.cell 2)
                clear hB6
                have hFd := (Ext.refl W6).drew
                have hne_ : Nonempty (Of ((fun X => Ext W6 X))) := ⟨⟨_, hFd⟩⟩
                refine region_steps [0,1,2,3,4,5,6,7,8,9,10,11,12,13,14,15,16,17,18,19,20,21,22,23] [true,true,true,true,true,true,true,true,true,true,true,true,true,true,true,true,true,true,true,true,true,true,true,true] ((fun X => Ext W6 X)) (by kernel_rfl) (by kernel_rfl) hFd ?_
                simp only [List.filterMap_cons, List.filterMap_nil, List.getElem?_cons_zero, List.getElem?_cons_succ]
                refine steps_quiet 24 (by kernel_rfl) ?_
                simp only [List.take_succ_cons, List.take_zero, List.drop_succ_cons, List.drop_zero]
                repeat (go_big_quiet_step (fail))
                refine wpQuiet_nil ?_
                clear e0 e1 e2
                refine steps_nil ?_
                have hX10 := hX9.swap.ext (.cons (oA_loc _ _) (.cons (qA_loc _ _) (.cons (lA_loc _ _) .nil))) (hE6.drew)
                clear hX9 hX8 hE6
                go_wp2_with fail
                exact ⟨⟨i + 1, _, by omega, by go_num, by rw [HL.out]; exact hl2, (hX10).drop⟩, by simp [intOf]; omega⟩
              | cons x t =>
                have hL0 : ((0 : Int) < L) := by have := HL.out; simp at this; omega
                have hL1 : (0 < L) := by have := HL.out; simp at this; omega
                refine (hX8.swap.keeps (.cons (qA_loc _ _) (.cons (oA_loc _ _) (.cons (lA_loc _ _) .nil))) fun F h => q_first_yes h).mono ?_
                rintro e w9 ⟨rfl, hX9, -⟩
                obtain ⟨Fr, hFr⟩ := hX9.third.head
                obtain ⟨gl, rfl, -, hgl, y0, y1, y2, y3⟩ := flat4_cell (pre := []) (L := L) (e := x) (post := t) (by rw [← HL.out]; rfl) (show w9.ownsRow 0 51 4 (.slice pv2 L cv2) L (flat4 ([] ++ x :: t)) by have := hFr.1; rw [HL.out] at this; exact this)
                simp only [List.length_nil, Nat.zero_mul, Nat.zero_add] at y0 y1 y2 y3
                clear hFr
                have Y0 := Lib.hid (fun (X : World) (hE : Ext w9 X) => (hE.cell gl 0 hgl).trans y0)
                have Y1 := Lib.hid (fun (X : World) (hE : Ext w9 X) => (hE.cell gl 1 hgl).trans y1)
                have Y2 := Lib.hid (fun (X : World) (hE : Ext w9 X) => (hE.cell gl 2 hgl).trans y2)
                have Y3 := Lib.hid (fun (X : World) (hE : Ext w9 X) => (hE.cell gl 3 hgl).trans y3)
                clear y0 y1 y2 y3 hgl
                go_upto_region 57 with fail
                have hE6 := ext_alloc w9 (.cells #[.int .i64 x.run, .int .i64 x.kind, .int .i64 x.id] 32)
                have hB6 := Blk.new w9 32 #[.int .i64 x.run, .int .i64 x.kind, .int .i64 x.id]
                generalize World.alloc w9 _ = W6 at *
                generalize (w9).heap.size = tb at *
                have e0 : ∀ X : Of (fun X => Ext W6 X), X.val.cell? ⟨tb, 0, none⟩ = some (.int .i64 x.run) := fun X => (X.property.cell tb 0 hB6.lt).trans (hB6.cell 0)
                have e1 : ∀ X : Of (fun X => Ext W6 X), X.val.cell? ⟨tb, 1, none⟩ = some (.int .i64 x.kind) := fun X => (X.property.cell tb 1 hB6.lt).trans (hB6.cell 1)
                have e2 : ∀ X : Of (fun X => Ext W6 X), X.val.cell? ⟨tb, 2, none⟩ = some (.int .i64 x.id) := fun X => (X.property.cell tb 2 hB6.lt).trans (hB6.cell 2)
                clear hB6
                have z0 : ∀ X : Of (fun X => Ext W6 X), X.val.cell? ⟨gl, 0, none⟩ = some (.int .i64 x.run) := fun X => Y0.out _ (hE6.trans X.property)
                have z1 : ∀ X : Of (fun X => Ext W6 X), X.val.cell? ⟨gl, 1, none⟩ = some (.int .i64 x.kind) := fun X => Y1.out _ (hE6.trans X.property)
                have z2 : ∀ X : Of (fun X => Ext W6 X), X.val.cell? ⟨gl, 2, none⟩ = some (.int .i64 x.id) := fun X => Y2.out _ (hE6.trans X.property)
                have z3 : ∀ X : Of (fun X => Ext W6 X), X.val.cell? ⟨gl, 3, none⟩ = some (.int .i64 x.since) := fun X => Y3.out _ (hE6.trans X.property)
                have hFd := (Ext.refl W6).drew
                have hne_ : Nonempty (Of ((fun X => Ext W6 X))) := ⟨⟨_, hFd⟩⟩
                refine region_steps [0,1,2,3,4,5,6,7,8,9,10,11,12,13,14,15,16,17,18,19,20,21,22,23] [true,true,true,true,true,true,true,true,true,true,true,true,true,true,true,true,true,true,true,true,true,true,true,true] ((fun X => Ext W6 X)) (by kernel_rfl) (by kernel_rfl) hFd ?_
                simp only [List.filterMap_cons, List.filterMap_nil, List.getElem?_cons_zero, List.getElem?_cons_succ]
                refine steps_quiet 24 (by kernel_rfl) ?_
                simp only [List.take_succ_cons, List.take_zero, List.drop_succ_cons, List.drop_zero]
                repeat (go_big_quiet_step (fail))
                refine wpQuiet_nil ?_
                clear e0 e1 e2 z0 z1 z2 z3
                refine steps_nil ?_
                have hX10 := hX9.swap.ext (.cons (oA_loc _ _) (.cons (qA_loc _ _) (.cons (lA_loc _ _) .nil))) (hE6.drew)
                clear hX9 hX8 hE6
                go_wp2_with fail
                exact ⟨⟨i + 1, _, by omega, by go_num, by rw [HL.out]; exact hl2, (hX10).drop⟩, by simp [intOf]; omega⟩
          | cons x post =>
            as_aux_lemma =>
            have hlt : (pre.length : Int) < L := by simp at hpl; omega
            have hmem : x ∈ l2 := by rw [hll]; simp
            have hxok := HAP.out.2 x hmem
            have hfind : l2.find? (isK · x.run x.kind x.id) = some x := by have := HAP.out.1; rw [hll] at this ⊢; exact find_self this
            have hany : l2.any (isK · x.run x.kind x.id) = true := by rw [hll]; exact any_mem
            obtain ⟨Fr, hFr⟩ := hH.fourth.head
            obtain ⟨Ft, hFt⟩ := hH.head
            have hLe : L = (pre ++ x :: post).length := by rw [← HL.out, hll]
            have hrow : wr.ownsRow 0 51 4 (.slice pv2 L cv2) L (flat4 (pre ++ x :: post)) := by
              have := hFr.1
              rw [HL.out] at this
              rw [← hll]; exact this
            have hrowt : wr.ownsRow 0 32 3 (.slice pg L cg) L (flatIt (pre ++ x :: post)) := by
              have := hFt.1
              rw [HL.out] at this
              rw [← hll]; exact this
            obtain ⟨gl, rfl, -, hgl, y0, y1, y2, y3⟩ := flat4_cell hLe hrow
            obtain ⟨gt, rfl, -, hgt, t0, t1, t2⟩ := flatIt_cell hLe hrowt
            have HFI := Lib.hid hfind
            have HAN := Lib.hid hany
            have HLL := Lib.hid hll
            clear hFr hFt hrow hrowt hLe hll hpl hmem hfind hany
            go_upto_region 49 with fail
            have hE6 := ext_alloc wr (.cells #[.int .i64 x.run, .int .i64 x.kind, .int .i64 x.id, .int .i64 x.since] 51)
            have hB6 := Blk.new wr 51 #[.int .i64 x.run, .int .i64 x.kind, .int .i64 x.id, .int .i64 x.since]
            have T0 := Lib.hid (fun (X : World) (hE : Ext wr X) => (hE.cell gt _ hgt).trans t0)
            have T1 := Lib.hid (fun (X : World) (hE : Ext wr X) => (hE.cell gt _ hgt).trans t1)
            have T2 := Lib.hid (fun (X : World) (hE : Ext wr X) => (hE.cell gt _ hgt).trans t2)
            have hH6 := hH.ext (.cons (tA_loc _ _) (.cons (qA_loc _ _) (.cons (oA_loc _ _) (.cons (lA_loc _ _) .nil)))) hE6
            clear y0 y1 y2 y3 t0 t1 t2 hH hgl hgt
            generalize World.alloc wr _ = W6 at *
            generalize wr.heap.size = xb at *
            have e0 := hB6.cell 0
            have e1 := hB6.cell 1
            have e2 := hB6.cell 2
            have e3 := hB6.cell 3
            simp only [List.getElem?_toArray, List.getElem?_cons_zero, List.getElem?_cons_succ] at e0 e1 e2 e3
            go_upto_region 50 with fail
            refine (hH6.swap.keeps LT fun F h => q_since h x.run x.kind x.id x hxok HFI.out).mono ?_
            rintro e W7 ⟨rfl, hH7', hE7⟩
            have hH7 := hH7'.swap
            clear e0 e1 e2 e3 hH6 hH7'
            go_upto_region 50 with fail
            have d0 : ∀ X : Of (fun X => Ext W7 X), X.val.cell? ⟨xb, 0, none⟩ = some (.int .i64 x.run) := fun X => ((hE7.trans X.property).cell xb 0 hB6.lt).trans (hB6.cell 0)
            have d1 : ∀ X : Of (fun X => Ext W7 X), X.val.cell? ⟨xb, 1, none⟩ = some (.int .i64 x.kind) := fun X => ((hE7.trans X.property).cell xb 1 hB6.lt).trans (hB6.cell 1)
            have d2 : ∀ X : Of (fun X => Ext W7 X), X.val.cell? ⟨xb, 2, none⟩ = some (.int .i64 x.id) := fun X => ((hE7.trans X.property).cell xb 2 hB6.lt).trans (hB6.cell 2)
            have d3 : ∀ X : Of (fun X => Ext W7 X), X.val.cell? ⟨xb, 3, none⟩ = some (.int .i64 x.since) := fun X => ((hE7.trans X.property).cell xb 3 hB6.lt).trans (hB6.cell 3)
            have f0 : ∀ X : Of (fun X => Ext W7 X), X.val.cell? ⟨gt, pre.length * 3, none⟩ = some (.int .i64 x.run) := fun X => T0.out _ (hE6.trans (hE7.trans X.property))
            have f1 : ∀ X : Of (fun X => Ext W7 X), X.val.cell? ⟨gt, pre.length * 3 + 1, none⟩ = some (.int .i64 x.kind) := fun X => T1.out _ (hE6.trans (hE7.trans X.property))
            have f2 : ∀ X : Of (fun X => Ext W7 X), X.val.cell? ⟨gt, pre.length * 3 + 2, none⟩ = some (.int .i64 x.id) := fun X => T2.out _ (hE6.trans (hE7.trans X.property))
            have hH8 := hH7.ext (.cons (tA_loc _ _) (.cons (qA_loc _ _) (.cons (oA_loc _ _) (.cons (lA_loc _ _) .nil)))) (Ext.refl W7).drew
            clear hH7 hB6
            have hFd := (Ext.refl W7).drew
            have hne_ : Nonempty (Of ((fun X => Ext W7 X))) := ⟨⟨_, hFd⟩⟩
            refine region_steps [0,1,2,3,4,5,6,7,8,9,10,11,12,13,14,15,16,17,18,19,20,21,22] [true,true,true,true,true,true,true,true,true,true,true,true,true,true,true,true,true,true,true,true,false,true,true] ((fun X => Ext W7 X)) (by kernel_rfl) (by kernel_rfl) hFd ?_
            simp only [List.filterMap_cons, List.filterMap_nil, List.getElem?_cons_zero, List.getElem?_cons_succ]
            refine steps_quiet 20 (by kernel_rfl) ?_
            simp only [List.take_succ_cons, List.take_zero, List.drop_succ_cons, List.drop_zero]
            repeat (go_big_quiet_step (fail))
            refine wpQuiet_nil ?_
            refine steps_want rfl (fun K hK => ?_)
            go_simp
            refine (hH8.swap.keeps LT fun F h => q_has h x.run x.kind x.id hxok).mono ?_
            rw [HAN.out]
            rintro e w8 ⟨rfl, hH9, hE9⟩
            refine hK _ _ (fun X => Ext W7 X) ((Ext.refl W7).drew.trans hE9) (fun _ h => h) ?_
            clear hK K d0 d1 d2 d3 f0 f1 f2
            refine steps_quiet 2 (by kernel_rfl) ?_
            simp only [List.take_succ_cons, List.take_zero, List.drop_succ_cons, List.drop_zero]
            repeat (go_big_quiet_step (fail))
            refine wpQuiet_nil ?_
            refine steps_nil ?_
            go_wp2_with fail
            exact ⟨⟨pre ++ [x], post, by simp [HLL.out], by simp, hH9.swap⟩, by simp [intOf]; omega⟩
    · go_wp2_with fail
      go_ret
      exact ⟨rfl, hH.base⟩
end Go.Proofs.Ytkpdhciomfanoaa
