/- QueueApart, walked. -/
import Derived.Test.YtkpdhciomfanoaaHeldD
import Derived.Deep.QuietTactic
import Derived.BigQuiet
namespace Go.Proofs.Ytkpdhciomfanoaa
set_option linter.unusedVariables false
set_option linter.unusedSimpArgs false
open Go Go.RowKit Go.Maps Go.ChangeMaps Go.MapKept
def its (l : List Int) : List It := l.zipIdx.map fun p => ⟨p.1, 2, (p.2 : Int), (p.2 : Int)⟩
theorem its_snoc (l : List Int) (r : Int) : its (l ++ [r]) = its l ++ [⟨r, 2, l.length, l.length⟩] := by simp [its, List.zipIdx_append]
theorem its_length (l : List Int) : (its l).length = l.length := by simp [its]
theorem its_none (l : List Int) (r : Int) : (its l).any (isK · r 2 l.length) = false := by
  rw [List.any_eq_false]
  intro x hx
  simp only [its, List.mem_map] at hx
  obtain ⟨⟨a, i⟩, hp, rfl⟩ := hx
  have := List.snd_lt_of_mem_zipIdx hp
  simp [isK]; omega
theorem rest_none (l : List Int) (r run : Int) : (restIt run (its l)).any (isK · r 2 l.length) = false := by
  have h := its_none l r
  rw [List.any_eq_false] at h ⊢
  exact fun x hx => h x (List.mem_filter.1 hx |>.1)
theorem restIt_snoc_in (run : Int) (l : List It) (x : It) (h : x.run = run) : restIt run (l ++ [x]) = restIt run l := by simp [restIt, h]
theorem restIt_snoc_out (run : Int) (l : List It) (x : It) (h : x.run ≠ run) : restIt run (l ++ [x]) = restIt run l ++ [x] := by simp [restIt, h]
theorem restIt_le (run : Int) (l : List It) : (restIt run l).length ≤ l.length := List.length_filter_le _ _
def ApRel1 (w : World) (qa : Nat) (runs : List Int) (run : Int) (k : Value) (wr : World) : Prop :=
  ∃ i : Nat, i ≤ runs.length ∧ k = .int .i64 i ∧ Two w wr qa (qa + 1) (its (runs.take i)) (restIt run (its (runs.take i))) (fun _ => False)
def ApRel2 (w : World) (qa : Nat) (runs : List Int) (run : Int) (m B1 B2 : Nat) (v v2 k : Value) (wr : World) : Prop :=
  ∃ i : Nat, i ≤ m ∧ k = .int .i64 i ∧ Two w wr qa (qa + 1) (restIt run (its runs)) (restIt run (its runs)) (fun _ => False) ∧
    wr.ownsRow B1 32 3 v m (flatIt (restIt run (its runs))) ∧ wr.ownsRow B2 32 3 v2 m (flatIt (restIt run (its runs)))
theorem split_at {α : Type} (l : List α) (i : Nat) (h : i < l.length) : ∃ pre e post, l = pre ++ e :: post ∧ pre.length = i :=
  ⟨l.take i, l[i], l.drop (i + 1), by rw [List.getElem_cons_drop, List.take_append_drop], by simp; omega⟩
set_option maxRecDepth 100000 in
set_option maxHeartbeats 2000000 in
theorem apart_any (w : World) (p1 : Option Addr) (c1 : Nat) (runs : List Int) (run : Int) (hI : NumsAt .i64 w p1 runs) (hIb : ∀ z ∈ runs, -9223372036854775808 ≤ z ∧ z ≤ 9223372036854775807) :
    Calls Try.prog 5 #[.slice p1 runs.length c1, .int .i64 run] w fun e w' => e = .returned (.bool true) ∧ Ext w w' := by
  go_enter Try.func5, Try.ntmps5
  go_wp2_with fail
  refine (waits_any w).mono ?_
  rintro e w1 ⟨rfl, hE⟩
  rcases (show (100 : Int) < runs.length ∨ ¬ (100 : Int) < runs.length by omega) with g | g1
  · go_wp2_with fail
    go_ret
    exact ⟨rfl, hE⟩
  have hH : Two w ((w1.alloc (.cells #[.pointer none, .pointer none, .map none] 28)).alloc (.cells #[.pointer none, .pointer none, .map none] 28)) w1.heap.size (w1.heap.size + 1) [] [] (fun _ => False) := by
    have h2 := Blk.new (w1.alloc (.cells #[.pointer none, .pointer none, .map none] 28)) 28 #[.pointer none, .pointer none, .map none]
    simp at h2
    exact two_new ((hE.alloc _).alloc _) hE.le ((Blk.new _ _ _).alloc _) (by decide) h2 (by decide)
  go_wp2_with fail
  generalize w1.heap.size = q at *
  generalize World.alloc _ _ = W at *
  go_loopw [21] (fun k wr => ApRel1 w q runs run k wr) (fun k _ => (130 - intOf k).toNat)
  case atStart => exact ⟨0, by omega, rfl, hH⟩
  case round =>
    clear hH
    obtain ⟨i, hi, rfl, hH⟩ := hrel
    by_cases gi : (i : Int) < runs.length
    · obtain ⟨a, rfl, hcell⟩ := hI.get hH.ext i (by omega)
      have hb := hIb (runs.getD i 0) (by rw [List.getD_eq_getElem?_getD, List.getElem?_eq_getElem (by omega)]; simp)
      have htk : runs.take (i + 1) = runs.take i ++ [runs.getD i 0] := by
        rw [List.take_add_one, List.getD_eq_getElem?_getD, List.getElem?_eq_getElem (by omega)]; rfl
      have hlen : (runs.take i).length = i := by simp; omega
      have hno := its_none (runs.take i) (runs.getD i 0)
      have hno2 := rest_none (runs.take i) (runs.getD i 0) run
      have hsn := its_snoc (runs.take i) (runs.getD i 0)
      have hll := its_length (runs.take i)
      rw [hlen] at hno hno2 hsn hll
      rw [← htk] at hsn
      have HN := Lib.hid hno
      have HN2 := Lib.hid hno2
      have HS := Lib.hid hsn
      have HL := Lib.hid hll
      clear hno hno2 hsn htk hlen hll
      generalize runs.getD i 0 = x at *
      have hok : Ent.Ok ⟨x, 2, i, i, 0⟩ := ⟨⟨hb.1, hb.2, by simp, by simp, by show _ ≤ ((i : Nat) : Int); omega, by show ((i : Nat) : Int) ≤ _; omega⟩, by show _ ≤ ((i : Nat) : Int); omega, by show ((i : Nat) : Int) ≤ _; omega⟩
      go_wp2_with fail
      have hbx : Blk (wr.alloc (.cells #[.int .i64 x, .int .i64 2, .int .i64 i] 32)) wr.heap.size 32 #[.int .i64 x, .int .i64 2, .int .i64 i] := Blk.new _ _ _
      replace hH := hH.box (ext_alloc wr (.cells #[.int .i64 x, .int .i64 2, .int .i64 i] 32)) (Nat.le_refl _) (by simp)
      generalize wr.alloc _ = W2 at *
      refine (hH.act (fun X hX => heldx_add hX x 2 i i hok HN.out (by rw [HL.out]; omega))).mono ?_
      rintro e w2 ⟨rfl, hH2, hk2⟩
      have hb2 := hbx.of_eq (hk2 _ rfl)
      clear hH hbx hk2
      by_cases hr : x = run
      · have h1 : (x != run) = false := by simp [hr]
        have h2 : (x == run) = true := by simp [hr]
        have HR := Lib.hid hr
        clear hr hb2 hb
        go_wp2_with fail
        exact ⟨⟨i + 1, by omega, by go_num, by rw [HS.out, restIt_snoc_in _ _ _ HR.out]; exact hH2.less⟩, by simp [intOf]; omega⟩
      · have h1 : (x != run) = true := by simp [hr]
        have h2 : (x == run) = false := by simp [hr]
        have HR := Lib.hid hr
        have b0 := hb2.cell 0
        have b1 := hb2.cell 1
        have b2 := hb2.cell 2
        simp only [List.getElem?_toArray, List.getElem?_cons_zero, List.getElem?_cons_succ] at b0 b1 b2
        clear hr hb
        go_wp2_with fail
        refine (hH2.swap.act (fun X hX => heldx_add hX x 2 i i hok HN2.out (by have := restIt_le run (its (runs.take i)); rw [HL.out] at this; omega))).mono ?_
        rintro e w3 ⟨rfl, hH3, hk3⟩
        clear hH2 hb2 hk3 b0 b1 b2
        go_wp2_with fail
        exact ⟨⟨i + 1, by omega, by go_num, by rw [HS.out, restIt_snoc_out _ _ _ HR.out]; exact hH3.swap.less⟩, by simp [intOf]; omega⟩
    · have hi2 : i = runs.length := by omega
      subst hi2
      rw [List.take_length] at hH
      have hlA := its_length runs
      have hle := restIt_le run (its runs)
      rw [hlA] at hle
      obtain ⟨m, hm⟩ : ∃ m, m = (restIt run (its runs)).length := ⟨_, rfl⟩
      rw [← hm] at hle
      have HM := Lib.hid hm
      have HA := Lib.hid hlA
      clear gi hi hI hIb hm hlA
      go_wp2_with fail
      refine (hH.act (fun X hX => heldx_drop hX run (by rw [HA.out]; omega))).mono ?_
      rintro e w2 ⟨rfl, hH2, -⟩
      rw [HA.out, ← HM.out]
      clear hH
      go_wp2_with fail
      have hx2 := hH2
      obtain ⟨bm, fs, hx, -⟩ := hx2
      refine (heldx_list hx (by rw [← HM.out]; omega)).mono ?_
      rintro e w3 ⟨v, rfl, hown, -, hE3⟩
      rw [← HM.out] at hown
      obtain ⟨pv, cv, rfl⟩ := ownsRow_slice hown
      replace hH2 := hH2.keep hE3
      clear hx hE3
      go_wp2_with fail
      have hx2 := hH2.swap
      obtain ⟨bm2, fs2, hx, -⟩ := hx2
      refine (heldx_list hx (by rw [← HM.out]; omega)).mono ?_
      rintro e w4 ⟨v2, rfl, hown2, -, hE4⟩
      rw [← HM.out] at hown2
      obtain ⟨pv2, cv2, rfl⟩ := ownsRow_slice hown2
      replace hH2 := hH2.keep hE4
      replace hown := ownsRow_ext hown hE4
      clear hx hE4
      generalize w3.heap.size = B2 at *
      generalize w2.heap.size = B1 at *
      go_wp2_with fail
      obtain ⟨wo, rfl⟩ : ∃ wo : World, wo = wr := ⟨_, rfl⟩
      go_loopw [59] (fun k wr => ApRel2 w q runs run m B1 B2 (.slice pv m cv) (.slice pv2 m cv2) k wr) (fun k _ => (m + 1 - intOf k).toNat)
      case atStart => exact ⟨0, by omega, rfl, hH2, hown, hown2⟩
      case round =>
        clear hH2 hown hown2
        obtain ⟨i, hi, rfl, hH, hown, hown2⟩ := hrel
        by_cases gi : (i : Int) < m
        · obtain ⟨pre, e, post, hs, hl⟩ := split_at (restIt run (its runs)) i (by rw [← HM.out]; omega)
          have hm := HM.out
          rw [hs] at hm
          have h1 := hown
          have h2 := hown2
          rw [hs] at h1 h2
          obtain ⟨ga, rfl, hga, hga2, x0, x1, x2⟩ := flatIt_cell hm h1
          obtain ⟨gb, rfl, hgb, hgb2, y0, y1, y2⟩ := flatIt_cell hm h2
          rw [hl] at x0 x1 x2 y0 y1 y2
          have HS := Lib.hid hs
          have HL := Lib.hid hl
          clear h1 h2 hm hs hl
          go_wp2_with fail
          go_quiet (fail)
          go_wp2_with fail
          exact ⟨⟨i + 1, by omega, by go_num, hH.keep ((Ext.refl _).drewN _), ownsRow_ext hown ((Ext.refl _).drewN _), ownsRow_ext hown2 ((Ext.refl _).drewN _)⟩, by simp [intOf]; omega⟩
        · go_wp2_with fail
          refine (hH.act (fun X hX => heldx_drop hX run (by rw [← HM.out]; omega))).mono ?_
          rintro e w5 ⟨rfl, hH5, -⟩
          rw [restIt_twice, ← HM.out, Int.sub_self]
          have hE5 := hH5.ext
          clear hH hH5 hown hown2
          go_wp2_with fail
          go_ret
          exact ⟨rfl, hE5⟩
end Go.Proofs.Ytkpdhciomfanoaa
