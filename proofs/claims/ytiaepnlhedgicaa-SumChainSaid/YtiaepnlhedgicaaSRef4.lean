/- The document's chain of sums. -/
import Derived.Test.YtiaepnlhedgicaaSRef3
import Derived.Test.YtiaepnlhedgicaaSChain
namespace Go.Proofs.Ytiaepnlhedgicaa
set_option linter.unusedVariables false
set_option linter.unusedSimpArgs false
open Go Go.RowKit
def DhRel (w : World) (bx : Nat) (first : List UInt8) (ps : List (List UInt8)) (out k : Value) (wr : World) : Prop :=
  ∃ i : Nat, i ≤ ps.length ∧ k = .int .i64 i ∧ Has w wr [BdA 28 bx (chainEnd first (ps.take i)), rowA 28 32 out i (u8s (chain first (ps.take i)).flatten)]
/-- texts, in a slice, that can be read -/
def StrsAt (w : World) (p : Option Addr) (ps : List (List UInt8)) : Prop :=
  ∀ i (h : i < ps.length), ∃ b o, p = some ⟨b, o, none⟩ ∧ b < w.heap.size ∧ w.cell? ⟨b, o + i, none⟩ = some (.string (strOf ps[i]))
theorem aInfo' : (Try.prog.info? 28).map (fun i => (i.zero, i.size, i.bytes)) = some (some (smV (zb 32)), 32, 32) := by kernel_rfl
set_option maxRecDepth 100000 in
set_option maxHeartbeats 4000000 in
theorem refchain_any (w : World) (first : List UInt8) (hf : first.length = 32) (p : Option Addr) (c : Nat) (ps : List (List UInt8)) (hp : StrsAt w p ps) (hl : ps.length ≤ 1000) (hsm : ∀ x ∈ ps, x.length ≤ 900) :
    Calls Try.prog 18 #[smV first, .slice p ps.length c] w fun e w' => ∃ v, e = .returned v ∧ Has w w' [rowA 28 32 v ps.length (u8s (chain first ps).flatten)] := by
  obtain ⟨i0, hi0, hz0, hz1, hz2⟩ := info_parts aInfo'
  go_enter Try.func18, Try.ntmps18
  go_wp2_with fail
  have hH : Has w (w.alloc (.cells (u8s first).toArray 28)) [BdA 28 w.heap.size first, rowA 28 32 (.slice none 0 0) 0 (u8s [])] := by
    have h1 := (Has.nil (Ext.refl w)).add .nil (Ext.refl w) (p := rowA 28 32 (.slice none 0 0) 0 (u8s [])) (F := fun k => (Value.slice none 0 0).ownBlock = some k) ⟨World.ownsRow_nil _ _ _ _, rfl⟩ (fun k hk => by simp [Value.ownBlock] at hk)
    exact h1.add (.cons (rowA_loc _ _ _ _ _) .nil) (ext_alloc w (.cells (u8s first).toArray 28)) (p := BdA 28 w.heap.size first) (F := fun k => k = w.heap.size) ⟨Blk.new _ _ _, rfl⟩ (fun k hk => by omega)
  generalize hX : w.alloc (.cells (u8s first).toArray 28) = X at *
  clear hX
  generalize hbx : w.heap.size = bx at *
  go_loopw [5, 6] (fun out k wr => DhRel w bx first ps out k wr) (fun _ k _ => ((ps.length : Int) + 1 - intOf k).toNat)
  case atStart => exact ⟨0, by omega, rfl, hH⟩
  case round =>
    clear hH
    obtain ⟨i, hi, rfl, hH⟩ := hrel
    by_cases gi : (i : Int) < ps.length
    · obtain ⟨b, o, rfl, hbh, hc0⟩ := hp i (by omega)
      have hc := (hH.base.cell b (o + i) hbh).trans hc0
      have hxs := hsm _ (List.getElem_mem (show i < ps.length by omega))
      clear hc0
      have hend : chainEnd first (ps.take (i + 1)) = sha (chainEnd first (ps.take i) ++ ps[i]'(by omega)) := by
        rw [List.take_succ_eq_append_getElem (by omega), chainEnd_snoc]
      have hall : chain first (ps.take (i + 1)) = chain first (ps.take i) ++ [sha (chainEnd first (ps.take i) ++ ps[i]'(by omega))] := by
        rw [List.take_succ_eq_append_getElem (by omega), chain_snoc]
      have hel := chainEnd_len (ps.take i) first hf
      generalize ps[i]'(by omega) = x at *
      generalize chainEnd first (ps.take i) = pr at *
      have HL := fun X => refof_any X (pr ++ x) (by rw [List.length_append]; omega)
      have hadd := fun X => str_add (P := Try.prog) pr x (by omega) X
      have hsl := sha_len (pr ++ x)
      generalize sha (pr ++ x) = bt at *
      have HE := Lib.hid hend
      have HA := Lib.hid hall
      clear hend hall
      generalize chain first (ps.take i) = ch at *
      obtain ⟨F0, hF0⟩ := hH.head
      have hB := hF0.1
      have hcv : ∀ nq, (convert 22 9 (.slice (some ⟨bx, 0, none⟩) 32 32)).run Try.prog (wr.drewN nq) = .ok (.string (strOf pr)) (wr.drewN nq) := fun nq => by
        have := conv_arg (P := Try.prog) (c := 32) Try.underlying22 Try.underlying5 Try.underlying9 (NumsAt.blk (X := wr.drewN nq) hB) (fun h => by cases h)
        rw [hel] at this
        exact this
      clear hsm
      go_upto_region 5 with fail
      refine region_drew_tail 7 (by kernel_rfl) (by kernel_rfl) ?_
      simp only [List.take_succ_cons, List.take_zero, List.drop_succ_cons, List.drop_zero]
      repeat (go_big_quiet_step (fail))
      refine wpQuiet_nil ?_
      intro _ hw'
      obtain ⟨nq, hw''⟩ := hw'
      subst hw''
      have hH1 := hH.ext (.cons (BdA_loc _ _ _) (.cons (rowA_loc _ _ _ _ _) .nil)) ((Ext.refl wr).drewN nq)
      clear hB hF0 hH hc hcv hadd
      generalize wr.drewN nq = w1 at *
      go_wp2_with fail
      refine (HL _).mono ?_
      rintro e w2 ⟨rfl, hE2⟩
      have hH2 := hH1.ext (.cons (BdA_loc _ _ _) (.cons (rowA_loc _ _ _ _ _) .nil)) hE2
      obtain ⟨F2, hF2⟩ := hH2.head
      have hB2 := hF2.1
      have hH3 := BdA_row (l' := bt) hH2 (.cons (rowA_loc _ _ _ _ _) .nil)
      go_upto_region 6 with (refine wpList_store_row rfl _ _ _ rfl bx (u8s bt).toArray rfl rfl _ _ hB2 (aSize hsl) (by simp [u8s, hel, hsl]) (u8s_oneAll _) ?_)
      clear hB2 hF2 hH2 HL hH1
      generalize World.setRow w2 bx (u8s bt).toArray = w3 at *
      obtain ⟨F3, hF3⟩ := hH3.head
      have hB3 := hF3.1
      have hH4 := (hH3.ext (.cons (BdA_loc _ _ _) (.cons (rowA_loc _ _ _ _ _) .nil)) (ext_alloc w3 (.cells (u8s bt).toArray 28))).swap
      have hnews := news_new w3 (u8s bt) 28
      obtain ⟨F4, hF4⟩ := hH4.head
      have hown := hF4.1
      have hbld := build32 hsl
      have hsz : (u8s bt).toArray.size = 32 := by simp [u8s, hsl]
      have hsz' : (u8s bt).length = 32 := by simp [u8s, hsl]
      go_wp2_with (first
        | (refine wpList_load_row rfl _ _ rfl bx rfl _ _ _ _ hB3 Try.underlying28 rfl (aSize hsl) ?_)
        | (at_builtin; refine wpList_append_new rfl _ _ 44 rfl 28 i0 (smV (zb 32)) 32 32 Try.underlying44 hi0 hz0 hz1 hz2 rfl (by decide) _ _ _ rfl hown _ 1 1 (u8s bt) rfl (by rw [u8s_length, hsl]) (fun h => by cases h) hnews (u8s_one bt) (by unfold maxLen; omega) (by omega) ?_))
      intro v3 w3' hown3 hg3 hf3
      have hH5 : Has w w3' [rowA 28 32 v3 (i + 1) (u8s ch.flatten ++ u8s bt), BdA 28 bx bt] := hH4.next (.cons (BdA_loc _ _ _) .nil) fun F hF => by
        obtain ⟨_, rfl⟩ := hF
        exact Next.mk ⟨hown3, rfl⟩ (grownBy.tch hg3) hf3.1
      have hH6 := hH5.swap
      rw [← u8s_append] at hH6
      clear hH4 hH3 hF3 hF4 hB3 hown hnews hbld hsz hsz' hH5 hown3 hg3 hf3
      go_wp2_with fail
      refine ⟨⟨i + 1, by omega, by go_num, ?_⟩, by simp [intOf]; omega⟩
      rw [HE.out, HA.out, List.flatten_append]
      simpa using hH6
    · have hi' : i = ps.length := by omega
      subst hi'
      rw [List.take_length] at *
      go_wp2_with fail
      go_ret
      exact ⟨_, rfl, hH.drop⟩
end Go.Proofs.Ytiaepnlhedgicaa
