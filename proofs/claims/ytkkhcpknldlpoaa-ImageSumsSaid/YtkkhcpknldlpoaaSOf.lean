/- Of: the SHA-256 of parts. -/
import Derived.Test.YtkkhcpknldlpoaaSSum
namespace Go.Proofs.Ytkkhcpknldlpoaa
set_option maxRecDepth 4000
set_option linter.unusedVariables false
set_option linter.unusedSimpArgs false
open Go Go.RowKit
theorem hA_new (w : World) : hA w.heap.size HS.zero (w.alloc (.cells (hcs St.zero false (.slice none 0 0) 0) 139)) (HFoot w.heap.size (.slice none 0 0)) :=
  ⟨.slice none 0 0, ⟨Blk.new _ _ _, World.ownsRow_nil _ _ _ _, by decide, by decide⟩, rfl⟩
theorem PartsAt.new {F G : Nat → Prop} {w w' : World} {p : Option Addr} {ps : List (List UInt8)} (h : PartsAt G w p ps) (hE : Ext w w') (hf : ∀ k, F k → w.heap.size ≤ k) : PartsAt F w' p ps := by
  intro i hi
  obtain ⟨b, o, h1, h2, h3, q, c, h4, h5, h6, h7, h8, h9⟩ := h i hi
  refine ⟨b, o, h1, Nat.lt_of_lt_of_le h2 hE.le, fun e => absurd (hf b e) (by omega), q, c, (hE.cell b (o + i) h2).trans h4, h5.ext hE, fun hpos a ha e => ?_, h7, h8, h9⟩
  obtain ⟨a', ha', hlt, -⟩ := h5 0 (by rw [byI_length]; exact hpos)
  rw [ha] at ha'
  injection ha' with ha'
  subst ha'
  exact absurd (hf _ e) (by omega)
theorem addAll_of (ps : List (List UInt8)) : (HS.zero.addAll ps).Of ps.flatten := by
  obtain ⟨h1, h2⟩ := HS.Of.zero.start
  have := (HS.Of.addAll ps h1 h2).1
  rw [List.nil_append] at this
  exact this
set_option maxRecDepth 100000 in
set_option maxHeartbeats 4000000 in
theorem sof_any {G : Nat → Prop} (w : World) (p : Option Addr) (c : Nat) (ps : List (List UInt8)) (hp : PartsAt G w p ps) (hl : ps.length ≤ maxLen) (hsm : ∀ x ∈ ps, x.length ≤ 70368744177664) :
    Calls Try.prog 73 #[.slice p ps.length c] w fun e w' => e = .returned (smV (sha ps.flatten)) ∧ Ext w w' := by
  have hsum := (addAll_of ps).sum
  have HAdd := fun {W : World} {q : Nat} {F : Nat → Prop} (hh : hA q HS.zero W F) (hp : PartsAt F W p ps) => add_any hh p c ps hp hl hsm
  generalize HS.zero.addAll ps = hs at hsum HAdd
  have hlen := sha_len ps.flatten
  generalize sha ps.flatten = bt at hsum hlen
  have HSM := Lib.hid hsum
  clear hsum
  go_enter Try.func73, Try.ntmps73
  go_wp2_with fail
  have hH : Has w ((w.alloc (.cells (u8s (zb 32)).toArray 66)).alloc (.cells (hcs St.zero false (.slice none 0 0) 0) 139)) [hA (w.heap.size + 1) HS.zero, SmA w.heap.size (zb 32)] := by
    have h1 := (Has.nil (Ext.refl w)).add .nil (ext_alloc w (.cells (u8s (zb 32)).toArray 66)) (p := SmA w.heap.size (zb 32)) (F := fun k => k = w.heap.size) ⟨Blk.new _ _ _, rfl⟩ (fun k hk => by omega)
    have h2 := h1.add (.cons (SmA_loc _ _) .nil) (ext_alloc _ (.cells (hcs St.zero false (.slice none 0 0) 0) 139)) (p := hA (w.heap.size + 1) HS.zero) (F := HFoot (w.heap.size + 1) (.slice none 0 0)) (by have := hA_new (w.alloc (.cells (u8s (zb 32)).toArray 66)); simpa using this) (fun k hk => by rcases hk with rfl | hk; simp; simp [Value.ownBlock] at hk)
    exact h2
  refine gen_calls (fun X => Has w X [hA (w.heap.size + 1) HS.zero, SmA w.heap.size (zb 32)]) hH ?_
  clear hH
  intro X hH
  generalize hq : w.heap.size + 1 = q at *
  generalize hr : w.heap.size = r at *
  refine (hH.actB (.cons (SmA_loc _ _) .nil) (fun F hF hb => HAdd hF (hp.new hH.base hb))).mono ?_
  rintro e w2 ⟨rfl, hH2⟩
  clear hH HAdd
  go_wp2_with fail
  refine (hH2.keeps (.cons (hA_loc _ _) (.cons (SmA_loc _ _) .nil)) (fun F hF => sum_any hF)).mono ?_
  rw [HSM.out]
  rintro e w3 ⟨rfl, hH3, -⟩
  have hH4 := hH3.swap
  clear hH2 hH3
  obtain ⟨Fr, hFr⟩ := hH4.head
  have hA' := hFr.1
  have hH5 := BdA_row (l' := bt) hH4 (.cons (hA_loc _ _) .nil)
  go_wp2_with (refine wpList_store_row rfl _ _ _ rfl r (u8s bt).toArray rfl rfl _ _ hA' (smSize hlen) (by simp [zb, u8s, hlen]) (u8s_oneAll _) ?_)
  obtain ⟨F3, hF3⟩ := hH5.head
  exact bodyPost_ret (v := smV bt) (results_cell_row Try.results73 _ _ _ _ _ _ _ rfl hF3.1 Try.underlying66 rfl (smSize hlen)) rfl ⟨rfl, hH5.base⟩
end Go.Proofs.Ytkkhcpknldlpoaa
