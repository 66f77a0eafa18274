/- SumOf, walked. -/
import Derived.Test.YtiaepnlhedgicaaSRef3
namespace Go.Proofs.Ytiaepnlhedgicaa
set_option linter.unusedVariables false
set_option linter.unusedSimpArgs false
open Go Go.RowKit
set_option maxRecDepth 100000 in
set_option maxHeartbeats 4000000 in
theorem oflaw_any (w : World) (p : Option Addr) (c : Nat) (b : List UInt8) (hN : NumsAt .u8 w p (byI b)) (hn : p = none → b.length = 0 ∧ c = 0) (hc1 : b.length ≤ c) (hc2 : c ≤ maxLen) :
    Calls Try.prog 4 #[.slice p b.length c] w fun e w' => e = .returned (.bool true) ∧ Ext w w' := by
  go_enter Try.func4, Try.ntmps4
  go_wp2_with fail
  refine (known_any w).mono ?_
  rintro e w1 ⟨rfl, hE1⟩
  rcases (show (300 : Int) < b.length ∨ ¬ (300 : Int) < b.length by omega) with g | g1
  · go_wp2_with fail
    go_ret
    exact ⟨rfl, hE1⟩
  have hcb := fun (x : Of fun X => Ext w X) => conv_arg (P := Try.prog) Try.underlying22 Try.underlying5 Try.underlying9 (hN.ext x.property) hn
  have hC := fun {X : World} (hE : Ext w X) => of_one (t := 22) (hN.ext hE) hn hc1 hc2 (by omega)
  have hR := fun (X : World) => refof_any X b (by omega)
  have hsl := sha_len b
  generalize sha b = y at hC hR hsl
  go_upto_region 5 with fail
  have hFd := (hE1.drew)
  have hne_ : Nonempty (Of (fun X => Ext w X)) := ⟨⟨_, hFd⟩⟩
  refine region_steps [0,3,4,1,2,5,6,7] [true,true,true,false,false,false,false,false] (fun X => Ext w X) (by kernel_rfl) (by kernel_rfl) hFd ?_
  simp only [List.filterMap_cons, List.filterMap_nil, List.getElem?_cons_zero, List.getElem?_cons_succ]
  refine steps_quiet 3 (by kernel_rfl) ?_
  simp only [List.take_succ_cons, List.take_zero, List.drop_succ_cons, List.drop_zero]
  repeat (go_big_quiet_step (fail))
  refine wpQuiet_nil ?_
  clear hcb hFd
  have hE2 := hE1.drew
  generalize World.drew w1 = w2 at *
  clear hE1
  refine steps_want rfl (fun K hK => ?_)
  go_simp
  refine hK _ _ _ (hE2.alloc (.cells #[.slice p b.length c] 22)) (fun _ h => h) ?_
  clear hK K
  refine steps_want rfl (fun K hK => ?_)
  go_simp
  refine (hC hE2).mono ?_
  rintro e w3 ⟨rfl, hE'⟩
  have hE3 := hE2.trans hE'
  refine hK _ _ _ hE3 (fun _ h => h) ?_
  clear hK K
  refine steps_want rfl (fun K hK => ?_)
  go_simp
  refine (hR _).mono ?_
  rintro e w4 ⟨rfl, hE4⟩
  have hE5 := hE3.trans hE4
  refine hK _ _ _ hE5 (fun _ h => h) ?_
  clear hK K hR hC hE2 hE3 hE4 hE'
  have hcm := eq_sum w4 y y hsl hsl
  rw [decide_eq_true rfl] at hcm
  refine steps_want rfl (fun K hK => ?_)
  go_simp
  refine hK _ _ _ hE5 (fun _ h => h) ?_
  clear hK K
  refine steps_want rfl (fun K hK => ?_)
  go_simp
  refine hK _ _ _ hE5 (fun _ h => h) ?_
  clear hK K
  refine steps_nil ?_
  try simp only [Act.put]
  go_wp2_with fail
  go_ret
  exact ⟨rfl, hE5⟩
end Go.Proofs.Ytiaepnlhedgicaa
