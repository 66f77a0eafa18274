/- cron: the law's own find. -/
import Derived.Test.YtmgpkadgalgnnaaDoorCRNext
namespace Go.Proofs.YtmgpkadgalgnnaaDoor
set_option maxRecDepth 4000
set_option linter.unusedVariables false
set_option linter.unusedSimpArgs false
open Go Go.RowKit
theorem text_any (w : World) (g : Nat) (S : Sp) (x : List UInt8) (hS : SpecAt w g S x) :
    Calls Tryd.prog 17 #[.pointer (some ⟨g, 0, none⟩)] w fun e w' => e = .returned (strV x) ∧ Ext w w' := by
  obtain ⟨-, -, -, -, -, -, -, c10⟩ := hS.m
  go_enter Tryd.func17, Tryd.ntmps17
  go_wp2_with fail
  go_ret
  exact ⟨rfl, Ext.refl _⟩
/-- "30 2 * * *" -/
def t302 : List UInt8 := [51, 48, 32, 50, 32, 42, 32, 42, 32, 42]
def S302 : Sp := ⟨[[⟨30, 30, 1⟩], [⟨2, 2, 1⟩], [⟨1, 31, 1⟩], [⟨1, 12, 1⟩], [⟨0, 6, 1⟩]], [false, false, true, true, true]⟩
theorem parse302 : parseS t302 = .ok S302 := by rfl
theorem next0 : nextV S302 0 = (150, 0) := by decide +kernel
theorem next150 : nextV S302 150 = (1590, 0) := by decide +kernel
theorem date150 : dtA 150 = six 2000 1 1 2 30 6 := by
  have h1 : civY (150 / 1440) = 2000 := by decide +kernel
  have h2 : civM (150 / 1440) = 1 := by decide +kernel
  have h3 : civD (150 / 1440) = 1 := by decide +kernel
  unfold dtA
  rw [h1, h2, h3]
  rfl
theorem fits150 : S302.fits 1 1 2 30 6 = true := by decide +kernel
theorem parse_ok {w W : World} {x : List UInt8} {S : Sp} {e : Ending} (h : ParseR (.ok S) x w e W) : ∃ g, e = .returned (.tuple #[.pointer (some ⟨g, 0, none⟩), .int .i64 0]) ∧ SpecAt W g S x ∧ Ext w W := by
  obtain ⟨g, h1, h2⟩ := h
  exact ⟨g, h1, h2.blk0, h2.base⟩
set_option maxHeartbeats 1000000 in
theorem finds_any (w : World) (hm : MX w) : Calls Tryd.prog 10 #[] w fun e w' => e = .returned (.bool true) ∧ Ext w w' := by
  have hp := parse_any w t302 (by decide) hm
  rw [parse302] at hp
  have hok := (parseS_ok parse302).1
  go_enter Tryd.func10, Tryd.ntmps10
  go_wp2_with fail
  refine hp.mono ?_
  intro e w1 hr
  obtain ⟨g, rfl, hS, hE1⟩ := parse_ok hr
  clear hp hr
  have hn0 := next_any w1 g S302 t302 0 (by omega) (by omega) hS hok
  rw [next0] at hn0
  go_wp2_with fail
  refine hn0.mono ?_
  rintro e w2 ⟨rfl, hE2⟩
  clear hn0
  replace hS := hS.ext hE2
  replace hE1 := hE1.trans hE2
  clear hE2
  have hn1 := next_any w2 g S302 t302 150 (by omega) (by omega) hS hok
  rw [next150] at hn1
  go_wp2_with fail
  refine hn1.mono ?_
  rintro e w3 ⟨rfl, hE2⟩
  clear hn1
  replace hS := hS.ext hE2
  replace hE1 := hE1.trans hE2
  clear hE2
  have hd := date_out w3 150 (by omega) (by omega)
  rw [date150] at hd
  simp only [six] at hd
  go_wp2_with fail
  refine hd.mono ?_
  rintro e w4 ⟨rfl, hE2⟩
  clear hd
  replace hS := hS.ext hE2
  replace hE1 := hE1.trans hE2
  clear hE2
  have hB0 : Both (w4.alloc (.cells (six 2000 1 1 2 30 6) 32)) g w4.heap.size S302 t302 2000 1 1 2 30 6 := ⟨hS.ext (ext_alloc _ _), Blk.new _ _ _⟩
  have hE0 := hE1.trans (ext_alloc w4 (.cells (six 2000 1 1 2 30 6) 32))
  clear hE1 hS
  go_upto_region 7 with fail
  refine gen_world' (fun X => Ext w X ∧ Both X g w4.heap.size S302 t302 2000 1 1 2 30 6) ⟨hE0, hB0⟩ ?_
  clear hE0 hB0
  rintro w5 ⟨hE5, hB⟩
  generalize w4.heap.size = b at *
  obtain ⟨k0, k1, k2, k3, k4, k5⟩ := six_cells hB.d
  have hf := fits_any w5 g S302 t302 2000 1 1 2 30 6 hB.s hok
  rw [fits150] at hf
  simp only [six] at hf
  go_wp2_with fail
  refine hf.mono ?_
  rintro e w6 ⟨rfl, hE6⟩
  clear hf k0 k1 k2 k3 k4 k5
  have ht := text_any w6 g S302 t302 (hB.s.ext hE6)
  go_wp2_with fail
  refine ht.mono ?_
  rintro e w7 ⟨rfl, hE7⟩
  clear ht
  rw [show strV t302 = .string (strOf t302) from rfl]
  have hz : (strOf t302).toList = [51, 48, 32, 50, 32, 42, 32, 42, 32, 42] := by rw [strOf_toList]; rfl
  go_wp2_with fail
  go_ret
  exact ⟨rfl, (hE5.trans hE6).trans hE7⟩
end Go.Proofs.YtmgpkadgalgnnaaDoor
