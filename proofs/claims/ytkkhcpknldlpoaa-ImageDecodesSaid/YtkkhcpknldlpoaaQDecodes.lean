/- ImageDecodes: the walk. | ImageDecodes: for every input the law returns true, and each argument reads behind the call as it read before. -/
import Derived.Test.YtkkhcpknldlpoaaQA4
import Derived.WalkKit
import Derived.ProofKit
import Derived.OpenShut
import Derived.ShutString
import Derived.ChangeOld
import Derived.Below
import Derived.Lib.SmallJoins
import Derived.Deep.Fields
namespace Go.Proofs.Ytkkhcpknldlpoaa
set_option maxRecDepth 4000
set_option linter.unusedVariables false
set_option linter.unusedSimpArgs false
open Go Go.RowKit
theorem loads_not (x : Bool) (w : World) : (Op.unary .not (.bool x)).run Try.prog w = .ok (.bool (!x)) w := rfl
set_option maxHeartbeats 4000000 in
theorem decodes_any (w : World) (p : Option Addr) (c : Nat) (bs : List UInt8) (hN : NumsAt .u8 w p (byI bs)) (hp : p = none → bs.length = 0 ∧ c = 0) :
    Calls Try.prog 4 #[.slice p bs.length c] w fun e w' => e = .returned (.bool true) ∧ Ext w w' := by
  go_enter Try.func4, Try.ntmps4
  go_wp2_with fail
  refine (loads_any w).mono ?_
  rintro e w1 ⟨rfl, hE1⟩
  by_cases hl : 2000 < bs.length
  · have g1 : (2000 : Int) < bs.length := by omega
    go_wp2_with fail
    go_returns
    exact ⟨rfl, hE1⟩
  have g1 : ¬ (2000 : Int) < bs.length := by omega
  have hdec := Lib.hid (decode_any w1 p c bs (hN.ext hE1) hp (by omega))
  go_wp2_with fail
  refine hdec.out.mono ?_
  rintro e w2 ⟨⟨a, rfl, hB⟩, hE2⟩
  clear hdec
  rcases hde : decodeE bs with ⟨q, er⟩
  rw [hde] at hB
  simp only at hB
  simp only
  have hbq := Blk.new w2 26 (q.cells a).toArray
  have hE3 := ext_alloc w2 (.cells (q.cells a).toArray 26)
  simp only [Im.cells] at hbq hE3
  simp only [Im.cells]
  by_cases he : er = 0
  case neg =>
    have hz : q = Im.zero := by
      have := decode_zero (b := bs) (by rw [hde]; exact he)
      rw [hde] at this
      exact this
    subst hz
    have he1 : (er != 0) = true := by simp [he]
    have he2 : (er == 0) = false := by simp [he]
    have z1 : Im.zero.code.length = 0 := rfl
    have z2 : Im.zero.consts.len = 0 := rfl
    have z3 : Im.zero.names.length = 0 := rfl
    have z4 : Im.zero.places = 0 := rfl
    simp only [z1, z2, z3, z4]
    clear he hde hbq hE3 z1 z2 z3 z4
    go_wp2_with fail
    go_returns
    exact ⟨rfl, (hE1.trans hE2).alloc _⟩
  subst he
  obtain ⟨hck, hby, hok⟩ := decode_form hde
  have hfine := Im.fine hck
  have hI3 := hB.at.ext hE3
  have henc := encode_any q a _ hI3 hok (fun v hv => by have := check_bytes (hfine.consts v hv); omega)
  simp only [Im.cells] at henc
  have HENC := Lib.hid henc
  have HCK := Lib.hid hck
  have HBY := Lib.hid hby
  clear henc hde hB hck hby
  go_upto_region 6 with fail
  generalize World.alloc w2 _ = w3 at *
  generalize w2.heap.size = px at *
  have k0 : w3.cell? ⟨px, 0, none⟩ = some (.slice a.pc q.code.length a.cc) := hbq.cell 0
  have k1 : w3.cell? ⟨px, 1, none⟩ = some (.slice a.pk q.consts.len a.ck) := hbq.cell 1
  have k2 : w3.cell? ⟨px, 2, none⟩ = some (.slice a.pn q.names.length a.cn) := hbq.cell 2
  have k3 : w3.cell? ⟨px, 3, none⟩ = some (.int .i64 q.places) := hbq.cell 3
  go_wp2_with fail
  refine HENC.out.mono ?_
  rintro e w4 ⟨⟨v, rfl, hv, _⟩, hE4⟩
  have hown := hv HCK.out
  rw [HBY.out] at hown
  obtain ⟨pv, cv, rfl⟩ := ownsRow_slice hown
  rw [HCK.out]
  have hlt := hbq.lt
  replace k0 := (hE4.cell _ _ hlt).trans k0
  replace k1 := (hE4.cell _ _ hlt).trans k1
  replace k2 := (hE4.cell _ _ hlt).trans k2
  replace k3 := (hE4.cell _ _ hlt).trans k3
  have hrc := rimcheck_any q a w4 (hI3.ext hE4) hok (fun v hv => by have := check_bytes (hfine.consts v hv); omega)
  simp only [Im.cells] at hrc
  rw [HCK.out] at hrc
  have HRC := Lib.hid hrc
  clear HENC hrc hv
  go_wp2_with fail
  refine HRC.out.mono ?_
  rintro e w5 ⟨rfl, hE5⟩
  clear k0 k1 k2 k3
  have hcv := own_conv (ownsRow_ext hown hE5)
  have hE15 := (((hE1.trans hE2).trans hE3).trans hE4).trans hE5
  have hcv2 := conv_at (w := w5) (hN.ext hE15) hp
  clear hown
  go_wp2_with fail
  go_returns
  exact ⟨rfl, hE15⟩
end Go.Proofs.Ytkkhcpknldlpoaa

namespace Go.Proofs.Ytkkhcpknldlpoaa.imageDecodes
open Go.Proofs.Ytkkhcpknldlpoaa
open Go.ChangeShapes Go.WideShapes Go.ChangeAt Go.RowKit Go.Joins Go.Deep
open Go.ChangeMaps (open_string shut_string)
set_option maxRecDepth 4000
set_option linter.unusedVariables false
set_option linter.unusedSimpArgs false

theorem own : ownKnob Try.prog.godebug = none := by kernel_rfl
theorem laidOut : laidOutB Try.prog = true := by kernel_rfl
theorem cells8 : Try.prog.cellsOf 5 = 1 := by kernel_rfl
set_option maxRecDepth 100000 in
theorem lifted (os : Os) (started : os.Started) (H : Type) (enc : TypeId × Value → H) :
    ReturnsInHanded {} Try.checked os 4 .any (Rows.imageDecodesSpec.pre6 enc Try.prog Try.f4 Rows.imageDecodesRow.domain false) (Rows.imageDecodesSpec.post enc Try.prog Try.f4 false true false false) := by
  refine returnsInHanded_of_change (C := Try.checked) own started (by kernel_rfl) Try.func4
    (ChangeSpec.witness6 (enc := enc) (C := Try.checked) false ⟨#[], #[.slice none 0 0], []⟩ 8 (by kernel_rfl) (by kernel_rfl) (by kernel_rfl) (by kernel_rfl)) ?_
  intro W base args ds gs before hval0 hW hcnd _
  have hval : ∀ (j : Nat) t v, Try.f4.params[j]? = some t → args[j]? = some v → Value.okWide Try.prog W .any base t v := hval0
  have hW' := hW
  obtain ⟨p, q, hA0, hV, rfl, hfz, hnd⟩ := hW
  have hA : DataW.TrodAll enc Try.prog W 0 (fun _ => true) true Try.f4.params.toList args.toList ds p := hA0
  rw [Try.params4] at hA hval
  obtain ⟨v0, vs0, d0, ds0, p0, q0, hargs, rfl, rfl, h0, r0⟩ := trodAll_cons hA
  obtain ⟨rfl, rfl, rfl⟩ := trodAll_nil r0
  obtain rfl : args = #[v0] := by cases args; simp_all
  obtain ⟨rfl, rfl⟩ := trodVars_none hV
  have k0 := h0
  have lt0 : ∀ x ∈ p0, x.block < W.heap.size := by obtain ⟨m, hm⟩ := k0; exact DataW.trod_lt m _ _ _ hm
  obtain ⟨a0, c0, bs, rfl, n0, p0', l0, m0⟩ := open_bytes Try.underlying30 Try.underlying5 cells8 (hval 0 30 v0 rfl rfl) h0
  refine (decodes_any W a0 c0 bs n0 p0').mono fun e W' ⟨he, bel⟩ => ?_
  subst he
  exact ⟨_, rfl, _, _, _, [], _, [], hW', trodAll_mk1 (shut_bool Try.underlying4 _), (trodAll_cons_mk (Below.trod laidOut (by kernel_rfl) (of_decide_eq_true (by kernel_rfl)) k0 bel lt0) trodAll_mk0), rfl, bel.frame _, fun h => by cases h⟩

theorem over : Rows.imageDecodesRow.holds Try.pinned (OpenSpec.ofChange Rows.imageDecodesSpec) :=
  OpenClaim.holds_of_wide 4 Try.f4 rfl rfl rfl rfl rfl rfl rfl ⟨rfl, rfl, rfl, rfl, rfl⟩ rfl rfl rfl rfl rfl (by kernel_rfl) Try.func4 (by kernel_rfl)
    (of_decide_eq_true (by kernel_rfl)) (by unfold Func.isWrapper; first | (rw [if_pos (by decide +kernel)]; kernel_rfl) | (rw [if_neg (by decide +kernel)]; exact ⟨rfl, rfl⟩))
    (fun os started H enc _ => lifted os started H enc)

theorem proved : Rows.ImageDecodesSaid := over
#print axioms proved
end Go.Proofs.Ytkkhcpknldlpoaa.imageDecodes
