/- CRC: what it computes of any parts. -/
import Derived.Test.YthghflfgldcmbaaSRot
import Derived.LoopTactic
namespace Go.Proofs.Ythghflfgldcmbaa
set_option maxRecDepth 4000
set_option linter.unusedVariables false
set_option linter.unusedSimpArgs false
open Go Go.RowKit
/-- slices of bytes, in a slice, that can be read -/
def PartsIn (w : World) (p : Option Addr) (ps : List (List UInt8)) : Prop :=
  ∀ i (h : i < ps.length), ∃ b o, p = some ⟨b, o, none⟩ ∧ b < w.heap.size ∧ ∃ q c, w.cell? ⟨b, o + i, none⟩ = some (.slice q ps[i].length c) ∧ NumsAt .u8 w q (byI ps[i]) ∧ (q = none → ps[i].length = 0 ∧ c = 0) ∧ ps[i].length ≤ c ∧ c ≤ maxLen
theorem crcTimes_succ (n : Nat) : ∀ c : W32, crcTimes (n + 1) c = crcBit (crcTimes n c) := by
  induction n with
  | zero => exact fun _ => rfl
  | succ n ih => intro c; rw [crcTimes, ih]; rfl
def CrcRel1 (w : World) (ps : List (List UInt8)) (c k : Value) (wr : World) : Prop :=
  ∃ i : Nat, i ≤ ps.length ∧ k = .int .i64 i ∧ c = .int .u32 (wv (crcFrom 4294967295#32 (ps.take i).flatten)) ∧ wr = w
def CrcRel2 (w : World) (c0 : W32) (bs : List UInt8) (c k : Value) (wr : World) : Prop :=
  ∃ i : Nat, i ≤ bs.length ∧ k = .int .i64 i ∧ c = .int .u32 (wv (crcFrom c0 (bs.take i))) ∧ wr = w
def CrcRel3 (w : World) (c0 : W32) (c k : Value) (wr : World) : Prop :=
  ∃ i : Nat, i ≤ 8 ∧ k = .int .i64 i ∧ c = .int .u32 (wv (crcTimes i c0)) ∧ wr = w
set_option maxRecDepth 100000 in
theorem crc_any (w : World) (p : Option Addr) (cap : Nat) (ps : List (List UInt8)) (hp : PartsIn w p ps) (hl : ps.length ≤ maxLen) :
    Calls Try.prog 45 #[.slice p ps.length cap] w fun e w' => e = .returned (.int .u32 (wv (crc ps.flatten))) ∧ w' = w := by
  have hpl : (ps.length : Int) ≤ 9223372036854775807 := by unfold maxLen at hl; omega
  clear hl
  go_enter Try.func45, Try.ntmps45
  go_wp2_with fail
  go_loopw [3, 11] (fun c k wr => CrcRel1 w ps c k wr) (fun _ k _ => ((ps.length : Int) + 1 - intOf k).toNat)
  case atStart => exact ⟨0, by omega, rfl, rfl, rfl⟩
  case round =>
    obtain ⟨i, hi, rfl, rfl, rfl⟩ := hrel
    by_cases gi : (i : Int) < ps.length
    · obtain ⟨b, o, rfl, hb, q, cq, hc, hN, hn, hc1, hc2⟩ := hp i (by omega)
      have hfl : (ps.take (i + 1)).flatten = (ps.take i).flatten ++ ps[i] := by rw [List.take_succ_eq_append_getElem (by omega), List.flatten_append]; simp
      have HF := Lib.hid (show crcFrom 4294967295#32 (ps.take (i + 1)).flatten = crcFrom (crcFrom 4294967295#32 (ps.take i).flatten) ps[i] by rw [hfl, crcFrom_append])
      clear hfl
      generalize crcFrom 4294967295#32 (ps.take i).flatten = c0 at *
      generalize ps[i]'(by omega) = bs at *
      have hbl : (bs.length : Int) ≤ 9223372036854775807 := by unfold maxLen at hc2; omega
      clear hc1 hc2
      go_wp2_with fail
      go_loopw [3, 17] (fun c k wx => CrcRel2 wr c0 bs c k wx) (fun _ k _ => ((bs.length : Int) + 1 - intOf k).toNat)
      case atStart => exact ⟨0, by omega, rfl, rfl, rfl⟩
      case round =>
        obtain ⟨j, hj, rfl, rfl, rfl⟩ := hrel
        by_cases gj : (j : Int) < bs.length
        · obtain ⟨a, rfl, hcell⟩ := hN.get (Ext.refl _) j (by rw [byI_length]; omega)
          have hbj : j < bs.length := by omega
          have hx : (byI bs).getD j 0 = (bs[j].toNat : Int) := by
            rw [List.getD_eq_getElem?_getD, byI, List.getElem?_map, List.getElem?_eq_getElem hbj]; rfl
          rw [hx] at hcell
          have hg : crcFrom c0 (bs.take (j + 1)) = crcByte (crcFrom c0 (bs.take j)) bs[j] := by
            rw [List.take_succ_eq_append_getElem hbj, crcFrom_append]; rfl
          have HG := Lib.hid hg
          clear hg hx
          generalize crcFrom c0 (bs.take j) = c1 at *
          generalize bs[j]'hbj = x at *
          have hx0 := wv_u8 x
          have hx1 := wv_xor c1 (w8 x)
          rw [← hx0] at hx1
          have hxb := u8_bd x
          clear hx0
          go_wp2_with fail
          have HC := Lib.hid (show crcByte c1 x = crcTimes 8 (c1 ^^^ w8 x) from rfl)
          generalize c1 ^^^ w8 x = c2 at *
          clear hx1
          go_loopw [3, 25] (fun c k wx => CrcRel3 wr c2 c k wx) (fun _ k _ => (9 - intOf k).toNat)
          case atStart => exact ⟨0, by omega, rfl, rfl, rfl⟩
          case round =>
            obtain ⟨m, hm, rfl, rfl, rfl⟩ := hrel
            by_cases gm : (m : Int) < 8
            · have HT := Lib.hid (crcTimes_succ m c2)
              generalize crcTimes m c2 = c3 at *
              have hs : wv c3 / (2 : Int) = wv (c3 >>> 1) := less1_val c3
              by_cases h1 : c3 &&& 1 = 1
              · have ha : bits .and .u32 (wv c3) 1 = 1 := by rw [show (1 : Int) = wv 1 from rfl, wv_and, h1]
                have hz : bits .xor .u32 (wv c3 / 2) 3988292384 = wv (crcBit c3) := by
                  rw [hs, show (3988292384 : Int) = wv 0xedb88320 from rfl, wv_xor, crcBit, if_pos h1]
                clear hs
                go_wp2_with fail
                exact ⟨⟨m + 1, by omega, by go_num, by rw [HT.out], rfl⟩, by simp [intOf]; omega⟩
              · have ha : bits .and .u32 (wv c3) 1 = 0 := by
                  rw [show (1 : Int) = wv 1 from rfl, wv_and, show (0 : Int) = wv 0 from rfl]
                  congr 1
                  apply BitVec.eq_of_toNat_eq
                  have := BitVec.toNat_and c3 1
                  have h2 : ¬ (c3 &&& 1).toNat = 1 := fun e => h1 (BitVec.eq_of_toNat_eq e)
                  have h3 : (1 : W32).toNat = 1 := rfl
                  rw [h3, Nat.and_one_is_mod] at this
                  show _ = 0
                  omega
                have hz : wv c3 / 2 = wv (crcBit c3) := by rw [hs, crcBit, if_neg h1]
                clear hs
                go_wp2_with fail
                exact ⟨⟨m + 1, by omega, by go_num, by rw [HT.out], rfl⟩, by simp [intOf]; omega⟩
            · have hm' : m = 8 := by omega
              subst hm'
              go_wp2_with fail
              exact ⟨⟨j + 1, by omega, by go_num, by rw [HG.out, HC.out], rfl⟩, by simp [intOf]; omega⟩
        · have hj' : j = bs.length := by omega
          subst hj'
          rw [List.take_length] at *
          go_wp2_with fail
          exact ⟨⟨i + 1, by omega, by go_num, by rw [HF.out], rfl⟩, by simp [intOf]; omega⟩
    · have hi' : i = ps.length := by omega
      subst hi'
      rw [List.take_length] at *
      have h1 : bits .xor .u32 IntKind.u32.max (wv (crcFrom 4294967295#32 ps.flatten)) = wv (crc ps.flatten) := wv_not (crcFrom 4294967295#32 ps.flatten)
      go_wp2_with fail
      go_ret
      exact ⟨rfl, rfl⟩
end Go.Proofs.Ythghflfgldcmbaa
