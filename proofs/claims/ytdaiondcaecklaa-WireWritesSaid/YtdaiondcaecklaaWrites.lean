/- The guard of the wire's laws: numbers and a text are written and read. -/
import Derived.Test.YtdaiondcaecklaaRRead
import Derived.Laws.Slices
namespace Go.Proofs.Ytdaiondcaecklaa
set_option linter.unusedVariables false
set_option linter.unusedSimpArgs false
open Go Go.RowKit
theorem wA_new (W : World) : wA W.heap.size [] (W.alloc (.cells #[.slice none 0 0] 25)) (WFoot W.heap.size (.slice none 0 0)) :=
  ⟨_, ⟨Blk.new _ _ _, World.ownsRow_nil _ _ _ _⟩, rfl⟩
theorem Has.writer {w W : World} {ps : List Asr} (h : Has w W ps) (hl : Locs ps) : Has w (W.alloc (.cells #[.slice none 0 0] 25)) (wA W.heap.size [] :: ps) :=
  h.add hl (ext_alloc _ _) (wA_new W) (by rintro k (rfl | hk); exact Nat.le_refl _; simp [Value.ownBlock] at hk)
theorem wint_lit {W : World} {q : Nat} {l : List UInt8} {F : Nat → Prop} (h : wA q l W F) (n : Int) (t : TypeId) (hn : -9223372036854775808 ≤ n ∧ n ≤ 9223372036854775807) (hlen : l.length + 10 ≤ 70368744177664) :
    Calls Try.prog 10 #[.pointer (some ⟨q, 0, none⟩), .slice (some ⟨W.heap.size, 0, none⟩) 1 1] (W.alloc (.cells #[.int .i64 n] t)) fun e W' => e = .returned (.tuple #[]) ∧ Next F W W' (wA q (l ++ numB (zigN n))) := by
  have hl := wA_loc q l
  have h2 := hl.ext h (ext_alloc W (.cells #[.int .i64 n] t))
  refine (wint_any h2 (some ⟨W.heap.size, 0, none⟩) 1 [n] (numsAt_lit .i64 W n t) (fun a ha hf => ?_) (by simpa using hn) (by simpa using hlen)).mono ?_
  · injection ha with ha
    subst ha
    exact Nat.lt_irrefl _ (hl.lt h hf)
  · rintro e W' ⟨rfl, hN⟩
    exact ⟨rfl, by simpa using Next.ext_left (ext_alloc _ _) hN⟩
/-- a call that leaves all as it was -/
theorem Has.keeps {w W : World} {p : Asr} {ps : List Asr} {P : Program} {f : FuncId} {args : Array Value} {R : Ending → World → Prop} (h : Has w W (p :: ps)) (hl : Locs (p :: ps)) (hc : ∀ F, p W F → Calls P f args W fun e W' => R e W' ∧ Ext W W') :
    Calls P f args W fun e W' => R e W' ∧ Has w W' (p :: ps) ∧ Ext W W' := by
  obtain ⟨F, hF⟩ := h.head
  exact (hc F hF).mono fun e W' ⟨h1, h2⟩ => ⟨h1, h.ext hl h2, h2⟩
theorem Has.keeps' {w W : World} {p : Asr} {ps : List Asr} {P : Program} {f : FuncId} {args : Array Value} {R : Ending → Prop} (h : Has w W (p :: ps)) (hc : ∀ F, p W F → Calls P f args W fun e W' => R e ∧ W = W') :
    Calls P f args W fun e W' => R e ∧ W = W' := by
  obtain ⟨F, hF⟩ := h.head
  exact hc F hF
theorem bytesAt_own {W : World} {b : Nat} {p : Option Addr} {c : Nat} {l : List UInt8} (h : W.ownsRow b 5 1 (.slice p l.length c) l.length (u8s l)) : NumsAt .u8 W p (byI l) := by
  intro i hi
  rw [byI_length] at hi
  obtain ⟨a, rfl, hc⟩ := ownsRow_cell h i hi
  refine ⟨a, rfl, ?_, ?_⟩
  · have := World.block_lt_of_cell? W _ hc
    have hb : (a.add i).block = a.block := by unfold Addr.add; first | rfl | (split <;> rfl)
    rwa [hb] at this
  · rw [hc, u8s_byI, List.getD_eq_getElem?_getD, List.getD_eq_getElem?_getD, List.getElem?_map, List.getElem?_eq_getElem (by rw [byI_length]; exact hi)]
    rfl
theorem Has.reader {w W W' : World} {ps : List Asr} {bs : List UInt8} {e : Ending} (h : Has w W ps) (hl : Locs ps) (hr : ReadIs W bs e W') : ∃ r, e = .returned (.pointer (some ⟨r, 0, none⟩)) ∧ Has w W' (rA r ⟨bs, 0, 0⟩ :: ps) := by
  obtain ⟨r, F, rfl, h1, h2, h3⟩ := hr
  exact ⟨r, rfl, h.add hl h3 h1 h2⟩
theorem own_conv {W : World} {b : Nat} {p : Option Addr} {c : Nat} {l : List UInt8} (h : W.ownsRow b 5 1 (.slice p l.length c) l.length (u8s l)) :
    (convert 23 9 (.slice p l.length c)).run Try.prog W = .ok (.string (strOf l)) W := by
  have hb := bytesAt_own h
  rcases h.2 with ⟨hv, hn⟩ | ⟨g, cap, cur, hv, _⟩
  · injection hv with h1 h2 h3
    subst h1 h3
    have hl : l = [] := List.eq_nil_of_length_eq_zero hn
    subst hl
    exact run_convert_bytes_nil (P := Try.prog) W 23 5 Try.underlying23 Try.underlying5 0 0 9 Try.underlying9
  · injection hv with h1 h2 h3
    subst h1
    refine conv_bytes W g 0 c l fun i hi => ?_
    obtain ⟨a, ha, _, hc⟩ := hb i (by rw [byI_length]; exact hi)
    injection ha with ha
    subst ha
    rw [Go.WideShapes.add_plain] at hc
    rw [hc]
    congr 2
    rw [byI, List.getD_eq_getElem?_getD, List.getD_eq_getElem?_getD, List.getElem?_map, List.getElem?_eq_getElem hi]; rfl
theorem conv_zero (w : World) (a : Addr) (c : Nat) : (convert 23 9 (.slice (some a) 0 c)).run Try.prog w = .ok (.string (strOf [])) w := by
  rw [run_convert_bytes_string w 23 9 5 _ 0 c Try.underlying23 Try.underlying5 Try.underlying9, run_bytesToString w a 0 c [] (by simp [loadCells, loadCellsFrom])]
  rfl
theorem conv_at {w : World} {p : Option Addr} {c : Nat} {l : List UInt8} (h : NumsAt .u8 w p (byI l)) (hp : p = none → l.length = 0 ∧ c = 0) :
    (convert 23 9 (.slice p l.length c)).run Try.prog w = .ok (.string (strOf l)) w := by
  cases p with
  | none =>
    obtain ⟨h1, rfl⟩ := hp rfl
    have hl : l = [] := List.eq_nil_of_length_eq_zero h1
    subst hl
    exact run_convert_bytes_nil (P := Try.prog) w 23 5 Try.underlying23 Try.underlying5 0 0 9 Try.underlying9
  | some a =>
    cases l with
    | nil => exact conv_zero w a c
    | cons x l =>
      obtain ⟨a', ha, _, hc⟩ := h 0 (by simp [byI])
      injection ha with ha
      subst ha
      obtain ⟨g, o, sp⟩ := a
      have hsp : sp = none := by simpa [Addr.add] using World.cell?_spot hc
      subst hsp
      refine conv_bytes w g o c (x :: l) fun i hi => ?_
      obtain ⟨a', ha, _, hc⟩ := h i (by rw [byI_length]; exact hi)
      injection ha with ha
      subst ha
      rw [Go.WideShapes.add_plain] at hc
      rw [hc]
      congr 2
      rw [byI, List.getD_eq_getElem?_getD, List.getD_eq_getElem?_getD, List.getElem?_map, List.getElem?_eq_getElem hi]; rfl
theorem numsAt_take {k : IntKind} {w : World} {p : Option Addr} {zs : List Int} (h : NumsAt k w p zs) (n : Nat) : NumsAt k w p (zs.take n) := by
  intro i hi
  have hi' : i < zs.length := by simp at hi; omega
  have hn : i < n := by simp at hi; omega
  obtain ⟨a, rfl, h1, h2⟩ := h i hi'
  refine ⟨a, rfl, h1, ?_⟩
  rw [h2]
  congr 2
  rw [List.getD_eq_getElem?_getD, List.getD_eq_getElem?_getD, List.getElem?_take, if_pos hn]
theorem slice_to (X : World) (p : Option Addr) (n c k : Nat) (h : k ≤ c) : (Instr.sliceAt 23 (.slice p n c) none (some (.int .i64 k)) none).run Try.prog X = .ok (.slice p k c) X := by
  have ht : Try.prog.underlying 23 = some (.slice (Try.prog.elem 23)) := by kernel_rfl
  have hs : (sizeOf (Try.prog.elem 23)).run Try.prog X = .ok 1 X := by kernel_rfl
  rw [run_sliceAt_slice (w := X) _ _ _ _ _ ht, run_slice_h (w := X) _ p n c ht .i64 k (by omega) (by omega), hs]
  have h0 : p.map (·.add (0 * 1)) = p := by cases p <;> simp [Addr.add]
  simp [sliced, h0, Result.andThen]
def wroteL : List UInt8 := [172, 2, 1, 2, 97, 98]
theorem wrote_is : ([] ++ numB 300 ++ numB (zigN (-1)) ++ (numB 2 ++ [97, 98])) = wroteL := by
  rw [numB_big (n := 300) (by omega), numB_small (n := 300 / 128) (by omega), numB_small (n := zigN (-1)) (by decide)]
  rfl
theorem read1 : Rd.num 300 ⟨wroteL, 0, 0⟩ = (300, ⟨wroteL, 2, 0⟩) := rfl
theorem read2 : Rd.num 18446744073709551615 ⟨wroteL, 2, 0⟩ = (1, ⟨wroteL, 3, 0⟩) := rfl
theorem read3 : Rd.text ⟨wroteL, 3, 0⟩ = ([97, 98], ⟨wroteL, 6, 0⟩) := rfl
theorem read4 : Rd.end_ ⟨wroteL, 6, 0⟩ = 0 := rfl
set_option maxRecDepth 100000 in
set_option maxHeartbeats 2000000 in
theorem writes_any (w : World) : Calls Try.prog 9 #[] w fun e w' => e = .returned (.bool true) ∧ Ext w w' := by
  have L0 : Locs [] := .nil
  have hH : Has w (w.alloc (.cells #[.slice none 0 0] 25)) [wA w.heap.size []] := (Has.nil (Ext.refl w)).writer .nil
  go_enter Try.func9, Try.ntmps9
  go_wp2_with fail
  have hsz : (w.alloc (.cells #[.slice none 0 0] 25)).heap.size = w.heap.size + 1 := by simp
  generalize w.alloc _ = W at *
  rw [← hsz]
  clear hsz
  generalize w.heap.size = q at *
  refine (hH.act .nil fun F h => wnum_lit h 300 _ (by omega) (by simp)).mono ?_
  rintro e w1 ⟨rfl, hH1⟩
  clear hH
  go_wp2_with fail
  refine (hH1.act .nil fun F h => wint_lit h (-1) _ (by omega) (by have := numB_len (n := 300) (by omega); simp; omega)).mono ?_
  rintro e w2 ⟨rfl, hH2⟩
  clear hH1
  go_wp2_with fail
  refine (hH2.act .nil fun F h => wtext_any h _ (by decide) (by have := numB_len (n := 300) (by omega); have := numB_len (n := zigN (-1)) (by decide); simp; omega)).mono ?_
  rintro e w3 ⟨rfl, hH3⟩
  replace hH3 : Has w w3 [wA q wroteL] := by rw [← wrote_is]; exact hH3
  clear hH2
  go_wp2_with fail
  refine (hH3.keeps (.cons (wA_loc _ _) .nil) fun F h => wbytes_any h (by decide)).mono ?_
  rintro e w4 ⟨⟨v, rfl, hown⟩, hH4, -⟩
  obtain ⟨pv, cv, rfl⟩ := ownsRow_slice hown
  clear hH3
  go_wp2_with fail
  refine (read_any w4 pv cv wroteL (bytesAt_own hown) (row_nil hown) (by decide)).mono ?_
  rintro e w5 hR
  obtain ⟨r, rfl, hH5⟩ := hH4.reader (.cons (wA_loc _ _) .nil) hR
  clear hH4 hR hown
  go_wp2_with fail
  refine (hH5.swap.keeps (.cons (wA_loc _ _) (.cons (rA_loc _ _) .nil)) fun F h => wbytes_any h (by decide)).mono ?_
  rintro e w6 ⟨⟨v, rfl, hown⟩, hH6, -⟩
  obtain ⟨pv2, cv2, rfl⟩ := ownsRow_slice hown
  have hcv := own_conv hown
  have hst : strOf wroteL = ⟨#[172, 2, 1, 2, 97, 98]⟩ := rfl
  rw [hst] at hcv
  clear hH5 hst
  go_wp2_with fail
  refine (hH6.keeps' fun F h => wlen_any h).mono ?_
  rintro e w7 ⟨rfl, rfl⟩
  have hlen : ((wroteL.length : Nat) : Int) = 6 := rfl
  rw [hlen]
  clear hlen hcv hown
  go_wp2_with fail
  refine (hH6.swap.act (.cons (wA_loc _ _) .nil) fun F h => rnum_any h 300 (by omega)).mono ?_
  rintro e w8 ⟨rfl, hH8⟩
  rw [read1] at hH8
  have e1 : (((Rd.num 300 ⟨wroteL, 0, 0⟩).1 : Nat) : Int) = 300 := rfl
  rw [e1]
  clear hH6 e1
  go_wp2_with fail
  refine (hH8.act (.cons (wA_loc _ _) .nil) fun F h => rint_any h).mono ?_
  rintro e w9 ⟨rfl, hH9⟩
  rw [read2] at hH9
  have e1 : zagI (Rd.num 18446744073709551615 ⟨wroteL, 2, 0⟩).1 = -1 := rfl
  rw [e1]
  clear hH8 e1
  go_wp2_with fail
  refine (hH9.act (.cons (wA_loc _ _) .nil) fun F h => rtext_any h).mono ?_
  rintro e w10 ⟨rfl, hH10⟩
  rw [read3] at hH10
  have e1 : strOf (Rd.text ⟨wroteL, 3, 0⟩).1 = ⟨#[97, 98]⟩ := rfl
  rw [e1]
  clear hH9 e1
  go_wp2_with fail
  refine (hH10.keeps (.cons (rA_loc _ _) (.cons (wA_loc _ _) .nil)) fun F h => rend_any h).mono ?_
  rintro e w11 ⟨rfl, hH11, -⟩
  rw [read4]
  clear hH10
  go_wp2_with fail
  refine (hH11.keeps' fun F h => rat_any h).mono ?_
  rintro e w12 ⟨rfl, rfl⟩
  have hE := hH11.base
  clear hH11
  go_wp2_with fail
  go_ret
  exact ⟨rfl, hE⟩
end Go.Proofs.Ytdaiondcaecklaa
