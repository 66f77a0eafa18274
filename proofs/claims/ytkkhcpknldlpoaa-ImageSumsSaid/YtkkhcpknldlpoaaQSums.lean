/- image: fits, small. | image's laws: how long an image's bytes are; same. | ImageSums: the walk. | image: values and images that came in. | ImageSums: for every input the law returns true, and each argument reads behind the call as it read before. -/
import Derived.Test.YtkkhcpknldlpoaaQK3
import Derived.Test.YtkkhcpknldlpoaaSRef3
import Derived.Test.YtkkhcpknldlpoaaSEq
import Derived.Test.YtkkhcpknldlpoaaOpenR
import Derived.Lib.SmallJoins
import Derived.WalkKit
import Derived.ProofKit
import Derived.OpenShut
import Derived.ShutString
import Derived.ChangeOld
import Derived.Below
import Derived.Deep.Fields
set_option maxHeartbeats 2000000
namespace Go.Proofs.Ytkkhcpknldlpoaa
set_option maxRecDepth 4000
set_option linter.unusedVariables false
set_option linter.unusedSimpArgs false
open Go Go.RowKit
/-- all texts are short -/
def Fo.txt : Fo → Prop
  | .nil => True
  | .node _ _ s sub r => s.length ≤ 1100 ∧ sub.txt ∧ r.txt
theorem Fo.len_size : ∀ f : Fo, f.len ≤ f.size
  | .nil => Nat.le_refl _
  | .node _ _ _ sub r => by rw [Fo.len, Fo.size]; have := r.len_size; omega
theorem Fo.bytes_small : ∀ (f : Fo), f.ok → f.txt → f.size ≤ 1000 → f.bytes.length ≤ 1111 * f.size
  | .nil, _, _, _ => by simp [Fo.bytes]
  | .node k n s sub r, ⟨⟨_, o2⟩, o3, o4⟩, ⟨h1, h2, h3⟩, hl => by
    rw [Fo.size] at hl ⊢
    have ir := Fo.bytes_small r o4 h3 (by omega)
    have is := Fo.bytes_small sub o3 h2 (by omega)
    have ls := sub.len_size
    rw [Fo.bytes, List.length_append, List.length_cons]
    have n2 : (numB s.length).length ≤ 10 := numB_len (by omega)
    have n3 : (numB sub.len).length ≤ 10 := numB_len (by omega)
    have n1 : (numB (zigN n)).length ≤ 10 := numB_len (zigN_lt o2.1 o2.2)
    by_cases k1 : k = 1
    · rw [if_pos k1]; omega
    rw [if_neg k1]
    by_cases k2 : k = 2
    · rw [if_pos k2, List.length_append]; omega
    rw [if_neg k2]
    by_cases k3 : k = 3
    · rw [if_pos k3, List.length_append]; omega
    · rw [if_neg k3]; simp only [List.length_nil]; omega
theorem Fo.of_snoc_size (l : List Vl) (x : Vl) : (Fo.of (l ++ [x])).size = (Fo.of l).size + x.l.size + 1 := by
  induction l with
  | nil => simp [Fo.of, Fo.size]
  | cons v r ih =>
    show (Fo.node v.k v.n v.s v.l (Fo.of (r ++ [x]))).size = (Fo.node v.k v.n v.s v.l (Fo.of r)).size + x.l.size + 1
    rw [Fo.size, Fo.size, ih]; omega
theorem Fo.of_snoc_txt (l : List Vl) (x : Vl) (h : (Fo.of l).txt) (hx : x.s.length ≤ 1100 ∧ x.l.txt) : (Fo.of (l ++ [x])).txt := by
  induction l with
  | nil => exact ⟨hx.1, hx.2, trivial⟩
  | cons v r ih => exact ⟨h.1, h.2.1, ih h.2.2⟩
def FtIs (w : World) (lx left : Nat) (ps : List Asr) (v : Vl) (e : Ending) (W' : World) : Prop :=
  ∃ (ok : Bool) (t : Int), e = .returned (.bool ok) ∧ Has w W' (blkA lx 3 #[.int .i64 t] :: ps) ∧ (ok = true → v.s.length ≤ 1100 ∧ v.l.txt ∧ t + v.l.size + 1 = left ∧ 0 ≤ t)
def FtRel (w : World) (lx bx left : Nat) (cs : Array Value) (ps : List Asr) (l : List Vl) (k : Value) (wr : World) : Prop :=
  ∃ (i t : Nat), k = .int .i64 i ∧ i ≤ l.length ∧ Has w wr (blkA lx 3 #[.int .i64 t] :: blkA bx 62 cs :: ps) ∧ (Fo.of (l.take i)).txt ∧ t + (Fo.of (l.take i)).size = left
set_option maxHeartbeats 4000000 in
theorem fits_n : ∀ (m : Nat) (v : Vl), v.l.size < m → ∀ (w W : World) (ps : List Asr) (lx d left : Nat) (pl : Option Addr) (c : Nat), Has w W (blkA lx 3 #[.int .i64 left] :: ps) → Locs ps → VlAt w pl c v → left ≤ 400 → d ≤ 13 →
    Calls Try.prog 35 #[.agg (v.cells pl c).toArray, .int .i64 d, .pointer (some ⟨lx, 0, none⟩)] W fun e W' => FtIs w lx left ps v e W'
  | 0, _, h => by omega
  | m + 1, v, hm => by
    intro w W ps lx d left pl c hH hl hV hp hd
    have ih := fits_n m
    have H1 := (hH.new (.cons (blkA_loc _ _ _) hl) 62 (v.cells pl c).toArray).swap
    have L1 : Locs (blkA W.heap.size 62 (v.cells pl c).toArray :: ps) := .cons (blkA_loc _ _ _) hl
    have hne : lx ≠ W.heap.size := H1.ne2
    have H3 := H1.setB L1 0 (.int .i64 ((left : Int) - 1))
    have a0 : (W.alloc (.cells (v.cells pl c).toArray 62)).cell? ⟨lx, 0, none⟩ = some (.int .i64 left) := cell_of_row _ _ 0 _ _ _ H1.blk0
    have f0 := H1.blk0.frozen 0
    simp only [Vl.cells, List.setIfInBounds_toArray, List.set_cons_succ, List.set_cons_zero] at H3 a0 f0
    have hvl := v.l.vals_len
    have hcm := hV.cap
    have hcl := hV.len
    unfold Go.maxLen at hcm
    clear H1 L1 hH
    go_enter Try.func35, Try.ntmps35
    simp only [Vl.cells]
    go_upto_region 2 with fail
    generalize W.heap.size = bx at *
    generalize World.setCell _ _ _ = w3 at *
    clear a0 f0
    have hbl := H3.blk0
    have hbv := H3.swap.blk0
    have b2 : w3.cell? ⟨bx, 2, none⟩ = some (.string ⟨v.s.toArray⟩) := cell_of_row _ _ 2 _ _ _ hbv
    have b3 : w3.cell? ⟨bx, 3, none⟩ = some (.slice pl v.l.len c) := cell_of_row _ _ 3 _ _ _ hbv
    clear hbv
    have a0 : w3.cell? ⟨lx, 0, none⟩ = some (.int .i64 ((left : Int) - 1)) := cell_of_row _ _ 0 _ _ _ hbl
    have hsz : ((⟨v.s.toArray⟩ : ByteArray).size : Int) = v.s.length := rfl
    clear hbl
    by_cases hl0 : left = 0
    · have g0 : (left : Int) - 1 < 0 := by omega
      go_wp2_with fail
      go_returns
      exact ⟨false, _, rfl, H3.swap.drop, fun h => by cases h⟩
    have g0 : ¬ (left : Int) - 1 < 0 := by omega
    by_cases hd2 : 12 < d
    · have g1 : (12 : Int) < d := by omega
      go_wp2_with fail
      go_returns
      exact ⟨false, _, rfl, H3.swap.drop, fun h => by cases h⟩
    have g1 : ¬ (12 : Int) < d := by omega
    by_cases hs2 : 1100 < v.s.length
    · have g2 : (1100 : Int) < ((⟨v.s.toArray⟩ : ByteArray).size : Int) := by omega
      clear hsz
      go_wp2_with fail
      go_returns
      exact ⟨false, _, rfl, H3.swap.drop, fun h => by cases h⟩
    have g2 : ¬ (1100 : Int) < ((⟨v.s.toArray⟩ : ByteArray).size : Int) := by omega
    clear hsz
    have hl1 : (left : Int) - 1 = ((left - 1 : Nat) : Int) := by omega
    rw [hl1] at H3 a0 g0
    try rw [hl1]
    go_wp2_with fail
    go_loopw [31] (fun k wr => FtRel w lx bx (left - 1) #[.int .i64 v.k, .int .i64 v.n, .string ⟨v.s.toArray⟩, .slice pl v.l.len c] ps v.l.vals k wr) (fun k _ => ((v.l.len : Int) + 1 - intOf k).toNat)
    case atStart => exact ⟨0, left - 1, rfl, Nat.zero_le _, H3, trivial, by simp [Fo.of, Fo.size]⟩
    case round =>
      obtain ⟨i, t, rfl, hi, hX, hT, hS⟩ := hrel
      have LX : Locs (blkA bx 62 #[.int .i64 v.k, .int .i64 v.n, .string ⟨v.s.toArray⟩, .slice pl v.l.len c] :: ps) := .cons (blkA_loc _ _ _) hl
      clear H3 a0 b2 b3
      by_cases hlt : i < v.l.vals.length
      · obtain ⟨b, o, q2, c2, rfl, hV2, d0, d1, d2, d3⟩ := hV.fo.get i hlt
        have hmem := List.getElem_mem hlt
        have hsz := Fo.size_mem hmem
        have htk : v.l.vals.take (i + 1) = v.l.vals.take i ++ [v.l.vals[i]] := by rw [List.take_succ_eq_append_getElem hlt]
        have HT := Lib.hid htk
        clear htk
        generalize v.l.vals[i] = x at *
        replace d0 := cell_ext hX.base d0
        replace d1 := cell_ext hX.base d1
        replace d2 := cell_ext hX.base d2
        replace d3 := cell_ext hX.base d3
        rw [Nat.zero_add, Nat.mul_comm 4 i] at d0 d1 d2 d3
        have i7 : (i : Int) < v.l.len := by omega
        have X2 := hX.ext (.cons (blkA_loc _ _ _) LX) (ext_alloc wr (.cells (x.cells q2 c2).toArray 62))
        have hc := Lib.hid (ih x (by omega) _ _ _ lx (d + 1) t _ _ X2 LX hV2 (by omega) (by omega))
        have e3 : ((d + 1 : Nat) : Int) = (d : Int) + 1 := by omega
        rw [e3] at hc
        simp only [Vl.cells] at hc
        clear X2 e3 hX
        go_wp2_with fail
        refine hc.out.mono ?_
        rintro e w4 ⟨ok, t2, rfl, H5, hok⟩
        clear hc d0 d1 d2 d3
        cases ok with
        | false =>
          go_wp2_with fail
          go_returns
          exact ⟨false, _, rfl, H5.swap.drop, fun h => by cases h⟩
        | true =>
          obtain ⟨h1, h2, h3, h4⟩ := hok rfl
          obtain ⟨t3, rfl⟩ := Int.eq_ofNat_of_zero_le h4
          clear hok
          go_wp2_with fail
          refine ⟨⟨i + 1, t3, by go_num, by omega, H5, ?_, ?_⟩, by simp [intOf]; omega⟩
          · rw [HT.out]; exact Fo.of_snoc_txt _ _ hT ⟨h1, h2⟩
          · rw [HT.out, Fo.of_snoc_size]; omega
      · have hi' : i = v.l.vals.length := by omega
        have i7 : ¬ (i : Int) < v.l.len := by omega
        rw [hi', List.take_of_length_le (Nat.le_refl _), Fo.vals_of] at hT hS
        go_wp2_with fail
        go_returns
        exact ⟨true, t, rfl, hX.swap.drop, fun _ => ⟨by omega, hT, by omega, by omega⟩⟩
def Im.Small (p : Im) : Prop := p.code.length ≤ 600 ∧ p.consts.len ≤ 70 ∧ p.names.length ≤ 40 ∧ p.consts.txt ∧ p.consts.size ≤ 400
def SmIs (p : Im) (e : Ending) : Prop := ∃ ok : Bool, e = .returned (.bool ok) ∧ (ok = true → p.Small)
def SmRel (w : World) (lx : Nat) (ps : List Asr) (l : List Vl) (k : Value) (wr : World) : Prop :=
  ∃ (i t : Nat), k = .int .i64 i ∧ i ≤ l.length ∧ Has w wr (blkA lx 3 #[.int .i64 t] :: ps) ∧ (Fo.of (l.take i)).txt ∧ t + (Fo.of (l.take i)).size = 400
def SnRel (w : World) (n : Nat) (k : Value) (wr : World) : Prop := ∃ (i : Nat), k = .int .i64 i ∧ i ≤ n ∧ Ext w wr
set_option maxHeartbeats 4000000 in
theorem small_any (p : Im) (a : Ip) (W : World) (hI : ImAt W a p) :
    Calls Try.prog 11 #[.agg (p.cells a).toArray] W fun e W' => SmIs p e ∧ Ext W W' := by
  obtain ⟨pc, cc, pk, ck, pn, cn⟩ := a
  have H1 := (Has.nil (Ext.refl W)).new .nil 26 (p.cells ⟨pc, cc, pk, ck, pn, cn⟩).toArray
  simp only [Im.cells] at H1
  have hIk := hI.consts
  have hIn := hI.names
  simp only at hIk hIn
  have hkl := hIk.len
  have hkc := hIk.cap
  have hnl := hI.namesOk.len
  have hnc := hI.namesOk.cap
  unfold Go.maxLen at hkc hnc
  simp only at hkl hkc hnl hnc
  have hvl := p.consts.vals_len
  go_enter Try.func11, Try.ntmps11
  simp only [Im.cells]
  go_upto_region 1 with fail
  generalize World.alloc _ _ = W1 at *
  generalize W.heap.size = bx at *
  have hbl := H1.blk0
  have b0 : W1.cell? ⟨bx, 0, none⟩ = some (.slice pc p.code.length cc) := hbl.cell 0
  have b1 : W1.cell? ⟨bx, 1, none⟩ = some (.slice pk p.consts.len ck) := hbl.cell 1
  have b2 : W1.cell? ⟨bx, 2, none⟩ = some (.slice pn p.names.length cn) := hbl.cell 2
  have H2 := H1.new (.cons (blkA_loc _ _ _) .nil) 3 #[.int .i64 400]
  clear hbl
  by_cases hr1 : (600 : Int) < p.code.length
  · clear H2
    go_wp2_with fail
    go_returns
    exact ⟨⟨false, rfl, fun h => by cases h⟩, H1.base⟩
  by_cases hr2 : (70 : Int) < p.consts.len
  · clear H2
    go_wp2_with fail
    go_returns
    exact ⟨⟨false, rfl, fun h => by cases h⟩, H1.base⟩
  by_cases hr3 : (40 : Int) < p.names.length
  · clear H2
    go_wp2_with fail
    go_returns
    exact ⟨⟨false, rfl, fun h => by cases h⟩, H1.base⟩
  go_upto_region 4 with fail
  generalize World.alloc W1 _ = W2 at *
  generalize hlx : Array.size (World.heap W1) = lx at *
  have L2 : Locs [blkA bx 26 #[.slice pc p.code.length cc, .slice pk p.consts.len ck, .slice pn p.names.length cn, .int .i64 p.places]] := .cons (blkA_loc _ _ _) .nil
  have hbl := H2.swap.blk0
  clear b0 b1 b2
  have b1 : W2.cell? ⟨bx, 1, none⟩ = some (.slice pk p.consts.len ck) := hbl.cell 1
  clear hbl
  go_wp2_with fail
  go_loopw [27] (fun k wr => SmRel W lx [blkA bx 26 #[.slice pc p.code.length cc, .slice pk p.consts.len ck, .slice pn p.names.length cn, .int .i64 p.places]] p.consts.vals k wr) (fun k _ => ((p.consts.len : Int) + 1 - intOf k).toNat)
  case atStart => exact ⟨0, 400, rfl, Nat.zero_le _, H2, trivial, by simp [Fo.of, Fo.size]⟩
  case round =>
    obtain ⟨i, t, rfl, hi, hX, hT, hS⟩ := hrel
    clear H1 H2 b1 hlx
    by_cases hlt : i < p.consts.vals.length
    · obtain ⟨b, o, q2, c2, hq, hV2, d0, d1, d2, d3⟩ := hIk.at.fo.get i hlt
      have hmem := List.getElem_mem hlt
      have hsz := Fo.size_mem hmem
      have htk : p.consts.vals.take (i + 1) = p.consts.vals.take i ++ [p.consts.vals[i]] := by rw [List.take_succ_eq_append_getElem hlt]
      have HT := Lib.hid htk
      clear htk
      simp only at hq hV2 d0 d1 d2 d3
      subst hq
      generalize p.consts.vals[i] = x at *
      replace d0 := cell_ext hX.base d0
      replace d1 := cell_ext hX.base d1
      replace d2 := cell_ext hX.base d2
      replace d3 := cell_ext hX.base d3
      rw [Nat.zero_add, Nat.mul_comm 4 i] at d0 d1 d2 d3
      have i7 : (i : Int) < p.consts.len := by omega
      have X2 := hX.ext (.cons (blkA_loc _ _ _) L2) (ext_alloc wr (.cells (x.cells q2 c2).toArray 62))
      have hc := Lib.hid (fits_n _ x (Nat.lt_succ_self _) _ _ _ lx 0 t _ _ X2 L2 hV2 (by omega) (by omega))
      have e3 : ((0 : Nat) : Int) = 0 := rfl
      rw [e3] at hc
      simp only [Vl.cells] at hc
      clear X2 e3 hX
      go_wp2_with fail
      refine hc.out.mono ?_
      rintro e w4 ⟨ok, t2, rfl, H5, hok⟩
      clear hc d0 d1 d2 d3
      cases ok with
      | false =>
        go_wp2_with fail
        go_returns
        exact ⟨⟨false, rfl, fun h => by cases h⟩, H5.base⟩
      | true =>
        obtain ⟨h1, h2, h3, h4⟩ := hok rfl
        obtain ⟨t3, rfl⟩ := Int.eq_ofNat_of_zero_le h4
        clear hok
        go_wp2_with fail
        refine ⟨⟨i + 1, t3, by go_num, by omega, H5, ?_, ?_⟩, by simp [intOf]; omega⟩
        · rw [HT.out]; exact Fo.of_snoc_txt _ _ hT ⟨h1, h2⟩
        · rw [HT.out, Fo.of_snoc_size]; omega
    · have hi' : i = p.consts.vals.length := by omega
      have i7 : ¬ (i : Int) < p.consts.len := by omega
      rw [hi', List.take_of_length_le (Nat.le_refl _), Fo.vals_of] at hT hS
      have b2 : wr.cell? ⟨bx, 2, none⟩ = some (.slice pn p.names.length cn) := hX.swap.blk0.cell 2
      have hEr := hX.base
      have HS := Lib.hid hS
      have HT2 := Lib.hid hT
      clear hX hS hT
      go_wp2_with fail
      go_loopw [38] (fun k wn => SnRel wr p.names.length k wn) (fun k _ => ((p.names.length : Int) + 1 - intOf k).toNat)
      case atStart => exact ⟨0, rfl, Nat.zero_le _, Ext.refl _⟩
      case round =>
        obtain ⟨j, rfl, hj, hE2⟩ := hrel
        clear b2
        by_cases hjt : j < p.names.length
        · obtain ⟨b, o, hq, _, d0⟩ := hIn j hjt
          subst hq
          generalize p.names[j] = s at *
          replace d0 := cell_ext (hEr.trans hE2) d0
          have j7 : (j : Int) < p.names.length := by omega
          have hsz : ((⟨s.toArray⟩ : ByteArray).size : Int) = s.length := rfl
          by_cases h2 : (200 : Int) < ((⟨s.toArray⟩ : ByteArray).size : Int)
          · have h3 : (200 : Int) < s.length := by omega
            clear hsz
            go_wp2_with fail
            go_returns
            exact ⟨⟨false, rfl, fun h => by cases h⟩, hEr.trans hE2⟩
          · have h3 : ¬ (200 : Int) < s.length := by omega
            clear hsz
            go_wp2_with fail
            exact ⟨⟨j + 1, by go_num, by omega, hE2⟩, by simp [intOf]; omega⟩
        · have j7 : ¬ (j : Int) < p.names.length := by omega
          go_wp2_with fail
          go_returns
          exact ⟨⟨true, rfl, fun _ => ⟨by omega, by omega, by omega, HT2.out, by have := HS.out; omega⟩⟩, hEr.trans hE2⟩
theorem Fo.txt_mem : ∀ {f : Fo} {v : Vl}, f.txt → v ∈ f.vals → v.s.length ≤ 1100 ∧ v.l.txt
  | .nil, v, _, h => by simp [Fo.vals] at h
  | .node k n s sub r, v, ho, h => by
    rw [Fo.vals] at h
    rcases List.mem_cons.1 h with rfl | h
    · exact ⟨ho.1, ho.2.1⟩
    · exact Fo.txt_mem ho.2.2 h
theorem Im.Small.bytes {p : Im} (h : p.Small) (hok : p.ok) : ∀ v ∈ p.consts.vals, v.bytes.length ≤ 70368744170000 := fun v hv => by
  obtain ⟨_, _, _, h4, h5⟩ := h
  have h6 := Fo.bytes_small p.consts hok.consts h4 (by omega)
  rw [Fo.bytes_vals] at h6
  obtain ⟨l1, l2, hl⟩ := List.append_of_mem hv
  rw [hl, List.flatMap_append, List.flatMap_cons] at h6
  simp only [List.length_append] at h6
  omega
end Go.Proofs.Ytkkhcpknldlpoaa

namespace Go.Proofs.Ytkkhcpknldlpoaa
set_option maxRecDepth 4000
set_option linter.unusedVariables false
set_option linter.unusedSimpArgs false
open Go Go.RowKit
theorem Im.bytes_le {p : Im} (h : p.check = 0) : p.bytes.length ≤ 41000 := by
  have hf := Im.fine h
  have h1 := flat_len (l := p.consts.vals) (f := Vl.bytes) (c := 512) fun v hv => check_bytes (hf.consts v hv)
  have h2 := flat_len (l := p.names) (f := nameB) (c := 74) fun v hv => nameB_len (hf.names v hv)
  have h3 := flat_len (l := p.code) (f := instrB) (c := 11) fun v hv => instrB_len (hf.code v hv).2.2
  rw [Fo.vals_len] at h1
  have f1 := hf.ncode
  have f2 := hf.nconsts
  have f3 := hf.nnames
  have f4 := hf.nplaces
  have n1 : (numB p.places.toNat).length ≤ 10 := numB_len (by omega)
  have n2 : (numB p.consts.len).length ≤ 10 := numB_len (by omega)
  have n3 : (numB p.names.length).length ≤ 10 := numB_len (by omega)
  have n4 : (numB p.code.length).length ≤ 10 := numB_len (by omega)
  unfold Im.bytes
  simp only [List.length_append]
  omega
theorem Im.vals_le {p : Im} (h : p.check = 0) : ∀ v ∈ p.consts.vals, v.bytes.length ≤ 70368744170000 := fun v hv => by
  have := check_bytes ((Im.fine h).consts v hv)
  omega
set_option maxHeartbeats 4000000 in
theorem same_any (p q : Im) (a b : Ip) (W : World) (hI : ImAt W a p) (hJ : ImAt W b q) (hok : p.ok) (hoq : q.ok) (hp : p.check = 0) (hq : q.check = 0) (he : p.bytes = q.bytes) :
    Calls Try.prog 17 #[.agg (p.cells a).toArray, .agg (q.cells b).toArray] W fun e W' => e = .returned (.bool true) ∧ Ext W W' := by
  have hcz : (p.cells a).toArray = #[.slice a.pc p.code.length a.cc, .slice a.pk p.consts.len a.ck, .slice a.pn p.names.length a.cn, .int .i64 p.places] := rfl
  have hcy : (q.cells b).toArray = #[.slice b.pc q.code.length b.cc, .slice b.pk q.consts.len b.ck, .slice b.pn q.names.length b.cn, .int .i64 q.places] := rfl
  have H1 := ((Has.nil (Ext.refl W)).new .nil 26 (p.cells a).toArray).new (.cons (blkA_loc _ _ _) .nil) 26 (q.cells b).toArray
  have hE0 := H1.base
  have hba := H1.swap.blk0
  have hbb := H1.blk0
  clear H1
  rw [hcz] at hba hbb hE0 ⊢
  rw [hcy] at hba hbb hE0 ⊢
  go_enter Try.func17, Try.ntmps17
  go_upto_region 1 with fail
  generalize World.alloc (World.alloc _ _) _ = w0 at *
  have hsz : (W.alloc (.cells #[.slice a.pc p.code.length a.cc, .slice a.pk p.consts.len a.ck, .slice a.pn p.names.length a.cn, .int .i64 p.places] 26)).heap.size = W.heap.size + 1 := by simp
  rw [hsz] at hbb
  generalize W.heap.size = bx at *
  generalize bx + 1 = cx at *
  have x0 : ∀ z : ExtOf w0, z.val.cell? ⟨bx, 0, none⟩ = some (.slice a.pc p.code.length a.cc) := fun z => (z.property.cell _ _ hba.lt).trans (hba.cell 0)
  have x1 : ∀ z : ExtOf w0, z.val.cell? ⟨bx, 1, none⟩ = some (.slice a.pk p.consts.len a.ck) := fun z => (z.property.cell _ _ hba.lt).trans (hba.cell 1)
  have x2 : ∀ z : ExtOf w0, z.val.cell? ⟨bx, 2, none⟩ = some (.slice a.pn p.names.length a.cn) := fun z => (z.property.cell _ _ hba.lt).trans (hba.cell 2)
  have x3 : ∀ z : ExtOf w0, z.val.cell? ⟨bx, 3, none⟩ = some (.int .i64 p.places) := fun z => (z.property.cell _ _ hba.lt).trans (hba.cell 3)
  have y0 : ∀ z : ExtOf w0, z.val.cell? ⟨cx, 0, none⟩ = some (.slice b.pc q.code.length b.cc) := fun z => (z.property.cell _ _ hbb.lt).trans (hbb.cell 0)
  have y1 : ∀ z : ExtOf w0, z.val.cell? ⟨cx, 1, none⟩ = some (.slice b.pk q.consts.len b.ck) := fun z => (z.property.cell _ _ hbb.lt).trans (hbb.cell 1)
  have y2 : ∀ z : ExtOf w0, z.val.cell? ⟨cx, 2, none⟩ = some (.slice b.pn q.names.length b.cn) := fun z => (z.property.cell _ _ hbb.lt).trans (hbb.cell 2)
  have y3 : ∀ z : ExtOf w0, z.val.cell? ⟨cx, 3, none⟩ = some (.int .i64 q.places) := fun z => (z.property.cell _ _ hbb.lt).trans (hbb.cell 3)
  have C1 : ∀ z : ExtOf w0, Calls Try.prog 12 #[.agg #[.slice a.pc p.code.length a.cc, .slice a.pk p.consts.len a.ck, .slice a.pn p.names.length a.cn, .int .i64 p.places]] z.val fun e W' => e = .returned (.int .i64 0) ∧ ∃ y : ExtOf w0, W' = y.val := fun z => by
    have h := rimcheck_any p a z.val ((hI.ext hE0).ext z.property) hok (Im.vals_le hp)
    rw [hcz, hp] at h
    exact quiet_ext h
  have C2 : ∀ z : ExtOf w0, Calls Try.prog 12 #[.agg #[.slice b.pc q.code.length b.cc, .slice b.pk q.consts.len b.ck, .slice b.pn q.names.length b.cn, .int .i64 q.places]] z.val fun e W' => e = .returned (.int .i64 0) ∧ ∃ y : ExtOf w0, W' = y.val := fun z => by
    have h := rimcheck_any q b z.val ((hJ.ext hE0).ext z.property) hoq (Im.vals_le hq)
    rw [hcy, hq] at h
    exact quiet_ext h
  have B1 : ∀ z : ExtOf w0, Calls Try.prog 16 #[.agg #[.slice a.pc p.code.length a.cc, .slice a.pk p.consts.len a.ck, .slice a.pn p.names.length a.cn, .int .i64 p.places]] z.val fun e W' => e = .returned (.string (strOf p.bytes)) ∧ ∃ y : ExtOf w0, W' = y.val := fun z => by
    have h := rimbytes_any p a z.val ((hI.ext hE0).ext z.property) hok hp
    rw [hcz] at h
    exact quiet_ext h
  have B2 : ∀ z : ExtOf w0, Calls Try.prog 16 #[.agg #[.slice b.pc q.code.length b.cc, .slice b.pk q.consts.len b.ck, .slice b.pn q.names.length b.cn, .int .i64 q.places]] z.val fun e W' => e = .returned (.string (strOf p.bytes)) ∧ ∃ y : ExtOf w0, W' = y.val := fun z => by
    have h := rimbytes_any q b z.val ((hJ.ext hE0).ext z.property) hoq hq
    rw [hcy, ← he] at h
    exact quiet_ext h
  generalize strOf p.bytes = s at *
  refine region_ext (by kernel_rfl) (by kernel_rfl) ?_
  repeat (go_big_quiet_step (first | (with_reducible exact C1 _) | (with_reducible exact C2 _) | (with_reducible exact B1 _) | (with_reducible exact B2 _)))
  refine wpQuiet_nil ?_
  intro wq hq
  obtain ⟨xq, rfl⟩ := hq
  have hEq := xq.property
  generalize xq.val = wq at *
  clear xq
  clear x0 x1 x2 x3 y0 y1 y2 y3 C1 C2 B1 B2
  go_wp2_with fail
  go_returns
  exact ⟨rfl, hE0.trans hEq⟩
end Go.Proofs.Ytkkhcpknldlpoaa

namespace Go.Proofs.Ytkkhcpknldlpoaa
set_option maxRecDepth 4000
set_option linter.unusedVariables false
set_option linter.unusedSimpArgs false
open Go Go.RowKit
set_option maxHeartbeats 4000000 in
theorem sums_any (w : World) (nm ot : List UInt8) (p : Im) (a : Ip) (hI : ImAt w a p) (hok : p.ok) :
    Calls Try.prog 9 #[.string ⟨nm.toArray⟩, .string ⟨ot.toArray⟩, .agg (p.cells a).toArray] w fun e w' => e = .returned (.bool true) ∧ Ext w w' := by
  have hcz : (p.cells a).toArray = #[.slice a.pc p.code.length a.cc, .slice a.pk p.consts.len a.ck, .slice a.pn p.names.length a.cn, .int .i64 p.places] := rfl
  have hbo := Blk.new w 26 (p.cells a).toArray
  have hE0 := ext_alloc w (.cells (p.cells a).toArray 26)
  rw [hcz] at hbo hE0 ⊢
  go_enter Try.func9, Try.ntmps9
  go_upto_region 1 with fail
  generalize World.alloc _ _ = w0 at *
  generalize w.heap.size = bx at *
  go_wp2_with fail
  refine (loads_any w0).mono ?_
  rintro e w1 ⟨rfl, hE1⟩
  go_upto_region 3 with fail
  replace hbo : Blk _ _ _ _ := (hE1.block _ hbo.lt).trans hbo
  have hEa := hE0.trans hE1
  by_cases hl1 : (100 : Int) < nm.length
  · go_wp2_with fail
    go_returns
    exact ⟨rfl, hEa⟩
  by_cases hl2 : (100 : Int) < ot.length
  · go_wp2_with fail
    go_returns
    exact ⟨rfl, hEa⟩
  have k0 : w1.cell? ⟨bx, 0, none⟩ = some (.slice a.pc p.code.length a.cc) := hbo.cell 0
  have k1 : w1.cell? ⟨bx, 1, none⟩ = some (.slice a.pk p.consts.len a.ck) := hbo.cell 1
  have k2 : w1.cell? ⟨bx, 2, none⟩ = some (.slice a.pn p.names.length a.cn) := hbo.cell 2
  have k3 : w1.cell? ⟨bx, 3, none⟩ = some (.int .i64 p.places) := hbo.cell 3
  have hsm := small_any p a w1 (hI.ext hEa)
  rw [hcz] at hsm
  go_wp2_with fail
  refine hsm.mono ?_
  rintro e w2 ⟨⟨ok, rfl, hok2⟩, hE2⟩
  clear hsm k0 k1 k2 k3
  have hEb := hEa.trans hE2
  cases ok with
  | false =>
    go_wp2_with fail
    go_returns
    exact ⟨rfl, hEb⟩
  | true =>
    have hsb := (hok2 rfl).bytes hok
    replace hbo : Blk _ _ _ _ := (hE2.block _ hbo.lt).trans hbo
    have k0 : w2.cell? ⟨bx, 0, none⟩ = some (.slice a.pc p.code.length a.cc) := hbo.cell 0
    have k1 : w2.cell? ⟨bx, 1, none⟩ = some (.slice a.pk p.consts.len a.ck) := hbo.cell 1
    have k2 : w2.cell? ⟨bx, 2, none⟩ = some (.slice a.pn p.names.length a.cn) := hbo.cell 2
    have k3 : w2.cell? ⟨bx, 3, none⟩ = some (.int .i64 p.places) := hbo.cell 3
    clear hok2
    by_cases hl3 : (40 : Int) < p.code.length
    · go_wp2_with fail
      go_returns
      exact ⟨rfl, hEb⟩
    have hI2 := hI.ext hEb
    have hbo2 := hbo
    have hnw := Lib.hid (new_any nm p a w2 hI2 hok hsb)
    rw [hcz] at hnw
    go_wp2_with fail
    refine hnw.out.mono ?_
    rintro e w3 hN
    clear hnw k0 k1 k2 k3
    by_cases h64 : 64 < nm.length
    · have g64 : (64 : Int) < nm.length := by omega
      have hne : newE nm p = 2 := if_pos h64
      rcases hN with ⟨_, rfl, hE3⟩ | ⟨h0, _⟩
      · go_wp2_with fail
        go_returns
        exact ⟨rfl, hEb.trans hE3⟩
      · rw [hne] at h0; cases h0
    have g64 : ¬ (64 : Int) < nm.length := by omega
    have hne : newE nm p = p.check := if_neg h64
    unfold NewIs at hN
    rw [hne] at hN
    by_cases hp0 : p.check = 0
    case neg =>
      rcases hN with ⟨_, rfl, hE3⟩ | ⟨h0, _⟩
      case inr => exact absurd h0 hp0
      replace hbo : Blk _ _ _ _ := (hE3.block _ hbo.lt).trans hbo
      have k0 : w3.cell? ⟨bx, 0, none⟩ = some (.slice a.pc p.code.length a.cc) := hbo.cell 0
      have k1 : w3.cell? ⟨bx, 1, none⟩ = some (.slice a.pk p.consts.len a.ck) := hbo.cell 1
      have k2 : w3.cell? ⟨bx, 2, none⟩ = some (.slice a.pn p.names.length a.cn) := hbo.cell 2
      have k3 : w3.cell? ⟨bx, 3, none⟩ = some (.int .i64 p.places) := hbo.cell 3
      have hck := Lib.hid (rimcheck_any p a w3 (hI2.ext hE3) hok hsb)
      rw [hcz] at hck
      have g1 : (p.check != 0) = true := by simp [hp0]
      go_wp2_with fail
      refine hck.out.mono ?_
      rintro e w4 ⟨rfl, hE4⟩
      clear hck k0 k1 k2 k3
      replace hbo : Blk _ _ _ _ := (hE4.block _ hbo.lt).trans hbo
      have k0 : w4.cell? ⟨bx, 0, none⟩ = some (.slice a.pc p.code.length a.cc) := hbo.cell 0
      have k1 : w4.cell? ⟨bx, 1, none⟩ = some (.slice a.pk p.consts.len a.ck) := hbo.cell 1
      have k2 : w4.cell? ⟨bx, 2, none⟩ = some (.slice a.pn p.names.length a.cn) := hbo.cell 2
      have k3 : w4.cell? ⟨bx, 3, none⟩ = some (.int .i64 p.places) := hbo.cell 3
      have hck := Lib.hid (rimcheck_any p a w4 ((hI2.ext hE3).ext hE4) hok hsb)
      rw [hcz] at hck
      go_wp2_with fail
      refine hck.out.mono ?_
      rintro e w5 ⟨rfl, hE5⟩
      clear hck k0 k1 k2 k3
      go_wp2_with fail
      go_returns
      exact ⟨rfl, ((hEb.trans hE3).trans hE4).trans hE5⟩
    rcases hN with ⟨hbad, _⟩ | ⟨_, b, aq, rfl, H3⟩
    · exact absurd hp0 hbad
    have hE3 := H3.base
    have hEc := hEb.trans hE3
    have hI3 := hI2.ext hE3
    replace hbo : Blk _ _ _ _ := (hE3.block _ hbo.lt).trans hbo
    have k0 : w3.cell? ⟨bx, 0, none⟩ = some (.slice a.pc p.code.length a.cc) := hbo.cell 0
    have k1 : w3.cell? ⟨bx, 1, none⟩ = some (.slice a.pk p.consts.len a.ck) := hbo.cell 1
    have k2 : w3.cell? ⟨bx, 2, none⟩ = some (.slice a.pn p.names.length a.cn) := hbo.cell 2
    have k3 : w3.cell? ⟨bx, 3, none⟩ = some (.int .i64 p.places) := hbo.cell 3
    have hck := Lib.hid (rimcheck_any p a w3 hI3 hok hsb)
    rw [hcz, hp0] at hck
    go_wp2_with fail
    refine hck.out.mono ?_
    rintro e w4 ⟨rfl, hE4⟩
    clear hck k0 k1 k2 k3
    have LQ : Locs [blkA b 113 (pgS nm p.clone aq false).toArray, imA aq p.clone] := .cons (blkA_loc _ _ _) (.cons (imA_loc _ _) .nil)
    have H4 := H3.ext LQ hE4
    have hI4 := hI3.ext hE4
    replace hbo : Blk _ _ _ _ := (hE4.block _ hbo.lt).trans hbo
    have k0 : w4.cell? ⟨bx, 0, none⟩ = some (.slice a.pc p.code.length a.cc) := hbo.cell 0
    have k1 : w4.cell? ⟨bx, 1, none⟩ = some (.slice a.pk p.consts.len a.ck) := hbo.cell 1
    have k2 : w4.cell? ⟨bx, 2, none⟩ = some (.slice a.pn p.names.length a.cn) := hbo.cell 2
    have k3 : w4.cell? ⟨bx, 3, none⟩ = some (.int .i64 p.places) := hbo.cell 3
    have hby := Lib.hid (rimbytes_any p a w4 hI4 hok hp0)
    rw [hcz] at hby
    have hbl := Im.bytes_le hp0
    have hadd1 : ∀ X, (Op.stringOp .add ⟨nm.toArray⟩ ⟨#[0]⟩).run Try.prog X = .ok (.string (strOf (nm ++ [0]))) X := fun X => str_add nm [0] (by simp; omega) X
    obtain ⟨tx, htx⟩ : ∃ tx, nm ++ [0] ++ p.bytes = tx := ⟨_, rfl⟩
    obtain ⟨n0, hn0⟩ : ∃ n0, nm ++ [0] = n0 := ⟨_, rfl⟩
    have hadd2 : ∀ X, (Op.stringOp .add (strOf n0) (strOf p.bytes)).run Try.prog X = .ok (.string (strOf tx)) X := fun X => by
      rw [← htx, hn0]; exact str_add n0 p.bytes (by rw [← hn0]; simp; omega) X
    have htl : tx.length ≤ 100000 := by rw [← htx]; simp; omega
    have hsd : sha tx = sumOf nm p.clone := by rw [← htx, sumOf, Im.clone_bytes, List.append_assoc]
    have HSD := Lib.hid hsd
    have hsl : (sumOf nm p.clone).length = 32 := sha_len _
    have hc0 : p.clone.check = 0 := by rw [Im.clone_check]; exact hp0
    have hoc := Im.clone_ok hok
    rw [hn0] at hadd1
    clear htx hn0 hsd
    clear H3 hE3 hE4
    go_wp2_with fail
    refine hby.out.mono ?_
    rintro e w5 ⟨rfl, hE5⟩
    clear hby k0 k1 k2 k3
    have hof := Lib.hid (refof_any w5 tx htl)
    go_wp2_with fail
    refine hof.out.mono ?_
    rintro e w6 ⟨rfl, hE6⟩
    clear hof hadd1 hadd2
    rw [HSD.out]
    generalize hsm : sumOf nm p.clone = sm at *
    have hE56 := hE5.trans hE6
    have H6 := H4.ext LQ hE56
    replace hbo : Blk _ _ _ _ := (hE56.block _ hbo.lt).trans hbo
    have hI6 := hI4.ext hE56
    have H7 := H6.new LQ 66 (u8s (zb 32)).toArray
    have hr9 := H7.blk0
    have H8 := BdA_row (l' := sm) H7 LQ
    clear hE5 hE6 hE56 H4 H6 HSD htl H7
    go_upto_region 13 with (refine wpList_store_row rfl _ _ _ rfl (Array.size (World.heap w6)) (u8s sm).toArray rfl rfl _ _ hr9 (smSize hsl) (by simp [zb, u8s, hsl]) (u8s_oneAll _) ?_)
    simp only [Act.put]
    generalize hX : World.setRow _ _ _ = w7
    replace H8 : Has w2 w7 [BdA 66 (Array.size (World.heap w6)) sm, blkA b 113 (pgS nm p.clone aq false).toArray, imA aq p.clone] := by
      rw [← hX]; exact H8
    clear hX hr9
    generalize Array.size (World.heap w6) = sx at *
    have hE7 := H8.base
    have hI7 := hI2.ext hE7
    clear hbo hI6 hI4 hI3 hEc
    have hbo : Blk w7 bx 26 #[.slice a.pc p.code.length a.cc, .slice a.pk p.consts.len a.ck, .slice a.pn p.names.length a.cn, .int .i64 p.places] := (hE7.block _ hbo2.lt).trans hbo2
    have k0 : w7.cell? ⟨bx, 0, none⟩ = some (.slice a.pc p.code.length a.cc) := hbo.cell 0
    have k1 : w7.cell? ⟨bx, 1, none⟩ = some (.slice a.pk p.consts.len a.ck) := hbo.cell 1
    have k2 : w7.cell? ⟨bx, 2, none⟩ = some (.slice a.pn p.names.length a.cn) := hbo.cell 2
    have k3 : w7.cell? ⟨bx, 3, none⟩ = some (.int .i64 p.places) := hbo.cell 3
    have hnw := Lib.hid (new_any ot p a w7 hI7 hok hsb)
    rw [hcz] at hnw
    go_wp2_with fail
    refine hnw.out.mono ?_
    rintro e w8 hN
    clear hnw k0 k1 k2 k3
    have L8 : Locs [blkA sx 66 (u8s sm).toArray, blkA b 113 (pgS nm p.clone aq false).toArray, imA aq p.clone] := .cons (blkA_loc _ _ _) LQ
    rcases hN with ⟨_, rfl, hE8⟩ | ⟨hn0, r, ar, rfl, HR⟩
    · go_upto_region 14 with fail
      refine region_ext (by kernel_rfl) (by kernel_rfl) ?_
      repeat (go_big_quiet_step (fail))
      refine wpQuiet_nil ?_
      intro wq hq
      obtain ⟨xq, rfl⟩ := hq
      have hEq := xq.property
      generalize xq.val = wq at *
      clear xq
      have H9 := H8.ext L8 (hE8.trans hEq)
      clear hEq hE8 H8
      go_upto_region 16 with fail
      have LP : Locs [BdA 66 sx sm] := .cons (blkA_loc _ _ _) .nil
      have HP0 := ((H9.swap).perm (List.Perm.cons _ (List.Perm.swap _ _ _))).ext (.cons (blkA_loc _ _ _) (.cons (imA_loc _ _) LP)) ((Ext.refl wq).drew)
      have hF0 : Blk wq.drew sx 66 (u8s sm).toArray ∧ Blk wq.drew bx 26 #[.slice a.pc p.code.length a.cc, .slice a.pk p.consts.len a.ck, .slice a.pn p.names.length a.cn, .int .i64 p.places] := ⟨HP0.third.blk0, (HP0.base.block _ hbo2.lt).trans hbo2⟩
      have hcm := fun Y => eq_sum Y sm sm hsl hsl
      have x0 : ∀ z : Of (fun X => Blk X sx 66 (u8s sm).toArray ∧ Blk X bx 26 #[.slice a.pc p.code.length a.cc, .slice a.pk p.consts.len a.ck, .slice a.pn p.names.length a.cn, .int .i64 p.places]), z.val.cell? ⟨bx, 0, none⟩ = some (.slice a.pc p.code.length a.cc) := fun z => z.property.2.cell 0
      have x1 : ∀ z : Of (fun X => Blk X sx 66 (u8s sm).toArray ∧ Blk X bx 26 #[.slice a.pc p.code.length a.cc, .slice a.pk p.consts.len a.ck, .slice a.pn p.names.length a.cn, .int .i64 p.places]), z.val.cell? ⟨bx, 1, none⟩ = some (.slice a.pk p.consts.len a.ck) := fun z => z.property.2.cell 1
      have x2 : ∀ z : Of (fun X => Blk X sx 66 (u8s sm).toArray ∧ Blk X bx 26 #[.slice a.pc p.code.length a.cc, .slice a.pk p.consts.len a.ck, .slice a.pn p.names.length a.cn, .int .i64 p.places]), z.val.cell? ⟨bx, 2, none⟩ = some (.slice a.pn p.names.length a.cn) := fun z => z.property.2.cell 2
      have x3 : ∀ z : Of (fun X => Blk X sx 66 (u8s sm).toArray ∧ Blk X bx 26 #[.slice a.pc p.code.length a.cc, .slice a.pk p.consts.len a.ck, .slice a.pn p.names.length a.cn, .int .i64 p.places]), z.val.cell? ⟨bx, 3, none⟩ = some (.int .i64 p.places) := fun z => z.property.2.cell 3
      have hFd := hF0
      have hne_ : Nonempty (Of ((fun X => Blk X sx 66 (u8s sm).toArray ∧ Blk X bx 26 #[.slice a.pc p.code.length a.cc, .slice a.pk p.consts.len a.ck, .slice a.pn p.names.length a.cn, .int .i64 p.places]))) := ⟨⟨_, hFd⟩⟩
      refine region_plan (.seg [0,2,1,3,4,5,7,6,8,9,10,11,13,12,14,15,16,17,18,19,21,20,22,23,24,25,27,26,28,29,30] [true,true,false,true,true,true,true,false,true,true,true,true,true,false,false,true,true,true,true,true,true,false,true,true,true,true,true,false,false,true,true] .done) ((fun X => Blk X sx 66 (u8s sm).toArray ∧ Blk X bx 26 #[.slice a.pc p.code.length a.cc, .slice a.pk p.consts.len a.ck, .slice a.pn p.names.length a.cn, .int .i64 p.places])) (by kernel_rfl) (by kernel_rfl) hFd ?_
      refine walkP_seg ?_
      simp only [List.filterMap_cons, List.filterMap_nil, List.getElem?_cons_zero, List.getElem?_cons_succ]
      refine steps_quiet 1 (by kernel_rfl) ?_
      simp only [List.take_succ_cons, List.take_zero, List.drop_succ_cons, List.drop_zero]
      repeat (go_big_quiet_step (fail))
      refine wpQuiet_nil ?_
      refine steps_load_row rfl 66 _ rfl sx rfl 66 (u8s sm).toArray _ (fun X hX => hX.1) Try.underlying66 rfl (smSize hsl) ?_
      simp only [Act.put, List.setIfInBounds_toArray, List.set_cons_succ, List.set_cons_zero]
      have hps := psum_any false HP0 LP hc0 hoc (by omega)
      rw [hsm] at hps
      refine steps_want rfl (fun K hK => ?_)
      go_simp
      refine hps.mono ?_
      rintro e wa ⟨rfl, HA⟩
      clear hps HP0 H9
      have hF : Blk _ sx 66 (u8s sm).toArray ∧ Blk _ bx 26 #[.slice a.pc p.code.length a.cc, .slice a.pk p.consts.len a.ck, .slice a.pn p.names.length a.cn, .int .i64 p.places] := ⟨HA.third.blk0, (HA.base.block _ hbo2.lt).trans hbo2⟩
      have hFn := hF
      have hnx_ : Nonempty (Of ((fun X => Blk X sx 66 (u8s sm).toArray ∧ Blk X bx 26 #[.slice a.pc p.code.length a.cc, .slice a.pk p.consts.len a.ck, .slice a.pn p.names.length a.cn, .int .i64 p.places]))) := ⟨⟨_, hFn⟩⟩
      refine hK _ _ ((fun X => Blk X sx 66 (u8s sm).toArray ∧ Blk X bx 26 #[.slice a.pc p.code.length a.cc, .slice a.pk p.consts.len a.ck, .slice a.pn p.names.length a.cn, .int .i64 p.places])) hFn (fun _ h => h) ?_
      clear hK K hFn
      try simp only [Act.put, List.setIfInBounds_toArray, List.set_cons_succ, List.set_cons_zero]
      refine steps_quiet 3 (by kernel_rfl) ?_
      simp only [List.take_succ_cons, List.take_zero, List.drop_succ_cons, List.drop_zero]
      repeat (go_big_quiet_step (fail))
      refine wpQuiet_nil ?_
      refine steps_load_row rfl 66 _ rfl sx rfl 66 (u8s sm).toArray _ (fun X hX => hX.1) Try.underlying66 rfl (smSize hsl) ?_
      simp only [Act.put, List.setIfInBounds_toArray, List.set_cons_succ, List.set_cons_zero]
      have hps := psum_any true HA LP hc0 hoc (by omega)
      rw [hsm] at hps
      refine steps_want rfl (fun K hK => ?_)
      go_simp
      refine hps.mono ?_
      rintro e wb ⟨rfl, HB⟩
      clear hps HA
      have hF : Blk _ sx 66 (u8s sm).toArray ∧ Blk _ bx 26 #[.slice a.pc p.code.length a.cc, .slice a.pk p.consts.len a.ck, .slice a.pn p.names.length a.cn, .int .i64 p.places] := ⟨HB.third.blk0, (HB.base.block _ hbo2.lt).trans hbo2⟩
      have hFn := hF
      have hnx_ : Nonempty (Of ((fun X => Blk X sx 66 (u8s sm).toArray ∧ Blk X bx 26 #[.slice a.pc p.code.length a.cc, .slice a.pk p.consts.len a.ck, .slice a.pn p.names.length a.cn, .int .i64 p.places]))) := ⟨⟨_, hFn⟩⟩
      refine hK _ _ ((fun X => Blk X sx 66 (u8s sm).toArray ∧ Blk X bx 26 #[.slice a.pc p.code.length a.cc, .slice a.pk p.consts.len a.ck, .slice a.pn p.names.length a.cn, .int .i64 p.places])) hFn (fun _ h => h) ?_
      clear hK K hFn
      try simp only [Act.put, List.setIfInBounds_toArray, List.set_cons_succ, List.set_cons_zero]
      refine steps_quiet 5 (by kernel_rfl) ?_
      simp only [List.take_succ_cons, List.take_zero, List.drop_succ_cons, List.drop_zero]
      repeat (go_big_quiet_step (fail))
      refine wpQuiet_nil ?_
      have hpb := pbytes_any true HB LP hc0 hoc (by omega)
      rw [Im.clone_bytes] at hpb
      refine steps_want rfl (fun K hK => ?_)
      go_simp
      refine hpb.mono ?_
      rintro e wc ⟨rfl, HC⟩
      clear hpb HB
      have hF : Blk _ sx 66 (u8s sm).toArray ∧ Blk _ bx 26 #[.slice a.pc p.code.length a.cc, .slice a.pk p.consts.len a.ck, .slice a.pn p.names.length a.cn, .int .i64 p.places] := ⟨HC.third.blk0, (HC.base.block _ hbo2.lt).trans hbo2⟩
      have hFn := hF
      have hnx_ : Nonempty (Of ((fun X => Blk X sx 66 (u8s sm).toArray ∧ Blk X bx 26 #[.slice a.pc p.code.length a.cc, .slice a.pk p.consts.len a.ck, .slice a.pn p.names.length a.cn, .int .i64 p.places]))) := ⟨⟨_, hFn⟩⟩
      refine hK _ _ ((fun X => Blk X sx 66 (u8s sm).toArray ∧ Blk X bx 26 #[.slice a.pc p.code.length a.cc, .slice a.pk p.consts.len a.ck, .slice a.pn p.names.length a.cn, .int .i64 p.places])) hFn (fun _ h => h) ?_
      clear hK K hFn
      try simp only [Act.put, List.setIfInBounds_toArray, List.set_cons_succ, List.set_cons_zero]
      have hrb := rimbytes_any p a wc (hI2.ext HC.base) hok hp0
      rw [hcz] at hrb
      refine steps_want rfl (fun K hK => ?_)
      go_simp
      refine hrb.mono ?_
      rintro e wd ⟨rfl, hEd⟩
      clear hrb
      have HD := HC.ext (.cons (blkA_loc _ _ _) (.cons (imA_loc _ _) LP)) hEd
      clear HC
      have hF : Blk _ sx 66 (u8s sm).toArray ∧ Blk _ bx 26 #[.slice a.pc p.code.length a.cc, .slice a.pk p.consts.len a.ck, .slice a.pn p.names.length a.cn, .int .i64 p.places] := ⟨HD.third.blk0, (HD.base.block _ hbo2.lt).trans hbo2⟩
      have hFn := hF
      have hnx_ : Nonempty (Of ((fun X => Blk X sx 66 (u8s sm).toArray ∧ Blk X bx 26 #[.slice a.pc p.code.length a.cc, .slice a.pk p.consts.len a.ck, .slice a.pn p.names.length a.cn, .int .i64 p.places]))) := ⟨⟨_, hFn⟩⟩
      refine hK _ _ ((fun X => Blk X sx 66 (u8s sm).toArray ∧ Blk X bx 26 #[.slice a.pc p.code.length a.cc, .slice a.pk p.consts.len a.ck, .slice a.pn p.names.length a.cn, .int .i64 p.places])) hFn (fun _ h => h) ?_
      clear hK K hFn
      try simp only [Act.put, List.setIfInBounds_toArray, List.set_cons_succ, List.set_cons_zero]
      have hbz : (((p.bytes.length : Nat) : Int) == (((strOf p.bytes).size : Nat) : Int)) = true := by
        have : (strOf p.bytes).size = p.bytes.length := rfl
        rw [this]; simp
      refine steps_quiet 6 (by kernel_rfl) ?_
      simp only [List.take_succ_cons, List.take_zero, List.drop_succ_cons, List.drop_zero]
      repeat (go_big_quiet_step (fail))
      refine wpQuiet_nil ?_
      have hnm := pname_any true HD
      refine steps_want rfl (fun K hK => ?_)
      go_simp
      refine hnm.mono ?_
      rintro e we ⟨rfl, rfl⟩
      clear hnm
      have hF : Blk _ sx 66 (u8s sm).toArray ∧ Blk _ bx 26 #[.slice a.pc p.code.length a.cc, .slice a.pk p.consts.len a.ck, .slice a.pn p.names.length a.cn, .int .i64 p.places] := ⟨HD.third.blk0, (HD.base.block _ hbo2.lt).trans hbo2⟩
      have hFn := hF
      have hnx_ : Nonempty (Of ((fun X => Blk X sx 66 (u8s sm).toArray ∧ Blk X bx 26 #[.slice a.pc p.code.length a.cc, .slice a.pk p.consts.len a.ck, .slice a.pn p.names.length a.cn, .int .i64 p.places]))) := ⟨⟨_, hFn⟩⟩
      refine hK _ _ ((fun X => Blk X sx 66 (u8s sm).toArray ∧ Blk X bx 26 #[.slice a.pc p.code.length a.cc, .slice a.pk p.consts.len a.ck, .slice a.pn p.names.length a.cn, .int .i64 p.places])) hFn (fun _ h => h) ?_
      clear hK K hFn
      try simp only [Act.put, List.setIfInBounds_toArray, List.set_cons_succ, List.set_cons_zero]
      refine steps_quiet 5 (by kernel_rfl) ?_
      simp only [List.take_succ_cons, List.take_zero, List.drop_succ_cons, List.drop_zero]
      repeat (go_big_quiet_step (fail))
      refine wpQuiet_nil ?_
      have him := pimage_any true HD (Im.fine hc0)
      refine steps_want rfl (fun K hK => ?_)
      go_simp
      refine him.mono ?_
      rintro e wf ⟨⟨a9, rfl, hB9⟩, hEf⟩
      clear him
      have HF := HD.ext (.cons (blkA_loc _ _ _) (.cons (imA_loc _ _) LP)) hEf
      clear HD
      have hq9 : (p.clone.clone.cells a9).toArray = #[.slice a9.pc p.clone.clone.code.length a9.cc, .slice a9.pk p.clone.clone.consts.len a9.ck, .slice a9.pn p.clone.clone.names.length a9.cn, .int .i64 p.clone.clone.places] := rfl
      rw [hq9]
      have hF : Blk _ sx 66 (u8s sm).toArray ∧ Blk _ bx 26 #[.slice a.pc p.code.length a.cc, .slice a.pk p.consts.len a.ck, .slice a.pn p.names.length a.cn, .int .i64 p.places] := ⟨HF.third.blk0, (HF.base.block _ hbo2.lt).trans hbo2⟩
      have hFn := hF
      have hnx_ : Nonempty (Of ((fun X => Blk X sx 66 (u8s sm).toArray ∧ Blk X bx 26 #[.slice a.pc p.code.length a.cc, .slice a.pk p.consts.len a.ck, .slice a.pn p.names.length a.cn, .int .i64 p.places]))) := ⟨⟨_, hFn⟩⟩
      refine hK _ _ ((fun X => Blk X sx 66 (u8s sm).toArray ∧ Blk X bx 26 #[.slice a.pc p.code.length a.cc, .slice a.pk p.consts.len a.ck, .slice a.pn p.names.length a.cn, .int .i64 p.places])) hFn (fun _ h => h) ?_
      clear hK K hFn
      try simp only [Act.put, List.setIfInBounds_toArray, List.set_cons_succ, List.set_cons_zero]
      have hsa := same_any p.clone.clone p a9 a wf hB9.at (hI2.ext HF.base) (Im.clone_ok hoc) hok (by rw [Im.clone_check]; exact hc0) hp0 (by rw [Im.clone_bytes, Im.clone_bytes])
      rw [hcz, hq9] at hsa
      refine steps_want rfl (fun K hK => ?_)
      go_simp
      refine hsa.mono ?_
      rintro e wg ⟨rfl, hEg⟩
      clear hsa
      have HG := HF.ext (.cons (blkA_loc _ _ _) (.cons (imA_loc _ _) LP)) hEg
      clear HF
      have hF : Blk _ sx 66 (u8s sm).toArray ∧ Blk _ bx 26 #[.slice a.pc p.code.length a.cc, .slice a.pk p.consts.len a.ck, .slice a.pn p.names.length a.cn, .int .i64 p.places] := ⟨HG.third.blk0, (HG.base.block _ hbo2.lt).trans hbo2⟩
      have hFn := hF
      have hnx_ : Nonempty (Of ((fun X => Blk X sx 66 (u8s sm).toArray ∧ Blk X bx 26 #[.slice a.pc p.code.length a.cc, .slice a.pk p.consts.len a.ck, .slice a.pn p.names.length a.cn, .int .i64 p.places]))) := ⟨⟨_, hFn⟩⟩
      refine hK _ _ ((fun X => Blk X sx 66 (u8s sm).toArray ∧ Blk X bx 26 #[.slice a.pc p.code.length a.cc, .slice a.pk p.consts.len a.ck, .slice a.pn p.names.length a.cn, .int .i64 p.places])) hFn (fun _ h => h) ?_
      clear hK K hFn
      try simp only [Act.put, List.setIfInBounds_toArray, List.set_cons_succ, List.set_cons_zero]
      refine steps_quiet 2 (by kernel_rfl) ?_
      simp only [List.take_succ_cons, List.take_zero, List.drop_succ_cons, List.drop_zero]
      repeat (go_big_quiet_step (fail))
      refine wpQuiet_nil ?_
      refine steps_end ?_
      refine walkP_done ?_
      clear x0 x1 x2 x3 hcm hbz
      go_wp2_with fail
      go_returns
      exact ⟨rfl, hEb.trans HG.base⟩
    · by_cases heq : ot = nm
      · subst heq
        have hs7 := H8.blk0
        have hr7 : Ext w7 w8.drew := HR.base.trans ((Ext.refl w8).drew)
        have hF1 : Blk w8.drew sx 66 (u8s sm).toArray ∧ Blk w8.drew bx 26 #[.slice a.pc p.code.length a.cc, .slice a.pk p.consts.len a.ck, .slice a.pn p.names.length a.cn, .int .i64 p.places] := ⟨(hr7.block _ hs7.lt).trans hs7, (hr7.block _ hbo.lt).trans hbo⟩
        have hcm := fun Y => eq_sum Y sm sm hsl hsl
        go_upto_region 14 with fail
        have hFd := hF1
        have hne_ : Nonempty (Of ((fun X => Blk X sx 66 (u8s sm).toArray ∧ Blk X bx 26 #[.slice a.pc p.code.length a.cc, .slice a.pk p.consts.len a.ck, .slice a.pn p.names.length a.cn, .int .i64 p.places]))) := ⟨⟨_, hFd⟩⟩
        refine region_plan (.seg [0,1,2,3,4,5,6,7,8,10,9,11,12] [true,true,true,true,true,true,true,true,true,true,false,true,true] .done) ((fun X => Blk X sx 66 (u8s sm).toArray ∧ Blk X bx 26 #[.slice a.pc p.code.length a.cc, .slice a.pk p.consts.len a.ck, .slice a.pn p.names.length a.cn, .int .i64 p.places])) (by kernel_rfl) (by kernel_rfl) hFd ?_
        refine walkP_seg ?_
        simp only [List.filterMap_cons, List.filterMap_nil, List.getElem?_cons_zero, List.getElem?_cons_succ]
        refine steps_quiet 9 (by kernel_rfl) ?_
        simp only [List.take_succ_cons, List.take_zero, List.drop_succ_cons, List.drop_zero]
        repeat (go_big_quiet_step (fail))
        refine wpQuiet_nil ?_
        refine steps_load_row rfl 66 _ rfl sx rfl 66 (u8s sm).toArray _ (fun X hX => hX.1) Try.underlying66 rfl (smSize hsl) ?_
        simp only [Act.put, List.setIfInBounds_toArray, List.set_cons_succ, List.set_cons_zero]
        have hps := psum_any false (HR.ext (.cons (blkA_loc _ _ _) (.cons (imA_loc _ _) .nil)) ((Ext.refl w8).drew)) .nil hc0 hoc (by omega)
        rw [hsm] at hps
        refine steps_want rfl (fun K hK => ?_)
        go_simp
        refine hps.mono ?_
        rintro e w9 ⟨rfl, HR9⟩
        clear hps
        have hF2 : Blk w9 sx 66 (u8s sm).toArray ∧ Blk w9 bx 26 #[.slice a.pc p.code.length a.cc, .slice a.pk p.consts.len a.ck, .slice a.pn p.names.length a.cn, .int .i64 p.places] := ⟨(HR9.base.block _ hs7.lt).trans hs7, (HR9.base.block _ hbo.lt).trans hbo⟩
        have hFn := hF2
        have hnx_ : Nonempty (Of ((fun X => Blk X sx 66 (u8s sm).toArray ∧ Blk X bx 26 #[.slice a.pc p.code.length a.cc, .slice a.pk p.consts.len a.ck, .slice a.pn p.names.length a.cn, .int .i64 p.places]))) := ⟨⟨_, hFn⟩⟩
        refine hK _ _ ((fun X => Blk X sx 66 (u8s sm).toArray ∧ Blk X bx 26 #[.slice a.pc p.code.length a.cc, .slice a.pk p.consts.len a.ck, .slice a.pn p.names.length a.cn, .int .i64 p.places])) hFn (fun _ h => h) ?_
        clear hK K hFn
        try simp only [Act.put, List.setIfInBounds_toArray, List.set_cons_succ, List.set_cons_zero]
        refine steps_quiet 2 (by kernel_rfl) ?_
        simp only [List.take_succ_cons, List.take_zero, List.drop_succ_cons, List.drop_zero]
        repeat (go_big_quiet_step (fail))
        refine wpQuiet_nil ?_
        refine steps_end ?_
        refine walkP_done ?_
        have H9 := H8.ext L8 HR9.base
        clear HR9 HR H8 hs7 hr7 hF1 hF2 hcm
        go_upto_region 16 with fail
        have LP : Locs [BdA 66 sx sm] := .cons (blkA_loc _ _ _) .nil
        have HP0 := ((H9.swap).perm (List.Perm.cons _ (List.Perm.swap _ _ _))).ext (.cons (blkA_loc _ _ _) (.cons (imA_loc _ _) LP)) ((Ext.refl w9).drew)
        have hF0 : Blk w9.drew sx 66 (u8s sm).toArray ∧ Blk w9.drew bx 26 #[.slice a.pc p.code.length a.cc, .slice a.pk p.consts.len a.ck, .slice a.pn p.names.length a.cn, .int .i64 p.places] := ⟨HP0.third.blk0, (HP0.base.block _ hbo2.lt).trans hbo2⟩
        have hcm := fun Y => eq_sum Y sm sm hsl hsl
        have x0 : ∀ z : Of (fun X => Blk X sx 66 (u8s sm).toArray ∧ Blk X bx 26 #[.slice a.pc p.code.length a.cc, .slice a.pk p.consts.len a.ck, .slice a.pn p.names.length a.cn, .int .i64 p.places]), z.val.cell? ⟨bx, 0, none⟩ = some (.slice a.pc p.code.length a.cc) := fun z => z.property.2.cell 0
        have x1 : ∀ z : Of (fun X => Blk X sx 66 (u8s sm).toArray ∧ Blk X bx 26 #[.slice a.pc p.code.length a.cc, .slice a.pk p.consts.len a.ck, .slice a.pn p.names.length a.cn, .int .i64 p.places]), z.val.cell? ⟨bx, 1, none⟩ = some (.slice a.pk p.consts.len a.ck) := fun z => z.property.2.cell 1
        have x2 : ∀ z : Of (fun X => Blk X sx 66 (u8s sm).toArray ∧ Blk X bx 26 #[.slice a.pc p.code.length a.cc, .slice a.pk p.consts.len a.ck, .slice a.pn p.names.length a.cn, .int .i64 p.places]), z.val.cell? ⟨bx, 2, none⟩ = some (.slice a.pn p.names.length a.cn) := fun z => z.property.2.cell 2
        have x3 : ∀ z : Of (fun X => Blk X sx 66 (u8s sm).toArray ∧ Blk X bx 26 #[.slice a.pc p.code.length a.cc, .slice a.pk p.consts.len a.ck, .slice a.pn p.names.length a.cn, .int .i64 p.places]), z.val.cell? ⟨bx, 3, none⟩ = some (.int .i64 p.places) := fun z => z.property.2.cell 3
        have hFd := hF0
        have hne_ : Nonempty (Of ((fun X => Blk X sx 66 (u8s sm).toArray ∧ Blk X bx 26 #[.slice a.pc p.code.length a.cc, .slice a.pk p.consts.len a.ck, .slice a.pn p.names.length a.cn, .int .i64 p.places]))) := ⟨⟨_, hFd⟩⟩
        refine region_plan (.seg [0,2,1,3,4,5,7,6,8,9,10,11,13,12,14,15,16,17,18,19,21,20,22,23,24,25,27,26,28,29,30] [true,true,false,true,true,true,true,false,true,true,true,true,true,false,false,true,true,true,true,true,true,false,true,true,true,true,true,false,false,true,true] .done) ((fun X => Blk X sx 66 (u8s sm).toArray ∧ Blk X bx 26 #[.slice a.pc p.code.length a.cc, .slice a.pk p.consts.len a.ck, .slice a.pn p.names.length a.cn, .int .i64 p.places])) (by kernel_rfl) (by kernel_rfl) hFd ?_
        refine walkP_seg ?_
        simp only [List.filterMap_cons, List.filterMap_nil, List.getElem?_cons_zero, List.getElem?_cons_succ]
        refine steps_quiet 1 (by kernel_rfl) ?_
        simp only [List.take_succ_cons, List.take_zero, List.drop_succ_cons, List.drop_zero]
        repeat (go_big_quiet_step (fail))
        refine wpQuiet_nil ?_
        refine steps_load_row rfl 66 _ rfl sx rfl 66 (u8s sm).toArray _ (fun X hX => hX.1) Try.underlying66 rfl (smSize hsl) ?_
        simp only [Act.put, List.setIfInBounds_toArray, List.set_cons_succ, List.set_cons_zero]
        have hps := psum_any false HP0 LP hc0 hoc (by omega)
        rw [hsm] at hps
        refine steps_want rfl (fun K hK => ?_)
        go_simp
        refine hps.mono ?_
        rintro e wa ⟨rfl, HA⟩
        clear hps HP0 H9
        have hF : Blk _ sx 66 (u8s sm).toArray ∧ Blk _ bx 26 #[.slice a.pc p.code.length a.cc, .slice a.pk p.consts.len a.ck, .slice a.pn p.names.length a.cn, .int .i64 p.places] := ⟨HA.third.blk0, (HA.base.block _ hbo2.lt).trans hbo2⟩
        have hFn := hF
        have hnx_ : Nonempty (Of ((fun X => Blk X sx 66 (u8s sm).toArray ∧ Blk X bx 26 #[.slice a.pc p.code.length a.cc, .slice a.pk p.consts.len a.ck, .slice a.pn p.names.length a.cn, .int .i64 p.places]))) := ⟨⟨_, hFn⟩⟩
        refine hK _ _ ((fun X => Blk X sx 66 (u8s sm).toArray ∧ Blk X bx 26 #[.slice a.pc p.code.length a.cc, .slice a.pk p.consts.len a.ck, .slice a.pn p.names.length a.cn, .int .i64 p.places])) hFn (fun _ h => h) ?_
        clear hK K hFn
        try simp only [Act.put, List.setIfInBounds_toArray, List.set_cons_succ, List.set_cons_zero]
        refine steps_quiet 3 (by kernel_rfl) ?_
        simp only [List.take_succ_cons, List.take_zero, List.drop_succ_cons, List.drop_zero]
        repeat (go_big_quiet_step (fail))
        refine wpQuiet_nil ?_
        refine steps_load_row rfl 66 _ rfl sx rfl 66 (u8s sm).toArray _ (fun X hX => hX.1) Try.underlying66 rfl (smSize hsl) ?_
        simp only [Act.put, List.setIfInBounds_toArray, List.set_cons_succ, List.set_cons_zero]
        have hps := psum_any true HA LP hc0 hoc (by omega)
        rw [hsm] at hps
        refine steps_want rfl (fun K hK => ?_)
        go_simp
        refine hps.mono ?_
        rintro e wb ⟨rfl, HB⟩
        clear hps HA
        have hF : Blk _ sx 66 (u8s sm).toArray ∧ Blk _ bx 26 #[.slice a.pc p.code.length a.cc, .slice a.pk p.consts.len a.ck, .slice a.pn p.names.length a.cn, .int .i64 p.places] := ⟨HB.third.blk0, (HB.base.block _ hbo2.lt).trans hbo2⟩
        have hFn := hF
        have hnx_ : Nonempty (Of ((fun X => Blk X sx 66 (u8s sm).toArray ∧ Blk X bx 26 #[.slice a.pc p.code.length a.cc, .slice a.pk p.consts.len a.ck, .slice a.pn p.names.length a.cn, .int .i64 p.places]))) := ⟨⟨_, hFn⟩⟩
        refine hK _ _ ((fun X => Blk X sx 66 (u8s sm).toArray ∧ Blk X bx 26 #[.slice a.pc p.code.length a.cc, .slice a.pk p.consts.len a.ck, .slice a.pn p.names.length a.cn, .int .i64 p.places])) hFn (fun _ h => h) ?_
        clear hK K hFn
        try simp only [Act.put, List.setIfInBounds_toArray, List.set_cons_succ, List.set_cons_zero]
        refine steps_quiet 5 (by kernel_rfl) ?_
        simp only [List.take_succ_cons, List.take_zero, List.drop_succ_cons, List.drop_zero]
        repeat (go_big_quiet_step (fail))
        refine wpQuiet_nil ?_
        have hpb := pbytes_any true HB LP hc0 hoc (by omega)
        rw [Im.clone_bytes] at hpb
        refine steps_want rfl (fun K hK => ?_)
        go_simp
        refine hpb.mono ?_
        rintro e wc ⟨rfl, HC⟩
        clear hpb HB
        have hF : Blk _ sx 66 (u8s sm).toArray ∧ Blk _ bx 26 #[.slice a.pc p.code.length a.cc, .slice a.pk p.consts.len a.ck, .slice a.pn p.names.length a.cn, .int .i64 p.places] := ⟨HC.third.blk0, (HC.base.block _ hbo2.lt).trans hbo2⟩
        have hFn := hF
        have hnx_ : Nonempty (Of ((fun X => Blk X sx 66 (u8s sm).toArray ∧ Blk X bx 26 #[.slice a.pc p.code.length a.cc, .slice a.pk p.consts.len a.ck, .slice a.pn p.names.length a.cn, .int .i64 p.places]))) := ⟨⟨_, hFn⟩⟩
        refine hK _ _ ((fun X => Blk X sx 66 (u8s sm).toArray ∧ Blk X bx 26 #[.slice a.pc p.code.length a.cc, .slice a.pk p.consts.len a.ck, .slice a.pn p.names.length a.cn, .int .i64 p.places])) hFn (fun _ h => h) ?_
        clear hK K hFn
        try simp only [Act.put, List.setIfInBounds_toArray, List.set_cons_succ, List.set_cons_zero]
        have hrb := rimbytes_any p a wc (hI2.ext HC.base) hok hp0
        rw [hcz] at hrb
        refine steps_want rfl (fun K hK => ?_)
        go_simp
        refine hrb.mono ?_
        rintro e wd ⟨rfl, hEd⟩
        clear hrb
        have HD := HC.ext (.cons (blkA_loc _ _ _) (.cons (imA_loc _ _) LP)) hEd
        clear HC
        have hF : Blk _ sx 66 (u8s sm).toArray ∧ Blk _ bx 26 #[.slice a.pc p.code.length a.cc, .slice a.pk p.consts.len a.ck, .slice a.pn p.names.length a.cn, .int .i64 p.places] := ⟨HD.third.blk0, (HD.base.block _ hbo2.lt).trans hbo2⟩
        have hFn := hF
        have hnx_ : Nonempty (Of ((fun X => Blk X sx 66 (u8s sm).toArray ∧ Blk X bx 26 #[.slice a.pc p.code.length a.cc, .slice a.pk p.consts.len a.ck, .slice a.pn p.names.length a.cn, .int .i64 p.places]))) := ⟨⟨_, hFn⟩⟩
        refine hK _ _ ((fun X => Blk X sx 66 (u8s sm).toArray ∧ Blk X bx 26 #[.slice a.pc p.code.length a.cc, .slice a.pk p.consts.len a.ck, .slice a.pn p.names.length a.cn, .int .i64 p.places])) hFn (fun _ h => h) ?_
        clear hK K hFn
        try simp only [Act.put, List.setIfInBounds_toArray, List.set_cons_succ, List.set_cons_zero]
        have hbz : (((p.bytes.length : Nat) : Int) == (((strOf p.bytes).size : Nat) : Int)) = true := by
          have : (strOf p.bytes).size = p.bytes.length := rfl
          rw [this]; simp
        refine steps_quiet 6 (by kernel_rfl) ?_
        simp only [List.take_succ_cons, List.take_zero, List.drop_succ_cons, List.drop_zero]
        repeat (go_big_quiet_step (fail))
        refine wpQuiet_nil ?_
        have hnm := pname_any true HD
        refine steps_want rfl (fun K hK => ?_)
        go_simp
        refine hnm.mono ?_
        rintro e we ⟨rfl, rfl⟩
        clear hnm
        have hF : Blk _ sx 66 (u8s sm).toArray ∧ Blk _ bx 26 #[.slice a.pc p.code.length a.cc, .slice a.pk p.consts.len a.ck, .slice a.pn p.names.length a.cn, .int .i64 p.places] := ⟨HD.third.blk0, (HD.base.block _ hbo2.lt).trans hbo2⟩
        have hFn := hF
        have hnx_ : Nonempty (Of ((fun X => Blk X sx 66 (u8s sm).toArray ∧ Blk X bx 26 #[.slice a.pc p.code.length a.cc, .slice a.pk p.consts.len a.ck, .slice a.pn p.names.length a.cn, .int .i64 p.places]))) := ⟨⟨_, hFn⟩⟩
        refine hK _ _ ((fun X => Blk X sx 66 (u8s sm).toArray ∧ Blk X bx 26 #[.slice a.pc p.code.length a.cc, .slice a.pk p.consts.len a.ck, .slice a.pn p.names.length a.cn, .int .i64 p.places])) hFn (fun _ h => h) ?_
        clear hK K hFn
        try simp only [Act.put, List.setIfInBounds_toArray, List.set_cons_succ, List.set_cons_zero]
        refine steps_quiet 5 (by kernel_rfl) ?_
        simp only [List.take_succ_cons, List.take_zero, List.drop_succ_cons, List.drop_zero]
        repeat (go_big_quiet_step (fail))
        refine wpQuiet_nil ?_
        have him := pimage_any true HD (Im.fine hc0)
        refine steps_want rfl (fun K hK => ?_)
        go_simp
        refine him.mono ?_
        rintro e wf ⟨⟨a9, rfl, hB9⟩, hEf⟩
        clear him
        have HF := HD.ext (.cons (blkA_loc _ _ _) (.cons (imA_loc _ _) LP)) hEf
        clear HD
        have hq9 : (p.clone.clone.cells a9).toArray = #[.slice a9.pc p.clone.clone.code.length a9.cc, .slice a9.pk p.clone.clone.consts.len a9.ck, .slice a9.pn p.clone.clone.names.length a9.cn, .int .i64 p.clone.clone.places] := rfl
        rw [hq9]
        have hF : Blk _ sx 66 (u8s sm).toArray ∧ Blk _ bx 26 #[.slice a.pc p.code.length a.cc, .slice a.pk p.consts.len a.ck, .slice a.pn p.names.length a.cn, .int .i64 p.places] := ⟨HF.third.blk0, (HF.base.block _ hbo2.lt).trans hbo2⟩
        have hFn := hF
        have hnx_ : Nonempty (Of ((fun X => Blk X sx 66 (u8s sm).toArray ∧ Blk X bx 26 #[.slice a.pc p.code.length a.cc, .slice a.pk p.consts.len a.ck, .slice a.pn p.names.length a.cn, .int .i64 p.places]))) := ⟨⟨_, hFn⟩⟩
        refine hK _ _ ((fun X => Blk X sx 66 (u8s sm).toArray ∧ Blk X bx 26 #[.slice a.pc p.code.length a.cc, .slice a.pk p.consts.len a.ck, .slice a.pn p.names.length a.cn, .int .i64 p.places])) hFn (fun _ h => h) ?_
        clear hK K hFn
        try simp only [Act.put, List.setIfInBounds_toArray, List.set_cons_succ, List.set_cons_zero]
        have hsa := same_any p.clone.clone p a9 a wf hB9.at (hI2.ext HF.base) (Im.clone_ok hoc) hok (by rw [Im.clone_check]; exact hc0) hp0 (by rw [Im.clone_bytes, Im.clone_bytes])
        rw [hcz, hq9] at hsa
        refine steps_want rfl (fun K hK => ?_)
        go_simp
        refine hsa.mono ?_
        rintro e wg ⟨rfl, hEg⟩
        clear hsa
        have HG := HF.ext (.cons (blkA_loc _ _ _) (.cons (imA_loc _ _) LP)) hEg
        clear HF
        have hF : Blk _ sx 66 (u8s sm).toArray ∧ Blk _ bx 26 #[.slice a.pc p.code.length a.cc, .slice a.pk p.consts.len a.ck, .slice a.pn p.names.length a.cn, .int .i64 p.places] := ⟨HG.third.blk0, (HG.base.block _ hbo2.lt).trans hbo2⟩
        have hFn := hF
        have hnx_ : Nonempty (Of ((fun X => Blk X sx 66 (u8s sm).toArray ∧ Blk X bx 26 #[.slice a.pc p.code.length a.cc, .slice a.pk p.consts.len a.ck, .slice a.pn p.names.length a.cn, .int .i64 p.places]))) := ⟨⟨_, hFn⟩⟩
        refine hK _ _ ((fun X => Blk X sx 66 (u8s sm).toArray ∧ Blk X bx 26 #[.slice a.pc p.code.length a.cc, .slice a.pk p.consts.len a.ck, .slice a.pn p.names.length a.cn, .int .i64 p.places])) hFn (fun _ h => h) ?_
        clear hK K hFn
        try simp only [Act.put, List.setIfInBounds_toArray, List.set_cons_succ, List.set_cons_zero]
        refine steps_quiet 2 (by kernel_rfl) ?_
        simp only [List.take_succ_cons, List.take_zero, List.drop_succ_cons, List.drop_zero]
        repeat (go_big_quiet_step (fail))
        refine wpQuiet_nil ?_
        refine steps_end ?_
        refine walkP_done ?_
        clear x0 x1 x2 x3 hcm hbz
        go_wp2_with fail
        go_returns
        exact ⟨rfl, hEb.trans HG.base⟩
      · have g1 : (ot == nm) = false := by simpa using heq
        have g2 := bytes_dec_f heq
        have g3 := bytes_ne heq
        go_upto_region 14 with fail
        refine region_ext (by kernel_rfl) (by kernel_rfl) ?_
        repeat (go_big_quiet_step (fail))
        refine wpQuiet_nil ?_
        intro wq hq
        obtain ⟨xq, rfl⟩ := hq
        have hEq := xq.property
        generalize xq.val = wq at *
        clear xq
        have H9 := H8.ext L8 (HR.base.trans hEq)
        clear hEq HR H8 g1 g2 g3 heq
        go_upto_region 16 with fail
        have LP : Locs [BdA 66 sx sm] := .cons (blkA_loc _ _ _) .nil
        have HP0 := ((H9.swap).perm (List.Perm.cons _ (List.Perm.swap _ _ _))).ext (.cons (blkA_loc _ _ _) (.cons (imA_loc _ _) LP)) ((Ext.refl wq).drew)
        have hF0 : Blk wq.drew sx 66 (u8s sm).toArray ∧ Blk wq.drew bx 26 #[.slice a.pc p.code.length a.cc, .slice a.pk p.consts.len a.ck, .slice a.pn p.names.length a.cn, .int .i64 p.places] := ⟨HP0.third.blk0, (HP0.base.block _ hbo2.lt).trans hbo2⟩
        have hcm := fun Y => eq_sum Y sm sm hsl hsl
        have x0 : ∀ z : Of (fun X => Blk X sx 66 (u8s sm).toArray ∧ Blk X bx 26 #[.slice a.pc p.code.length a.cc, .slice a.pk p.consts.len a.ck, .slice a.pn p.names.length a.cn, .int .i64 p.places]), z.val.cell? ⟨bx, 0, none⟩ = some (.slice a.pc p.code.length a.cc) := fun z => z.property.2.cell 0
        have x1 : ∀ z : Of (fun X => Blk X sx 66 (u8s sm).toArray ∧ Blk X bx 26 #[.slice a.pc p.code.length a.cc, .slice a.pk p.consts.len a.ck, .slice a.pn p.names.length a.cn, .int .i64 p.places]), z.val.cell? ⟨bx, 1, none⟩ = some (.slice a.pk p.consts.len a.ck) := fun z => z.property.2.cell 1
        have x2 : ∀ z : Of (fun X => Blk X sx 66 (u8s sm).toArray ∧ Blk X bx 26 #[.slice a.pc p.code.length a.cc, .slice a.pk p.consts.len a.ck, .slice a.pn p.names.length a.cn, .int .i64 p.places]), z.val.cell? ⟨bx, 2, none⟩ = some (.slice a.pn p.names.length a.cn) := fun z => z.property.2.cell 2
        have x3 : ∀ z : Of (fun X => Blk X sx 66 (u8s sm).toArray ∧ Blk X bx 26 #[.slice a.pc p.code.length a.cc, .slice a.pk p.consts.len a.ck, .slice a.pn p.names.length a.cn, .int .i64 p.places]), z.val.cell? ⟨bx, 3, none⟩ = some (.int .i64 p.places) := fun z => z.property.2.cell 3
        have hFd := hF0
        have hne_ : Nonempty (Of ((fun X => Blk X sx 66 (u8s sm).toArray ∧ Blk X bx 26 #[.slice a.pc p.code.length a.cc, .slice a.pk p.consts.len a.ck, .slice a.pn p.names.length a.cn, .int .i64 p.places]))) := ⟨⟨_, hFd⟩⟩
        refine region_plan (.seg [0,2,1,3,4,5,7,6,8,9,10,11,13,12,14,15,16,17,18,19,21,20,22,23,24,25,27,26,28,29,30] [true,true,false,true,true,true,true,false,true,true,true,true,true,false,false,true,true,true,true,true,true,false,true,true,true,true,true,false,false,true,true] .done) ((fun X => Blk X sx 66 (u8s sm).toArray ∧ Blk X bx 26 #[.slice a.pc p.code.length a.cc, .slice a.pk p.consts.len a.ck, .slice a.pn p.names.length a.cn, .int .i64 p.places])) (by kernel_rfl) (by kernel_rfl) hFd ?_
        refine walkP_seg ?_
        simp only [List.filterMap_cons, List.filterMap_nil, List.getElem?_cons_zero, List.getElem?_cons_succ]
        refine steps_quiet 1 (by kernel_rfl) ?_
        simp only [List.take_succ_cons, List.take_zero, List.drop_succ_cons, List.drop_zero]
        repeat (go_big_quiet_step (fail))
        refine wpQuiet_nil ?_
        refine steps_load_row rfl 66 _ rfl sx rfl 66 (u8s sm).toArray _ (fun X hX => hX.1) Try.underlying66 rfl (smSize hsl) ?_
        simp only [Act.put, List.setIfInBounds_toArray, List.set_cons_succ, List.set_cons_zero]
        have hps := psum_any false HP0 LP hc0 hoc (by omega)
        rw [hsm] at hps
        refine steps_want rfl (fun K hK => ?_)
        go_simp
        refine hps.mono ?_
        rintro e wa ⟨rfl, HA⟩
        clear hps HP0 H9
        have hF : Blk _ sx 66 (u8s sm).toArray ∧ Blk _ bx 26 #[.slice a.pc p.code.length a.cc, .slice a.pk p.consts.len a.ck, .slice a.pn p.names.length a.cn, .int .i64 p.places] := ⟨HA.third.blk0, (HA.base.block _ hbo2.lt).trans hbo2⟩
        have hFn := hF
        have hnx_ : Nonempty (Of ((fun X => Blk X sx 66 (u8s sm).toArray ∧ Blk X bx 26 #[.slice a.pc p.code.length a.cc, .slice a.pk p.consts.len a.ck, .slice a.pn p.names.length a.cn, .int .i64 p.places]))) := ⟨⟨_, hFn⟩⟩
        refine hK _ _ ((fun X => Blk X sx 66 (u8s sm).toArray ∧ Blk X bx 26 #[.slice a.pc p.code.length a.cc, .slice a.pk p.consts.len a.ck, .slice a.pn p.names.length a.cn, .int .i64 p.places])) hFn (fun _ h => h) ?_
        clear hK K hFn
        try simp only [Act.put, List.setIfInBounds_toArray, List.set_cons_succ, List.set_cons_zero]
        refine steps_quiet 3 (by kernel_rfl) ?_
        simp only [List.take_succ_cons, List.take_zero, List.drop_succ_cons, List.drop_zero]
        repeat (go_big_quiet_step (fail))
        refine wpQuiet_nil ?_
        refine steps_load_row rfl 66 _ rfl sx rfl 66 (u8s sm).toArray _ (fun X hX => hX.1) Try.underlying66 rfl (smSize hsl) ?_
        simp only [Act.put, List.setIfInBounds_toArray, List.set_cons_succ, List.set_cons_zero]
        have hps := psum_any true HA LP hc0 hoc (by omega)
        rw [hsm] at hps
        refine steps_want rfl (fun K hK => ?_)
        go_simp
        refine hps.mono ?_
        rintro e wb ⟨rfl, HB⟩
        clear hps HA
        have hF : Blk _ sx 66 (u8s sm).toArray ∧ Blk _ bx 26 #[.slice a.pc p.code.length a.cc, .slice a.pk p.consts.len a.ck, .slice a.pn p.names.length a.cn, .int .i64 p.places] := ⟨HB.third.blk0, (HB.base.block _ hbo2.lt).trans hbo2⟩
        have hFn := hF
        have hnx_ : Nonempty (Of ((fun X => Blk X sx 66 (u8s sm).toArray ∧ Blk X bx 26 #[.slice a.pc p.code.length a.cc, .slice a.pk p.consts.len a.ck, .slice a.pn p.names.length a.cn, .int .i64 p.places]))) := ⟨⟨_, hFn⟩⟩
        refine hK _ _ ((fun X => Blk X sx 66 (u8s sm).toArray ∧ Blk X bx 26 #[.slice a.pc p.code.length a.cc, .slice a.pk p.consts.len a.ck, .slice a.pn p.names.length a.cn, .int .i64 p.places])) hFn (fun _ h => h) ?_
        clear hK K hFn
        try simp only [Act.put, List.setIfInBounds_toArray, List.set_cons_succ, List.set_cons_zero]
        refine steps_quiet 5 (by kernel_rfl) ?_
        simp only [List.take_succ_cons, List.take_zero, List.drop_succ_cons, List.drop_zero]
        repeat (go_big_quiet_step (fail))
        refine wpQuiet_nil ?_
        have hpb := pbytes_any true HB LP hc0 hoc (by omega)
        rw [Im.clone_bytes] at hpb
        refine steps_want rfl (fun K hK => ?_)
        go_simp
        refine hpb.mono ?_
        rintro e wc ⟨rfl, HC⟩
        clear hpb HB
        have hF : Blk _ sx 66 (u8s sm).toArray ∧ Blk _ bx 26 #[.slice a.pc p.code.length a.cc, .slice a.pk p.consts.len a.ck, .slice a.pn p.names.length a.cn, .int .i64 p.places] := ⟨HC.third.blk0, (HC.base.block _ hbo2.lt).trans hbo2⟩
        have hFn := hF
        have hnx_ : Nonempty (Of ((fun X => Blk X sx 66 (u8s sm).toArray ∧ Blk X bx 26 #[.slice a.pc p.code.length a.cc, .slice a.pk p.consts.len a.ck, .slice a.pn p.names.length a.cn, .int .i64 p.places]))) := ⟨⟨_, hFn⟩⟩
        refine hK _ _ ((fun X => Blk X sx 66 (u8s sm).toArray ∧ Blk X bx 26 #[.slice a.pc p.code.length a.cc, .slice a.pk p.consts.len a.ck, .slice a.pn p.names.length a.cn, .int .i64 p.places])) hFn (fun _ h => h) ?_
        clear hK K hFn
        try simp only [Act.put, List.setIfInBounds_toArray, List.set_cons_succ, List.set_cons_zero]
        have hrb := rimbytes_any p a wc (hI2.ext HC.base) hok hp0
        rw [hcz] at hrb
        refine steps_want rfl (fun K hK => ?_)
        go_simp
        refine hrb.mono ?_
        rintro e wd ⟨rfl, hEd⟩
        clear hrb
        have HD := HC.ext (.cons (blkA_loc _ _ _) (.cons (imA_loc _ _) LP)) hEd
        clear HC
        have hF : Blk _ sx 66 (u8s sm).toArray ∧ Blk _ bx 26 #[.slice a.pc p.code.length a.cc, .slice a.pk p.consts.len a.ck, .slice a.pn p.names.length a.cn, .int .i64 p.places] := ⟨HD.third.blk0, (HD.base.block _ hbo2.lt).trans hbo2⟩
        have hFn := hF
        have hnx_ : Nonempty (Of ((fun X => Blk X sx 66 (u8s sm).toArray ∧ Blk X bx 26 #[.slice a.pc p.code.length a.cc, .slice a.pk p.consts.len a.ck, .slice a.pn p.names.length a.cn, .int .i64 p.places]))) := ⟨⟨_, hFn⟩⟩
        refine hK _ _ ((fun X => Blk X sx 66 (u8s sm).toArray ∧ Blk X bx 26 #[.slice a.pc p.code.length a.cc, .slice a.pk p.consts.len a.ck, .slice a.pn p.names.length a.cn, .int .i64 p.places])) hFn (fun _ h => h) ?_
        clear hK K hFn
        try simp only [Act.put, List.setIfInBounds_toArray, List.set_cons_succ, List.set_cons_zero]
        have hbz : (((p.bytes.length : Nat) : Int) == (((strOf p.bytes).size : Nat) : Int)) = true := by
          have : (strOf p.bytes).size = p.bytes.length := rfl
          rw [this]; simp
        refine steps_quiet 6 (by kernel_rfl) ?_
        simp only [List.take_succ_cons, List.take_zero, List.drop_succ_cons, List.drop_zero]
        repeat (go_big_quiet_step (fail))
        refine wpQuiet_nil ?_
        have hnm := pname_any true HD
        refine steps_want rfl (fun K hK => ?_)
        go_simp
        refine hnm.mono ?_
        rintro e we ⟨rfl, rfl⟩
        clear hnm
        have hF : Blk _ sx 66 (u8s sm).toArray ∧ Blk _ bx 26 #[.slice a.pc p.code.length a.cc, .slice a.pk p.consts.len a.ck, .slice a.pn p.names.length a.cn, .int .i64 p.places] := ⟨HD.third.blk0, (HD.base.block _ hbo2.lt).trans hbo2⟩
        have hFn := hF
        have hnx_ : Nonempty (Of ((fun X => Blk X sx 66 (u8s sm).toArray ∧ Blk X bx 26 #[.slice a.pc p.code.length a.cc, .slice a.pk p.consts.len a.ck, .slice a.pn p.names.length a.cn, .int .i64 p.places]))) := ⟨⟨_, hFn⟩⟩
        refine hK _ _ ((fun X => Blk X sx 66 (u8s sm).toArray ∧ Blk X bx 26 #[.slice a.pc p.code.length a.cc, .slice a.pk p.consts.len a.ck, .slice a.pn p.names.length a.cn, .int .i64 p.places])) hFn (fun _ h => h) ?_
        clear hK K hFn
        try simp only [Act.put, List.setIfInBounds_toArray, List.set_cons_succ, List.set_cons_zero]
        refine steps_quiet 5 (by kernel_rfl) ?_
        simp only [List.take_succ_cons, List.take_zero, List.drop_succ_cons, List.drop_zero]
        repeat (go_big_quiet_step (fail))
        refine wpQuiet_nil ?_
        have him := pimage_any true HD (Im.fine hc0)
        refine steps_want rfl (fun K hK => ?_)
        go_simp
        refine him.mono ?_
        rintro e wf ⟨⟨a9, rfl, hB9⟩, hEf⟩
        clear him
        have HF := HD.ext (.cons (blkA_loc _ _ _) (.cons (imA_loc _ _) LP)) hEf
        clear HD
        have hq9 : (p.clone.clone.cells a9).toArray = #[.slice a9.pc p.clone.clone.code.length a9.cc, .slice a9.pk p.clone.clone.consts.len a9.ck, .slice a9.pn p.clone.clone.names.length a9.cn, .int .i64 p.clone.clone.places] := rfl
        rw [hq9]
        have hF : Blk _ sx 66 (u8s sm).toArray ∧ Blk _ bx 26 #[.slice a.pc p.code.length a.cc, .slice a.pk p.consts.len a.ck, .slice a.pn p.names.length a.cn, .int .i64 p.places] := ⟨HF.third.blk0, (HF.base.block _ hbo2.lt).trans hbo2⟩
        have hFn := hF
        have hnx_ : Nonempty (Of ((fun X => Blk X sx 66 (u8s sm).toArray ∧ Blk X bx 26 #[.slice a.pc p.code.length a.cc, .slice a.pk p.consts.len a.ck, .slice a.pn p.names.length a.cn, .int .i64 p.places]))) := ⟨⟨_, hFn⟩⟩
        refine hK _ _ ((fun X => Blk X sx 66 (u8s sm).toArray ∧ Blk X bx 26 #[.slice a.pc p.code.length a.cc, .slice a.pk p.consts.len a.ck, .slice a.pn p.names.length a.cn, .int .i64 p.places])) hFn (fun _ h => h) ?_
        clear hK K hFn
        try simp only [Act.put, List.setIfInBounds_toArray, List.set_cons_succ, List.set_cons_zero]
        have hsa := same_any p.clone.clone p a9 a wf hB9.at (hI2.ext HF.base) (Im.clone_ok hoc) hok (by rw [Im.clone_check]; exact hc0) hp0 (by rw [Im.clone_bytes, Im.clone_bytes])
        rw [hcz, hq9] at hsa
        refine steps_want rfl (fun K hK => ?_)
        go_simp
        refine hsa.mono ?_
        rintro e wg ⟨rfl, hEg⟩
        clear hsa
        have HG := HF.ext (.cons (blkA_loc _ _ _) (.cons (imA_loc _ _) LP)) hEg
        clear HF
        have hF : Blk _ sx 66 (u8s sm).toArray ∧ Blk _ bx 26 #[.slice a.pc p.code.length a.cc, .slice a.pk p.consts.len a.ck, .slice a.pn p.names.length a.cn, .int .i64 p.places] := ⟨HG.third.blk0, (HG.base.block _ hbo2.lt).trans hbo2⟩
        have hFn := hF
        have hnx_ : Nonempty (Of ((fun X => Blk X sx 66 (u8s sm).toArray ∧ Blk X bx 26 #[.slice a.pc p.code.length a.cc, .slice a.pk p.consts.len a.ck, .slice a.pn p.names.length a.cn, .int .i64 p.places]))) := ⟨⟨_, hFn⟩⟩
        refine hK _ _ ((fun X => Blk X sx 66 (u8s sm).toArray ∧ Blk X bx 26 #[.slice a.pc p.code.length a.cc, .slice a.pk p.consts.len a.ck, .slice a.pn p.names.length a.cn, .int .i64 p.places])) hFn (fun _ h => h) ?_
        clear hK K hFn
        try simp only [Act.put, List.setIfInBounds_toArray, List.set_cons_succ, List.set_cons_zero]
        refine steps_quiet 2 (by kernel_rfl) ?_
        simp only [List.take_succ_cons, List.take_zero, List.drop_succ_cons, List.drop_zero]
        repeat (go_big_quiet_step (fail))
        refine wpQuiet_nil ?_
        refine steps_end ?_
        refine walkP_done ?_
        clear x0 x1 x2 x3 hcm hbz
        go_wp2_with fail
        go_returns
        exact ⟨rfl, hEb.trans HG.base⟩
end Go.Proofs.Ytkkhcpknldlpoaa

namespace Go.Proofs.Ytkkhcpknldlpoaa
set_option maxRecDepth 4000
set_option linter.unusedVariables false
set_option linter.unusedSimpArgs false
open Go Go.RowKit Go.ChangeShapes Go.WideShapes Go.Deep Go.Joins
section
variable {H : Type} {enc : TypeId × Value → H} {P : Program} {w : World} {base : Nat} {spare : Nat → Bool} {held : Bool}
theorem rows_of {α : Type} {cells : α → List Value} {Ok : α → Prop} {t e : TypeId} {n fuel : Nat} {cs : List Value} {x : DataW H × List MemPlace} (ht : P.underlying t = some (.slice e)) (hc : P.cellsOf e = n) (hn : 0 < n) (hlen : ∀ q, (cells q).length = n)
    (hel : ∀ {f : Nat} {cs : List Value} {x : DataW H × List MemPlace}, f < fuel → DataW.trod enc P w base spare held f e cs = some x → ∃ q : α, cs = cells q ∧ Ok q)
    (h : DataW.trod enc P w base spare held fuel t cs = some x) :
    ∃ p c qs, cs = [.slice p qs.length c] ∧ RowsAt n cells Ok w p qs ∧ SlOk p qs.length c := by
  rcases DataW.trod_slice ht h with ⟨hcs, hx⟩ | ⟨a, len, cap, elems, rest, m, hfu, hcs, hx, hb, hl, hm, hel', he, _, _⟩
  · exact ⟨none, 0, [], hcs, fun i hi => absurd hi (by simp), fun _ => ⟨rfl, rfl⟩, Nat.le_refl _, Nat.zero_le _⟩
  · rw [hc] at he
    have key : ∀ i, i < len → ∃ q : α, (∀ j, j < n → w.cell? (a.add (i * n + j)) = (cells q)[j]?) ∧ Ok q := by
      intro i hi
      have h0 := he i hi
      rw [List.getElem?_eq_getElem (by omega)] at h0
      obtain ⟨cs', h1, h2⟩ := Option.bind_eq_some_iff.1 h0
      obtain ⟨q, rfl, hq⟩ := hel (by omega) h2
      obtain ⟨_, hcl, hat⟩ := World.cells?_some h1
      exact ⟨q, fun j hj => by rw [← Go.Deep.add_add]; exact hat j hj, hq⟩
    have : ∀ k, k ≤ len → ∃ ps : List α, ps.length = k ∧ ∀ i (h : i < ps.length), (∀ j, j < n → w.cell? (a.add (i * n + j)) = (cells ps[i])[j]?) ∧ Ok ps[i] := by
      intro k
      induction k with
      | zero => exact fun _ => ⟨[], rfl, fun i hi => absurd hi (by simp)⟩
      | succ k ih =>
        intro hk
        obtain ⟨ps, h1, h2⟩ := ih (by omega)
        obtain ⟨q, h3, h4⟩ := key k (by omega)
        refine ⟨ps ++ [q], by simp [h1], fun i hi => ?_⟩
        rcases Nat.lt_or_ge i ps.length with h | h
        · rw [List.getElem_append_left h]; exact h2 i h
        · have hik : i = k := by simp at hi; omega
          subst hik
          rw [List.getElem_append_right (by omega)]
          simp only [h1, Nat.sub_self, List.getElem_cons_zero]
          exact ⟨h3, h4⟩
    obtain ⟨ps, h1, h2⟩ := this len (Nat.le_refl _)
    refine ⟨some a, cap, ps, by rw [h1]; exact hcs, fun i hi => ?_, fun h => (by cases h), by omega, hm⟩
    obtain ⟨h3, h4⟩ := h2 i hi
    obtain ⟨b, o, sp⟩ := a
    have hi0 : ∀ i (h : i < ps.length), (cells ps[i])[0]? = some ((cells ps[i])[0]'(by rw [hlen]; exact hn)) := fun i h => List.getElem?_eq_getElem _
    have hc0 := h3 0 hn
    rw [hi0 i hi] at hc0
    have hsp : sp = none := by
      have h5 := (h2 0 (by omega)).1 0 hn
      rw [hi0 0 (by omega)] at h5
      simpa [Addr.add] using World.cell?_spot h5
    subst hsp
    refine ⟨b, o, rfl, ?_, fun j hj => by rw [← Go.WideShapes.add_plain]; exact h3 j hj, h4⟩
    have := World.block_lt_of_cell? w _ hc0
    rw [Go.WideShapes.add_plain] at this
    exact this
end
section
variable {H : Type} {enc : TypeId × Value → H} {w : World} {base : Nat} {spare : Nat → Bool} {held : Bool}
def ElOk (w : World) (e : El) : Prop := VlB (fun _ => True) w e.2.1 e.2.2 e.1 ∧ e.1.ok
theorem els_get : ∀ (es : List El) (i j : Nat) (h : i < es.length), j < 4 → (els es)[i * 4 + j]? = es[i].cells[j]?
  | e :: r, 0, j, _, hj => by
    show (e.cells ++ els r)[0 * 4 + j]? = e.cells[j]?
    rw [List.getElem?_append_left (by show 0 * 4 + j < e.cells.length; simp [El.cells, Vl.cells]; omega)]
    congr 1; omega
  | e :: r, i + 1, j, h, hj => by
    show (e.cells ++ els r)[(i + 1) * 4 + j]? = (e :: r)[i + 1].cells[j]?
    rw [List.getElem?_append_right (by show e.cells.length ≤ _; simp [El.cells, Vl.cells]; omega)]
    have := els_get r i j (by simpa using h) hj
    rw [show (i + 1) * 4 + j - e.cells.length = i * 4 + j by simp [El.cells, Vl.cells]; omega, this]
    rfl
theorem rows_fo {p : Option Addr} {es : List El} (h : RowsAt 4 El.cells (ElOk w) w p es) : FoB (fun _ => True) w p 0 (Fo.of (es.map Prod.fst)) := by
  by_cases he : es.length = 0
  · have : es = [] := List.length_eq_zero_iff.1 he
    subst this; trivial
  · obtain ⟨b, o, rfl, _, _, _⟩ := h 0 (by omega)
    have hat : ∀ i (hi : i < es.length), (∀ j, j < 4 → w.cell? ⟨b, o + (i * 4 + j), none⟩ = es[i].cells[j]?) ∧ ElOk w es[i] := fun i hi => by
      obtain ⟨b', o', hp, _, h1, h2⟩ := h i hi
      injection hp with hp; injection hp with e1 e2
      subst e1; subst e2
      exact ⟨h1, h2⟩
    refine els_fo trivial es 0 (fun j u hj => ?_) (fun e he => ?_)
    · have hjl : j < es.length * 4 := by
        have := (List.getElem?_eq_some_iff.1 hj).1
        rwa [els_length] at this
      have hd : j / 4 * 4 + j % 4 = j := by omega
      have hi : j / 4 < es.length := by omega
      have h1 := (hat (j / 4) hi).1 (j % 4) (by omega)
      rw [hd] at h1
      have h2 := els_get es (j / 4) (j % 4) hi (by omega)
      rw [hd, hj] at h2
      rw [Nat.mul_zero, Nat.add_zero, h1, ← h2]
    · obtain ⟨i, hi, rfl⟩ := List.getElem_of_mem he
      exact (hat i hi).2.1
theorem rows_ok {p : Option Addr} {es : List El} (h : RowsAt 4 El.cells (ElOk w) w p es) : (Fo.of (es.map Prod.fst)).ok := by
  refine Fo.of_ok fun v hv => ?_
  obtain ⟨e, he, rfl⟩ := List.mem_map.1 hv
  obtain ⟨i, hi, rfl⟩ := List.getElem_of_mem he
  obtain ⟨_, _, _, _, _, h2⟩ := h i hi
  exact h2.2
theorem wf_i64 {m : Int} (h : (Lit.int .i64 m).wf = true) : i64b m := by
  have := bd_i64 h
  exact ⟨this.1, by have := this.2; omega⟩
theorem valStruct : ∃ f0 f1 f2 f3 : Field, Try.prog.underlying 62 = some (.struct #[f0, f1, f2, f3]) ∧ f0.type = 3 ∧ f0.offset = 0 ∧ f1.type = 2 ∧ f1.offset = 1 ∧ f2.type = 9 ∧ f2.offset = 2 ∧ f3.type = 23 ∧ f3.offset = 3 :=
  ⟨_, _, _, _, Try.underlying62, rfl, rfl, rfl, rfl, rfl, rfl, rfl, rfl⟩
theorem len4 {l : List Value} (h : l.length = 4) : ∃ a b c d, l = [a, b, c, d] := by
  match l, h with
  | [a, b, c, d], _ => exact ⟨a, b, c, d, rfl⟩
theorem open_val : ∀ (n fuel : Nat), fuel < n → ∀ {cs : List Value} {x : DataW H × List MemPlace}, DataW.trod enc Try.prog w base spare held fuel 62 cs = some x → ∃ e : El, cs = e.cells ∧ ElOk w e
  | 0, _, h, _, _, _ => by omega
  | n + 1, fuel, hn, cs, x, h => by
    obtain ⟨f0, f1, f2, f3, hu, t0, o0, t1, o1, t2, o2, t3, o3⟩ := valStruct
    obtain ⟨xs, m, hfu, _, hl, hxl, hf⟩ := DataW.trod_struct hu h
    have c4 : Try.prog.cellsOf 62 = 4 := by kernel_rfl
    have ci : Try.prog.cellsOf 3 = 1 := by kernel_rfl
    have cN : Try.prog.cellsOf 2 = 1 := by kernel_rfl
    have cS : Try.prog.cellsOf 9 = 1 := by kernel_rfl
    have cL : Try.prog.cellsOf 23 = 1 := by kernel_rfl
    rw [c4] at hl
    obtain ⟨a, b, c, d, rfl⟩ := len4 hl
    have hxl : xs.length = 4 := hxl
    have h0 := hf 0 f0 rfl
    have h1 := hf 1 f1 rfl
    have h2 := hf 2 f2 rfl
    have h3 := hf 3 f3 rfl
    rw [List.getElem?_eq_getElem (by omega)] at h0 h1 h2 h3
    rw [t0, o0, ci] at h0
    rw [t1, o1, cN] at h1
    rw [t2, o2, cS] at h2
    rw [t3, o3, cL] at h3
    simp only [List.drop_zero, List.drop_succ_cons, List.take_succ_cons, List.take_zero] at h0 h1 h2 h3
    obtain ⟨k, e0, _, w0⟩ := DataW.trod_int Try.underlying3 h0
    obtain ⟨i, e1, _, w1⟩ := DataW.trod_int Try.underlying2 h1
    obtain ⟨s, e2, _, _⟩ := DataW.trod_string Try.underlying9 h2
    obtain ⟨q, c', es, e3, hR, hS⟩ := rows_of (cells := El.cells) (Ok := ElOk w) Try.underlying23 c4 (by omega) (fun _ => rfl) (fun {f} _ _ hlt hh => open_val n f (by omega) hh) h3
    simp only [List.cons.injEq, and_true] at e0 e1 e2 e3
    subst e0; subst e1; subst e2; subst e3
    have hlen : (Fo.of (es.map Prod.fst)).len = es.length := by rw [Fo.of_len, List.length_map]
    refine ⟨(⟨k, i, s.data.toList, Fo.of (es.map Prod.fst)⟩, q, c'), ?_, ⟨?_, ?_, hS.cap, rows_fo hR⟩, wf_i64 w0, wf_i64 w1, rows_ok hR⟩
    · show _ = [Value.int .i64 k, .int .i64 i, .string ⟨s.data.toList.toArray⟩, .slice q (Fo.of (es.map Prod.fst)).len c']
      rw [hlen, Array.toArray_toList]
    · intro hq
      have := hS.nil_ hq
      exact ⟨hlen.trans this.1, this.2⟩
    · show (Fo.of (es.map Prod.fst)).len ≤ c'
      rw [hlen]; exact hS.len
theorem imgStruct : ∃ f0 f1 f2 f3 : Field, Try.prog.underlying 26 = some (.struct #[f0, f1, f2, f3]) ∧ oneCellFields Try.prog #[f0, f1, f2, f3] = true ∧ f0.type = 22 ∧ f1.type = 23 ∧ f2.type = 24 ∧ f3.type = 3 :=
  ⟨_, _, _, _, Try.underlying26, by kernel_rfl, rfl, rfl, rfl, rfl⟩
theorem instrStruct : ∃ f0 f1 : Field, Try.prog.underlying 52 = some (.struct #[f0, f1]) ∧ f0.type = 3 ∧ f0.offset = 0 ∧ f1.type = 3 ∧ f1.offset = 1 :=
  ⟨_, _, Try.underlying52, rfl, rfl, rfl, rfl⟩
def icells (c : Int × Int) : List Value := [.int .i64 c.1, .int .i64 c.2]
theorem open_instr {fuel : Nat} {cs : List Value} {x : DataW H × List MemPlace} (h : DataW.trod enc Try.prog w base spare held fuel 52 cs = some x) : ∃ c : Int × Int, cs = icells c ∧ i64b c.1 ∧ i64b c.2 := by
  obtain ⟨f0, f1, hu, t0, o0, t1, o1⟩ := instrStruct
  obtain ⟨y0, y1, n, _, hl, h0, h1⟩ := trod_struct2 hu h
  have c2 : Try.prog.cellsOf 52 = 2 := by kernel_rfl
  have ci : Try.prog.cellsOf 3 = 1 := by kernel_rfl
  rw [c2] at hl
  rw [t0, o0, ci] at h0
  rw [t1, o1, ci] at h1
  match cs, hl with
  | [a, b], _ =>
    simp only [List.drop_zero, List.drop_succ_cons, List.take_succ_cons, List.take_zero] at h0 h1
    obtain ⟨k, e0, _, w0⟩ := DataW.trod_int Try.underlying3 h0
    obtain ⟨i, e1, _, w1⟩ := DataW.trod_int Try.underlying3 h1
    simp only [List.cons.injEq, and_true] at e0 e1
    subst e0; subst e1
    exact ⟨(k, i), rfl, wf_i64 w0, wf_i64 w1⟩
theorem open_name {fuel : Nat} {cs : List Value} {x : DataW H × List MemPlace} (h : DataW.trod enc Try.prog w base spare held fuel 9 cs = some x) : ∃ s : List UInt8, cs = [.string ⟨s.toArray⟩] ∧ True := by
  obtain ⟨s, e, _, _⟩ := DataW.trod_string Try.underlying9 h
  exact ⟨s.data.toList, by rw [e, Array.toArray_toList], trivial⟩
theorem open_image {b0 : Nat} {r : Reach} {v : Value} {d : DataW H} {pl : List MemPlace} (hval : Value.okWide Try.prog w r b0 26 v) (h : DataW.Trod enc Try.prog w base spare held 26 v d pl) :
    ∃ (a : Ip) (p : Im), v = .agg (p.cells a).toArray ∧ ImAt w a p ∧ p.ok := by
  obtain ⟨f0, f1, f2, f3, hu, hone, t0, t1, t2, t3⟩ := imgStruct
  obtain ⟨v0, v1, v2, v3, y0, y1, y2, y3, n, rfl, _, _, h0, h1, h2, h3⟩ := open_agg4 hu hone (by kernel_rfl) hval h
  rw [t0] at h0
  rw [t1] at h1
  rw [t2] at h2
  rw [t3] at h3
  obtain ⟨pc, cc, code, e0, hR0, hS0⟩ := rows_of (cells := icells) (Ok := fun c => i64b c.1 ∧ i64b c.2) Try.underlying22 (show Try.prog.cellsOf 52 = 2 by kernel_rfl) (by omega) (fun _ => rfl) (fun _ hh => open_instr hh) h0
  obtain ⟨pk, ck, es, e1, hR1, hS1⟩ := rows_of (cells := El.cells) (Ok := ElOk w) Try.underlying23 (show Try.prog.cellsOf 62 = 4 by kernel_rfl) (by omega) (fun _ => rfl) (fun {f} _ _ _ hh => open_val (f + 1) f (by omega) hh) h1
  obtain ⟨pn, cn, names, e2, hR2, hS2⟩ := rows_of (cells := fun s : List UInt8 => [Value.string ⟨s.toArray⟩]) (Ok := fun _ => True) Try.underlying24 (show Try.prog.cellsOf 9 = 1 by kernel_rfl) (by omega) (fun _ => rfl) (fun _ hh => open_name hh) h2
  obtain ⟨pl, e3, _, w3⟩ := DataW.trod_int Try.underlying3 h3
  simp only [List.cons.injEq, and_true] at e0 e1 e2 e3
  subst e0; subst e1; subst e2; subst e3
  have hlen : (Fo.of (es.map Prod.fst)).len = es.length := by rw [Fo.of_len, List.length_map]
  refine ⟨⟨pc, cc, pk, ck, pn, cn⟩, ⟨code, Fo.of (es.map Prod.fst), names, pl⟩, ?_, ⟨fun i hi => ?_, hS0, ⟨?_, ?_, hS1.cap, rows_fo hR1⟩, fun i hi => ?_, hS2⟩, ⟨fun c hc => ?_, rows_ok hR1, wf_i64 w3⟩⟩
  · show _ = Value.agg #[.slice pc code.length cc, .slice pk (Fo.of (es.map Prod.fst)).len ck, .slice pn names.length cn, .int .i64 pl]
    rw [hlen]
  · obtain ⟨b, o, h4, _, h5, _⟩ := hR0 i hi
    have h6 := h5 0 (by omega)
    have h7 := h5 1 (by omega)
    refine ⟨b, o, h4, trivial, ?_, ?_⟩
    · rw [show o + 2 * i = o + (i * 2 + 0) by omega, h6]; rfl
    · rw [show o + 2 * i + 1 = o + (i * 2 + 1) by omega, h7]; rfl
  · intro hq
    have := hS1.nil_ hq
    exact ⟨hlen.trans this.1, this.2⟩
  · show (Fo.of (es.map Prod.fst)).len ≤ ck
    rw [hlen]; exact hS1.len
  · obtain ⟨b, o, h4, _, h5, _⟩ := hR2 i hi
    have h6 := h5 0 (by omega)
    refine ⟨b, o, h4, trivial, ?_⟩
    rw [show o + i = o + (i * 1 + 0) by omega, h6]; rfl
  · obtain ⟨i, hi, rfl⟩ := List.getElem_of_mem hc
    obtain ⟨_, _, _, _, _, h7⟩ := hR0 i hi
    exact h7
end
end Go.Proofs.Ytkkhcpknldlpoaa

namespace Go.Proofs.Ytkkhcpknldlpoaa.imageSums
open Go.Proofs.Ytkkhcpknldlpoaa
open Go.ChangeShapes Go.WideShapes Go.ChangeAt Go.RowKit Go.Joins Go.Deep
open Go.ChangeMaps (open_string shut_string)
set_option maxRecDepth 4000
set_option linter.unusedVariables false
set_option linter.unusedSimpArgs false

theorem own : ownKnob Try.prog.godebug = none := by kernel_rfl
theorem laidOut : laidOutB Try.prog = true := by kernel_rfl

set_option maxRecDepth 100000 in
theorem lifted (os : Os) (started : os.Started) (H : Type) (enc : TypeId × Value → H) :
    ReturnsInHanded {} Try.checked os 9 .any (Rows.imageSumsSpec.pre6 enc Try.prog Try.f9 Rows.imageSumsRow.domain false) (Rows.imageSumsSpec.post enc Try.prog Try.f9 false true false false) := by
  refine returnsInHanded_of_change (C := Try.checked) own started (by kernel_rfl) Try.func9
    (ChangeSpec.witness6 (enc := enc) (C := Try.checked) false ⟨#[], #[.string ⟨#[]⟩, .string ⟨#[]⟩, .agg #[.slice none 0 0, .slice none 0 0, .slice none 0 0, .int .i64 0]], []⟩ 8 (by kernel_rfl) (by kernel_rfl) (by kernel_rfl) (by kernel_rfl)) ?_
  intro W base args ds gs before hval0 hW hcnd _
  have hval : ∀ (j : Nat) t v, Try.f9.params[j]? = some t → args[j]? = some v → Value.okWide Try.prog W .any base t v := hval0
  have hW' := hW
  obtain ⟨p, q, hA0, hV, rfl, hfz, hnd⟩ := hW
  have hA : DataW.TrodAll enc Try.prog W 0 (fun _ => true) true Try.f9.params.toList args.toList ds p := hA0
  rw [Try.params9] at hA hval
  obtain ⟨v0, vs0, d0, ds0, p0, q0, hargs, rfl, rfl, h0, r0⟩ := trodAll_cons hA
  obtain ⟨v1, vs1, d1, ds1, p1, q1, rfl, rfl, rfl, h1, r1⟩ := trodAll_cons r0
  obtain ⟨v2, vs2, d2, ds2, p2, q2, rfl, rfl, rfl, h2, r2⟩ := trodAll_cons r1
  obtain ⟨rfl, rfl, rfl⟩ := trodAll_nil r2
  obtain rfl : args = #[v0, v1, v2] := by cases args; simp_all
  obtain ⟨rfl, rfl⟩ := trodVars_none hV
  have k0 := h0
  have lt0 : ∀ x ∈ p0, x.block < W.heap.size := by obtain ⟨m, hm⟩ := k0; exact DataW.trod_lt m _ _ _ hm
  have k1 := h1
  have lt1 : ∀ x ∈ p1, x.block < W.heap.size := by obtain ⟨m, hm⟩ := k1; exact DataW.trod_lt m _ _ _ hm
  have k2 := h2
  have lt2 : ∀ x ∈ p2, x.block < W.heap.size := by obtain ⟨m, hm⟩ := k2; exact DataW.trod_lt m _ _ _ hm
  obtain ⟨s, rfl, rfl, rfl, -⟩ := open_string Try.underlying9 (hval 0 9 v0 rfl rfl) h0
  obtain ⟨t, rfl, rfl, rfl, -⟩ := open_string Try.underlying9 (hval 1 9 v1 rfl rfl) h1
  obtain ⟨a, p, rfl, hI, hok⟩ := open_image (hval 2 26 v2 rfl rfl) h2
  have hs : s = ⟨s.data.toList.toArray⟩ := by rw [Array.toArray_toList]
  have ht : t = ⟨t.data.toList.toArray⟩ := by rw [Array.toArray_toList]
  have hl := sums_any W s.data.toList t.data.toList p a hI hok
  rw [← hs, ← ht] at hl
  refine hl.mono fun e W' ⟨he, bel⟩ => ?_
  subst he
  exact ⟨_, rfl, _, _, _, [], _, [], hW', trodAll_mk1 (shut_bool Try.underlying4 _), (trodAll_cons_mk (Below.trod laidOut (by kernel_rfl) (of_decide_eq_true (by kernel_rfl)) k0 bel lt0) (trodAll_cons_mk (Below.trod laidOut (by kernel_rfl) (of_decide_eq_true (by kernel_rfl)) k1 bel lt1) (trodAll_cons_mk (Below.trod laidOut (by kernel_rfl) (of_decide_eq_true (by kernel_rfl)) k2 bel lt2) trodAll_mk0))), rfl, bel.frame _, fun h => by cases h⟩

theorem over : Rows.imageSumsRow.holds Try.pinned (OpenSpec.ofChange Rows.imageSumsSpec) :=
  OpenClaim.holds_of_wide 9 Try.f9 rfl rfl rfl rfl rfl rfl rfl ⟨rfl, rfl, rfl, rfl, rfl⟩ rfl rfl rfl rfl rfl (by kernel_rfl) Try.func9 (by kernel_rfl)
    (of_decide_eq_true (by kernel_rfl)) (by unfold Func.isWrapper; first | (rw [if_pos (by decide +kernel)]; kernel_rfl) | (rw [if_neg (by decide +kernel)]; exact ⟨rfl, rfl⟩))
    (fun os started H enc _ => lifted os started H enc)

theorem proved : Rows.ImageSumsSaid := over
#print axioms proved
end Go.Proofs.Ytkkhcpknldlpoaa.imageSums
