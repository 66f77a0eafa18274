/- WholeBytes, walked. -/
import Derived.Test.YtcnbnhncncgkaaaBytesPlain
import Derived.Test.YtcnbnhncncgkaaaSRowB
import Derived.Test.YtcnbnhncncgkaaaRRead
import Derived.Deep.MidRow
namespace Go.Proofs.Ytcnbnhncncgkaaa
set_option linter.unusedVariables false
set_option linter.unusedSimpArgs false
open Go Go.RowKit
theorem wA_new (W : World) : wA W.heap.size [] (W.alloc (.cells #[.slice none 0 0] 32)) (WFoot W.heap.size (.slice none 0 0)) :=
  ⟨_, ⟨Blk.new _ _ _, World.ownsRow_nil _ _ _ _⟩, rfl⟩
theorem Has.writer {w W : World} {ps : List Asr} (h : Has w W ps) (hl : Locs ps) : Has w (W.alloc (.cells #[.slice none 0 0] 32)) (wA W.heap.size [] :: ps) :=
  h.add hl (ext_alloc _ _) (wA_new W) (by rintro k (rfl | hk); exact Nat.le_refl _; simp [Value.ownBlock] at hk)
theorem Has.reader {w W W' : World} {ps : List Asr} {bs : List UInt8} {e : Ending} (h : Has w W ps) (hl : Locs ps) (hr : ReadIs W bs e W') : ∃ r, e = .returned (.pointer (some ⟨r, 0, none⟩)) ∧ Has w W' (rA r ⟨bs, 0, 0⟩ :: ps) := by
  obtain ⟨r, F, rfl, h1, h2, h3⟩ := hr
  exact ⟨r, rfl, h.add hl h3 h1 h2⟩
theorem wpList_load_mid_w {P : Program} {ops : Array Oper} {rest : List Oper} {op : Oper} {a : Act} {w : World} {Q : Exit → Act → World → Prop} (hw : Region.wanted op (yielded ops a.tmps) = true) (ty : TypeId) (x : Operand) (ho : op.op = .load ty x)
    (b o : Nat) (hx : a.eval x = .pointer (some ⟨b, o, none⟩)) (cs : List Value) (d : TypeDesc) (hc : w.rangeAt b o cs)
    (hu : P.underlying ty = some d) (hd : d.isRow = true) (hi : (P.info? ty).map (·.size) = some cs.length)
    (h : wpList P ops Q rest (a.put op.dst (.agg cs.toArray)) w) : wpList P ops Q (op :: rest) a w :=
  wpList_step fun K hK => by simp only [hw, if_true]; exact wp_load_mid ty x ho b o hx cs d hc hu hd hi (hK _ _ h)
/-- texts, in a slice, that can be read -/
def TextsAt (w : World) (p : Option Addr) (ts : List (List UInt8)) : Prop :=
  ∀ i (h : i < ts.length), ∃ b o, p = some ⟨b, o, none⟩ ∧ b < w.heap.size ∧ w.cell? ⟨b, o + i, none⟩ = some (.string (strOf ts[i]))
theorem int_lit {X : World} {g : Nat} {t : TypeId} {n : Int} (h : Blk X g t #[.int .i64 n]) : NumsAt .i64 X (some ⟨g, 0, none⟩) [n] := by
  intro j hj
  have hj0 : j = 0 := by simpa using hj
  subst hj0
  refine ⟨_, rfl, h.lt, ?_⟩
  rw [Go.WideShapes.add_plain, h.cell]; rfl
def ints (l : List Int) : List Value := l.map (Value.int .i64)
theorem ints_at {w : World} {p : Option Addr} {l : List Int} (h : NumsAt .i64 w p l) : ∀ a, p = some a → ∀ j u, (ints l)[j]? = some u → w.cell? (a.add j) = some u := by
  rintro a rfl j u hj
  have hlt : j < l.length := by have := (List.getElem?_eq_some_iff.1 hj).1; simpa [ints] using this
  obtain ⟨a', ha, _, hc⟩ := h j hlt
  injection ha with ha
  subst ha
  rw [hc]
  rw [ints, List.getElem?_map, List.getElem?_eq_getElem hlt] at hj
  rw [List.getD_eq_getElem?_getD, List.getElem?_eq_getElem hlt]
  simpa using hj
theorem ints_one (l : List Int) : ∀ u ∈ ints l, u.oneCell' = true := by
  intro u hu; simp only [ints, List.mem_map] at hu; obtain ⟨b, _, rfl⟩ := hu; rfl
theorem intInfo' : (Try.prog.info? 3).map (fun i => (i.zero, i.size, i.bytes)) = some (some (.int .i64 0), 1, 8) := by kernel_rfl
theorem slInfo' : (Try.prog.info? 27).map (fun i => (i.zero, i.size, i.bytes)) = some (some (.slice none 0 0), 1, 24) := by kernel_rfl
def blkOf : Option Addr → Nat
  | some x => x.block
  | none => 0
/-- parts of b, laid as slices of block g -/
structure PV (g : Nat) (b : List UInt8) (ps : List (List UInt8)) (cells : List Value) : Prop where
  len : cells.length = ps.length
  at_ : ∀ i (h : i < ps.length), ∃ q c, cells[i]? = some (.slice q ps[i].length c) ∧ (0 < ps[i].length → ∃ o, q = some ⟨g, o, none⟩ ∧ o + ps[i].length ≤ b.length ∧ ps[i] = (b.drop o).take ps[i].length) ∧ (q = none → ps[i].length = 0 ∧ c = 0) ∧ ps[i].length ≤ c ∧ c ≤ maxLen
theorem PV.snoc {g : Nat} {b : List UInt8} {ps : List (List UInt8)} {cells : List Value} (h : PV g b ps cells) (x : List UInt8) (q : Option Addr) (c : Nat) (h1 : 0 < x.length → ∃ o, q = some ⟨g, o, none⟩ ∧ o + x.length ≤ b.length ∧ x = (b.drop o).take x.length) (h2 : q = none → x.length = 0 ∧ c = 0) (h3 : x.length ≤ c) (h4 : c ≤ maxLen) : PV g b (ps ++ [x]) (cells ++ [.slice q x.length c]) := by
  refine ⟨by simp [h.len], fun i hi => ?_⟩
  rcases Nat.lt_or_ge i ps.length with h' | h'
  · obtain ⟨q', c', k1, k2⟩ := h.at_ i h'
    refine ⟨q', c', ?_, ?_⟩
    · rw [List.getElem?_append_left (by rw [h.len]; exact h'), List.getElem_append_left h']; exact k1
    · rw [List.getElem_append_left h']; exact k2
  · have hi' : i = ps.length := by simp at hi; omega
    subst hi'
    have e : (ps ++ [x])[ps.length]'hi = x := by simp
    rw [e]
    refine ⟨q, c, ?_, h1, h2, h3, h4⟩
    rw [← h.len]; simp
theorem part_nums {w X : World} {gb cb at_ m : Nat} {b : List UInt8} {ps : List Asr} (h : Has w X (BRow (.slice (some ⟨gb, 0, none⟩) b.length cb) b :: ps)) (hm : at_ + m ≤ b.length) : NumsAt .u8 X (some ⟨gb, at_, none⟩) (byI ((b.drop at_).take m)) := by
  intro j hj
  have hj' : j < m := by rw [byI_length, List.length_take, List.length_drop] at hj; omega
  obtain ⟨F, hF⟩ := h.head
  have hc := hF.1.cellAt (at_ + j) (by omega)
  rw [u8s_get b (at_ + j) (by omega)] at hc
  refine ⟨_, rfl, World.block_lt_of_cell? X ⟨gb, at_ + j, none⟩ hc, ?_⟩
  rw [Go.WideShapes.add_plain, hc]
  congr 2
  have hl : j < ((b.drop at_).take m).length := by rw [List.length_take, List.length_drop]; omega
  have e1 : b.getD (at_ + j) 0 = b[at_ + j]'(by omega) := by rw [List.getD_eq_getElem?_getD, List.getElem?_eq_getElem (by omega)]; rfl
  have e2 : (byI ((b.drop at_).take m)).getD j 0 = ((((b.drop at_).take m)[j]'hl).toNat : Int) := by
    rw [List.getD_eq_getElem?_getD, byI, List.getElem?_map, List.getElem?_eq_getElem hl]; rfl
  rw [e1, e2]
  simp
theorem PartsAt.oneG {F : Nat → Prop} {X : World} {g : Nat} {t : TypeId} {q : Option Addr} {c : Nat} {l : List UInt8} (hb : Blk X g t #[.slice q l.length c]) (hg : ¬ F g) (hN : NumsAt .u8 X q (byI l)) (hd : ∀ a, q = some a → ¬ F a.block) (hn : q = none → l.length = 0 ∧ c = 0) (h1 : l.length ≤ c) (h2 : c ≤ maxLen) : PartsAt F X (some ⟨g, 0, none⟩) [l] := by
  intro i hi
  have hi0 : i = 0 := by simp at hi; exact hi
  subst hi0
  exact ⟨g, 0, rfl, hb.lt, hg, q, c, by rw [hb.cell]; rfl, hN, fun _ => hd, hn, h1, h2⟩
theorem PV.in_ {X : World} {g n c : Nat} {b : List UInt8} {ps : List (List UInt8)} {cells : List Value} {p : Option Addr} (h : PV g b ps cells) (ho : X.ownsRow 0 27 1 (.slice p n c) n cells) (hn : ps.length = n) (hN : ∀ o m, 0 < m → o + m ≤ b.length → NumsAt .u8 X (some ⟨g, o, none⟩) (byI ((b.drop o).take m))) : PartsIn X p ps := by
  intro i hi
  rcases ho.2 with ⟨hv, h0⟩ | ⟨gr, cap, cur, hv, _⟩
  · omega
  · injection hv with h1 h2 h3
    subst h1 h3
    obtain ⟨q, cq, k1, k2, k3, k4, k5⟩ := h.at_ i hi
    have hc := ho.cellAt i (by omega)
    rw [k1] at hc
    refine ⟨gr, 0, rfl, World.block_lt_of_cell? X _ hc, q, cq, by rw [Nat.zero_add]; exact hc, ?_, k3, k4, k5⟩
    rcases Nat.eq_zero_or_pos ps[i].length with hz | hz
    · intro j hj
      rw [byI_length] at hj; omega
    · obtain ⟨o, rfl, k6, k7⟩ := k2 hz
      rw [k7]
      exact hN o ps[i].length hz k6
theorem take_cut (b : List UInt8) (n m : Nat) : b.take n ++ (b.drop n).take m = b.take (n + m) := (List.take_add).symm
def E1Rel (w : World) (r : Nat) (b : List UInt8) (ns : List Int) (k : Value) (wr : World) : Prop := ∃ i : Nat, i ≤ ns.length ∧ k = .int .i64 i ∧ Has w wr [rA r ⟨b, (outN (ns.take i)).length, 0⟩]
def E2Rel (w : World) (r : Nat) (b d : List UInt8) (ts : List (List UInt8)) (k : Value) (wr : World) : Prop := ∃ i : Nat, i ≤ ts.length ∧ k = .int .i64 i ∧ Has w wr [rA r ⟨b, d.length + (outT (ts.take i)).length, 0⟩]
theorem smSize' {l : List UInt8} (h : l.length = 32) : (Try.prog.info? 29).map (·.size) = some (u8s l).length := by
  rw [smInfo]; simp [u8s, h]
theorem chain_one {W : World} {t : TypeId} {q : Option Addr} {c : Nat} {l : List UInt8} (hN : NumsAt .u8 W q (byI l)) (hn : q = none → l.length = 0 ∧ c = 0) (h1 : l.length ≤ c) (h2 : c ≤ maxLen) (hs : l.length ≤ 70368744177664) :
    Calls Try.prog 12 #[smV (zb 32), .slice (some ⟨W.heap.size, 0, none⟩) 1 1] (W.alloc (.cells #[.slice q l.length c] t)) fun e w' => ∃ g cc, e = .returned (.slice (some ⟨g, 0, none⟩) 1 cc) ∧ w'.rangeAt g 0 (u8s (sha (zb 32 ++ l))) ∧ Ext W w' := by
  have hE := ext_alloc W (.cells #[.slice q l.length c] t)
  have hP := PartsAt.one (Blk.new W t #[.slice q l.length c]) (hN.ext hE) hn h1 h2
  refine (chain_any _ (zb 32) rfl _ 1 [l] hP (by simp) (by intro x hx; simp at hx; subst hx; exact hs)).mono ?_
  rintro e w' ⟨v, rfl, hH⟩
  obtain ⟨F, hF⟩ := hH.head
  rcases hF.1.2 with ⟨hv, h0⟩ | ⟨g, cap, cur, hv, _⟩
  · simp at h0
  · refine ⟨g, cap, by rw [hv]; rfl, ?_, hE.trans hH.base⟩
    have ho := hF.1
    rw [hv] at ho
    intro j u hj
    have hjl : j < 32 := by
      have h3 := (List.getElem?_eq_some_iff.1 hj).1
      rw [u8s_length, sha_len] at h3; exact h3
    have hc := World.ownsRow.cellAt ho j (by simp; omega)
    rw [Nat.zero_add, hc]
    have hfl : (chain (zb 32) [l]).flatten = sha (zb 32 ++ l) := by simp [chain]
    rw [hfl]
    exact hj
def DRel (w : World) (hb g : Nat) (b : List UInt8) (n : Nat) (qs : List Asr) (v a k : Value) (wr : World) : Prop :=
  ∃ (i at_ : Nat) (ps : List (List UInt8)) (cells : List Value), i ≤ n ∧ k = .int .i64 i ∧ a = .int .i64 at_ ∧ at_ ≤ b.length ∧ (i = n → at_ = b.length) ∧ ps.length = i ∧ ps.flatten = b.take at_ ∧ PV g b ps cells ∧ Has w wr (rowA 27 1 v i cells :: hOf hb (b.take at_) :: qs)
def B1Rel (w : World) (q : Nat) (ns : List Int) (k : Value) (wr : World) : Prop := ∃ i : Nat, i ≤ ns.length ∧ k = .int .i64 i ∧ Has w wr [wA q (outN (ns.take i))]
def B2Rel (w : World) (q : Nat) (d : List UInt8) (ts : List (List UInt8)) (k : Value) (wr : World) : Prop := ∃ i : Nat, i ≤ ts.length ∧ k = .int .i64 i ∧ (∀ t ∈ ts.take i, t.length ≤ 200) ∧ Has w wr [wA q (d ++ outT (ts.take i))]
set_option maxRecDepth 100000 in
set_option maxHeartbeats 100000000 in
theorem whole_bytes (w : World) (p0 : Option Addr) (c0 : Nat) (ns : List Int) (hN : NumsAt .i64 w p0 ns) (hb : ∀ n ∈ ns, -9223372036854775808 ≤ n ∧ n ≤ 9223372036854775807)
    (p1 : Option Addr) (c1 : Nat) (ts : List (List UInt8)) (hT : TextsAt w p1 ts)
    (p2 : Option Addr) (c2 : Nat) (cs : List Int) (hC : NumsAt .i64 w p2 cs) (hcb : ∀ n ∈ cs, -9223372036854775808 ≤ n ∧ n ≤ 9223372036854775807) (hp2 : p2 = none → cs.length = 0 ∧ c2 = 0) :
    Calls Try.prog 3 #[.slice p0 ns.length c0, .slice p1 ts.length c1, .slice p2 cs.length c2] w fun e w' => e = .returned (.bool true) ∧ Ext w w' := by
  have hC0 := crc_lit
  have hO0 := of_lit
  have h0 := fun W => index_sum (W := W) (sha abc) 0 0 rfl (by omega) (sha_len _)
  have e0 : (sha abc).getD 0 0 = 0xba := by rw [List.getD_eq_getElem?_getD, show sha abc = sha [0x61, 0x62, 0x63] from rfl, sha_abc]; rfl
  have k0 : (((0xba : UInt8).toNat : Nat) : Int) = 186 := rfl
  rw [e0, k0] at h0
  clear e0 k0
  generalize sha abc = sa at *
  have kc := fun (w : World) (C : Array Value) (n c : Nat) => Lib.run_convert_bytes_const (P := Try.prog) w 27 5 C n c Try.underlying27 Try.underlying5
  go_enter Try.func3, Try.ntmps3
  go_wp2_with fail
  refine (hC0 w).mono ?_
  rintro e w1 ⟨rfl, hw⟩
  have hE1 : Ext w w1 := by rw [hw]; exact (ext_alloc _ _).trans (ext_alloc _ _)
  clear hw hC0
  go_wp2_with fail
  refine (hO0 w1).mono ?_
  rintro e w2 ⟨rfl, hE2⟩
  have hE := hE1.trans hE2
  clear hE1 hE2 hO0
  rcases (show (30 : Int) < ns.length ∨ ¬ (30 : Int) < ns.length by omega) with g | g1
  · go_wp2_with fail
    go_ret
    exact ⟨rfl, hE⟩
  rcases (show (20 : Int) < ts.length ∨ ¬ (20 : Int) < ts.length by omega) with g | g2
  · go_wp2_with fail
    go_ret
    exact ⟨rfl, hE⟩
  rcases (show (40 : Int) < cs.length ∨ ¬ (40 : Int) < cs.length by omega) with g | g3
  · go_wp2_with fail
    go_ret
    exact ⟨rfl, hE⟩
  go_upto_region 6 with fail
  clear h0 kc
  have hH : Has w (w2.alloc (.cells #[.slice none 0 0] 32)) [wA w2.heap.size []] := (Has.nil hE).writer .nil
  refine gen_world' (fun X => Has w X [wA w2.heap.size []]) hH ?_
  clear hH hE
  intro w3 hH
  generalize w2.heap.size = q at *
  go_wp2_with fail
  go_loopw [51] (fun k wr => B1Rel w q ns k wr) (fun k _ => ((ns.length : Int) + 1 - intOf k).toNat)
  case atStart => exact ⟨0, by omega, rfl, hH⟩
  case round =>
    clear hH
    obtain ⟨i, hi, rfl, hH⟩ := hrel
    by_cases gi : (i : Int) < ns.length
    · obtain ⟨a, rfl, hcell⟩ := hN.get hH.base i (by omega)
      have hnb := hb _ (getD_mem ns 0 i (by omega))
      have hsn := outN_snoc ns i (by omega)
      have hgd : ns[i]'(by omega) = ns.getD i 0 := by rw [List.getD_eq_getElem?_getD, List.getElem?_eq_getElem (by omega)]; rfl
      rw [hgd] at hsn
      have hll : (outN (ns.take i)).length ≤ 300 := by
        have := outN_len (ns.take i) (fun n hn => hb n (List.mem_of_mem_take hn))
        rw [List.length_take] at this
        omega
      have HS := Lib.hid hsn
      clear hsn hgd
      generalize outN (ns.take i) = l at *
      generalize ns.getD i 0 = n at *
      go_wp2_with fail
      have hH2 : Has w (wr.alloc (.cells #[.int .i64 n] 2)) [wA q l, blkA wr.heap.size 2 #[.int .i64 n]] := (hH.add (.cons (wA_loc _ _) .nil) (ext_alloc wr (.cells #[.int .i64 n] 2)) (p := blkA wr.heap.size 2 #[.int .i64 n]) (F := fun k => k = wr.heap.size) ⟨Blk.new _ _ _, rfl⟩ (fun k hk => by omega)).swap
      refine (hH2.actS (R := fun e => e = .returned (.tuple #[])) (p' := wA q (l ++ numB (zigN n))) (.cons (blkA_loc _ _ _) .nil) fun F hF hlo hS => ?_).mono ?_
      · obtain ⟨G1, hG1, hd1, -⟩ := hS
        have e1 := hG1.2
        have := wint_any hF _ 1 [n] (int_lit hG1.1) (by rintro a ha h; injection ha with ha; subst ha; exact (hd1 _ (by rw [e1])).2 h) (by intro m hm; simp at hm; subst hm; exact hnb) (by simp; omega)
        simpa using this
      rintro e w5 ⟨rfl, hH5⟩
      have hH6 := hH5.swap.drop
      clear hH2 hH5 hH
      go_wp2_with fail
      exact ⟨⟨i + 1, by omega, by go_num, by rw [HS.out]; exact hH6⟩, by simp [intOf]; omega⟩
    · have hi' : i = ns.length := by omega
      subst hi'
      rw [List.take_length] at hH
      have hdl := outN_len ns hb
      have HNL := Lib.hid hdl
      have hd300 : (outN ns).length ≤ 300 := by omega
      generalize hd : outN ns = d at *
      have HD0 := Lib.hid hd
      clear hd
      go_wp2_with fail
      go_loopw [61] (fun k wr => B2Rel w q d ts k wr) (fun k _ => ((ts.length : Int) + 1 - intOf k).toNat)
      case atStart => exact ⟨0, by omega, rfl, by simp, by simpa [outT] using hH⟩
      case round =>
        clear hH
        obtain ⟨i, hi, rfl, hsm, hH⟩ := hrel
        by_cases gi : (i : Int) < ts.length
        · obtain ⟨b, o, hpe, hbh, hc0⟩ := hT i (by omega)
          subst hpe
          have hc := (hH.base.cell b (o + i) hbh).trans hc0
          have hsn := outT_snoc ts i (by omega)
          have hsm' : (ts[i]'(by omega)).length ≤ 200 → ∀ x ∈ ts.take (i + 1), x.length ≤ 200 := by
            intro h x hx
            rw [List.take_succ_eq_append_getElem (by omega)] at hx
            rcases List.mem_append.1 hx with hx | hx
            · exact hsm x hx
            · simp at hx; subst hx; exact h
          have hll : (d ++ outT (ts.take i)).length ≤ 4600 := by
            have := outT_len (ts.take i) hsm
            rw [List.length_take] at this
            rw [List.length_append]
            have : min i ts.length ≤ 20 := by omega
            omega
          have hap : d ++ outT (ts.take (i + 1)) = (d ++ outT (ts.take i)) ++ (numB (ts[i]'(by omega)).length ++ ts[i]'(by omega)) := by rw [hsn, List.append_assoc]
          have HS := Lib.hid hap
          have HM := Lib.hid hsm'
          clear hsn hap hsm' hsm hc0
          generalize d ++ outT (ts.take i) = l at *
          generalize ts[i]'(by omega) = t at *
          have hsz : (strOf t).size = t.length := rfl
          rcases (show (200 : Int) < t.length ∨ ¬ (200 : Int) < t.length by omega) with g4 | g4
          · go_wp2_with fail
            go_ret
            exact ⟨rfl, hH.base⟩
          go_wp2_with fail
          refine (hH.act .nil fun F h => wtext_any h (strOf t) (by rw [hsz]; omega) (by omega)).mono ?_
          rintro e w5 ⟨rfl, hH5⟩
          have hdt : (strOf t).data.toList = t := rfl
          rw [hsz, hdt] at hH5
          clear hH hc
          go_wp2_with fail
          exact ⟨⟨i + 1, by omega, by go_num, HM.out (by omega), by rw [HS.out]; exact hH5⟩, by simp [intOf]; omega⟩
        · have hi' : i = ts.length := by omega
          subst hi'
          rw [List.take_length] at hH hsm
          have hbl : (d ++ outT ts).length ≤ 4600 := by
            have := outT_len ts hsm
            rw [List.length_append]
            omega
          have HD := Lib.hid (rfl : d ++ outT ts = d ++ outT ts)
          generalize hbd : d ++ outT ts = b at hH hbl HD
          have HBD := Lib.hid hbd
          clear HD hbd
          go_wp2_with fail
          refine (hH.keeps (.cons (wA_loc _ _) .nil) fun F h => (wbytes_any h (by omega))).mono ?_
          rintro e w5 ⟨⟨v5, rfl, hown5⟩, hH5, hE5⟩
          obtain ⟨pb, cb, rfl⟩ := ownsRow_slice hown5
          have hHb : Has w w5 [BRow (.slice pb b.length cb) b] := hH.drop.add .nil hE5 (p := BRow (.slice pb b.length cb) b) (F := fun k => (Value.slice pb b.length cb).ownBlock = some k) ⟨ownsRow_base hown5 (fun _ _ => Nat.zero_le _), rfl⟩ (fun k hk => (hown5.lt k hk).1)
          clear hH hH5 hE5 hown5
          go_upto_region 20 with fail
          have hHh : Has w (w5.alloc (.cells (hcs St.zero false (.slice none 0 0) 0) 40)) [hOf w5.heap.size [], BRow (.slice pb b.length cb) b] :=
            hHb.add (.cons (BRow_loc _ _) .nil) (ext_alloc w5 _) (p := hOf w5.heap.size []) (F := HFoot w5.heap.size (.slice none 0 0)) ⟨HS.zero, HS.Of.zero, hA_new w5⟩ (fun k hk => by rcases hk with rfl | hk; exact Nat.le_refl _; simp [Value.ownBlock] at hk)
          refine gen_world' (fun X => Has w X [hOf w5.heap.size [], BRow (.slice pb b.length cb) b]) hHh ?_
          clear hHh hHb
          intro w6 hH
          generalize w5.heap.size = hb_ at *
          obtain ⟨j0, hj0, jz0, jz1, jz2⟩ := info_parts intInfo'
          have hE6 := hH.base.trans (ext_alloc w6 (.cells #[] 3))
          have hCr := hC.ext hE6
          have hlit := World.ownsRow_made (base := 0) (e := 3) (size := 1) w6 #[] 0 (Nat.zero_le _) (by simp) rfl
          go_upto_region 22 with fail
          go_wp2_with (at_builtin; refine wpList_append_new rfl _ _ 24 rfl 3 j0 (.int .i64 0) 1 8 Try.underlying24 hj0 jz0 jz1 jz2 rfl (by decide) (.slice (some ⟨Array.size (World.heap w6), 0, none⟩) 0 0) 0 [] rfl hlit p2 cs.length c2 (ints cs) rfl (by simp [ints]) hp2 (ints_at hCr) (ints_one cs) (by unfold maxLen; omega) (by omega) ?_)
          intro v7 w7 hown7 hg7 hf7
          have hlb : ∀ k, (Value.slice (some ⟨Array.size (World.heap w6), 0, none⟩) 0 0).ownBlock = some k → Array.size (World.heap w6) ≤ k := fun k hk => Nat.le_of_eq (by simpa [Value.ownBlock] using hk)
          obtain ⟨hE7, hb7⟩ := fresh_ext (ext_alloc w6 (.cells #[] 3)) hlb hg7 hf7
          have hown7' : w7.ownsRow 0 3 1 v7 cs.length (ints cs) := by simpa using hown7
          have LB : Locs [hOf hb_ [], BRow (.slice pb b.length cb) b] := .cons (hOf_loc _ _) (.cons (BRow_loc _ _) .nil)
          have hH7 := hH.add LB hE7 (p := rowA 3 1 v7 cs.length (ints cs)) (F := fun k => v7.ownBlock = some k) ⟨hown7', rfl⟩ hb7
          clear hown7 hg7 hf7 hE7 hb7 hown7' hlit hH hlb hE6 hCr
          have hH8 := hH7.ext (.cons (rowA_loc _ _ _ _ _) LB) (ext_alloc w7 (.cells #[.int .i64 (b.length : Int)] 3))
          have hnews := news_new w7 [.int .i64 (b.length : Int)] 3
          obtain ⟨F7, hF7⟩ := hH8.head
          have hown := hF7.1
          go_wp2_with (at_builtin; refine wpList_append_new rfl _ _ 24 rfl 3 j0 (.int .i64 0) 1 8 Try.underlying24 hj0 jz0 jz1 jz2 rfl (by decide) _ _ _ rfl hown _ 1 1 [.int .i64 (b.length : Int)] rfl rfl (fun h => by cases h) hnews (oneC1 _ _) (by unfold maxLen; omega) (by omega) ?_)
          intro v9 w9 hown9 hg9 hf9
          have hH9 : Has w w9 [rowA 3 1 v9 (cs.length + 1) (ints (cs ++ [(b.length : Int)])), hOf hb_ [], BRow (.slice pb b.length cb) b] := hH8.next LB fun F hF => by
            obtain ⟨_, rfl⟩ := hF
            refine Next.mk ⟨by simpa [ints] using hown9, rfl⟩ (grownBy.tch hg9) hf9.1
          obtain ⟨g9, c9, rfl⟩ : ∃ g c, v9 = .slice (some ⟨g, 0, none⟩) (cs.length + 1) c := by
            rcases hown9.2 with ⟨hv, h0⟩ | ⟨g, cap, cur, hv, _⟩
            · omega
            · exact ⟨g, cap, hv⟩
          clear hF7 hown hown9 hg9 hf9 hH7 hH8 hnews
          have hcl : (cs ++ [(b.length : Int)]).length = cs.length + 1 := by simp
          have hlast : (cs ++ [(b.length : Int)]).getD cs.length 0 = (b.length : Int) := by simp [List.getD_eq_getElem?_getD]
          have hcb' : ∀ n ∈ cs ++ [(b.length : Int)], -9223372036854775808 ≤ n ∧ n ≤ 9223372036854775807 := by
            intro n hn
            rcases List.mem_append.1 hn with h | h
            · exact hcb n h
            · simp at h; subst h; omega
          have HLAST := Lib.hid hlast
          clear hlast
          generalize hzs : cs ++ [(b.length : Int)] = zs at *
          clear hzs
          obtain ⟨n1, hn1⟩ : ∃ n, n = cs.length + 1 := ⟨_, rfl⟩
          have hn41 : (n1 : Int) ≤ 41 := by omega
          have hn10 : (0 : Int) < n1 := by omega
          have HN1 := Lib.hid hn1
          rw [← hn1] at hH9 hcl ⊢
          clear hn1
          go_wp2_with fail
          have hH10 : Has w w9 (rowA 27 1 (.slice none 0 0) 0 [] :: hOf hb_ (b.take 0) :: [rowA 3 1 (.slice (some ⟨g9, 0, none⟩) n1 c9) n1 (ints zs), BRow (.slice pb b.length cb) b]) := (hH9.swap).add (.cons (hOf_loc _ _) (.cons (rowA_loc _ _ _ _ _) (.cons (BRow_loc _ _) .nil))) (Ext.refl w9) (p := rowA 27 1 (.slice none 0 0) 0 []) (F := fun k => (Value.slice none 0 0).ownBlock = some k) ⟨World.ownsRow_nil _ _ _ _, rfl⟩ (fun k hk => by simp [Value.ownBlock] at hk)
          have LQ : Locs [rowA 3 1 (.slice (some ⟨g9, 0, none⟩) n1 c9) n1 (ints zs), BRow (.slice pb b.length cb) b] := .cons (rowA_loc _ _ _ _ _) (.cons (BRow_loc _ _) .nil)
          have hbform : pb = none ∨ ∃ g, pb = some ⟨g, 0, none⟩ := by
            obtain ⟨F, hF⟩ := hH9.third.head
            rcases hF.1.2 with ⟨hv, h0⟩ | ⟨g, cap, cur, hv, _⟩
            · injection hv with h1 _ _; exact Or.inl h1
            · injection hv with h1 _ _; exact Or.inr ⟨g, h1⟩
          have hcapb : b.length ≤ cb ∧ cb ≤ maxLen := by
            obtain ⟨F, hF⟩ := hH9.third.head
            exact row_cap hF.1
          have hnilb : pb = none → b.length = 0 ∧ cb = 0 := by
            obtain ⟨F, hF⟩ := hH9.third.head
            exact row_nil hF.1
          clear hH9
          go_loopw [14, 15, 80] (fun v a k wr => DRel w hb_ (blkOf pb) b n1 [rowA 3 1 (.slice (some ⟨g9, 0, none⟩) n1 c9) n1 (ints zs), BRow (.slice pb b.length cb) b] v a k wr) (fun _ _ k _ => ((n1 : Int) + 1 - intOf k).toNat)
          case atStart => exact ⟨0, 0, [], [], by omega, rfl, rfl, by omega, (by intro h; omega), rfl, by simp, ⟨rfl, fun i hi => absurd hi (by simp)⟩, hH10⟩
          case round =>
            clear hH10
            obtain ⟨i, at_, ps, cells, hi, rfl, rfl, hat, hend, hpl, hpf, hPV, hH⟩ := hrel
            by_cases gi : (i : Int) < n1
            · obtain ⟨Fz, hFz⟩ := hH.drop.drop.head
              have hcz := hFz.1.cellAt i (by omega)
              have hzi : (ints zs)[i]? = some (.int .i64 (zs.getD i 0)) := by
                have hil : i < zs.length := by omega
                rw [ints, List.getElem?_map, List.getElem?_eq_getElem hil, List.getD_eq_getElem?_getD, List.getElem?_eq_getElem hil]; rfl
              rw [hzi] at hcz
              have hzb := hcb' _ (getD_mem zs 0 i (by omega))
              have hzl : i = cs.length → zs.getD i 0 = (b.length : Int) := fun h => by rw [h]; exact HLAST.out
              have HZL := Lib.hid hzl
              have HEND := Lib.hid hend
              clear hFz hzi hzl hend
              generalize zs.getD i 0 = z at *
              obtain ⟨m, hm⟩ : ∃ m : Nat, m = (max 0 (min z ((b.length : Int) - at_))).toNat := ⟨_, rfl⟩
              have hm1 : (m : Int) = max 0 (min z ((b.length : Int) - at_)) := by omega
              have hm2 : (at_ : Int) + m ≤ b.length := by omega
              have HMM := Lib.hid hm1
              clear hm hm1
              go_upto_region 26 with fail
              rw [← HMM.out]
              have hm0 : (0 : Int) ≤ m := by omega
              obtain ⟨s0, hs0, sz0, sz1, sz2⟩ := info_parts slInfo'
              have LDD : Locs (rowA 27 1 u14 i cells :: hOf hb_ (b.take at_) :: [rowA 3 1 (.slice (some ⟨g9, 0, none⟩) n1 c9) n1 (ints zs), BRow (.slice pb b.length cb) b]) := .cons (rowA_loc _ _ _ _ _) (.cons (hOf_loc _ _) LQ)
              rcases hbform with rfl | ⟨gb, rfl⟩
              · have HMZ := Lib.hid (show m = 0 ∧ cb - at_ = 0 by have := hnilb rfl; omega)
                clear hnilb
                have hxl : ((b.drop at_).take m).length = m := by rw [List.length_take, List.length_drop]; omega
                have hPV2 : PV (blkOf (none)) b (ps ++ [(b.drop at_).take m]) (cells ++ [.slice none m (cb - at_)]) := by
                  have := hPV.snoc ((b.drop at_).take m) none (cb - at_) (by rw [hxl]; exact (fun h => absurd h (by have := HMZ.out; omega))) (by rw [hxl]; exact (fun _ => HMZ.out)) (by rw [hxl]; exact (by have := HMZ.out; omega)) (by have := hcapb.2; omega)
                  rwa [hxl] at this
                have hcap := hcapb
                have hH2 := hH.ext LDD (ext_alloc wr (.cells #[.slice none m (cb - at_)] 27))
                have hnews := news_new wr [.slice none m (cb - at_)] 27
                obtain ⟨Fp, hFp⟩ := hH2.head
                have hown := hFp.1
                have hib : (i : Int) ≤ 41 := by omega
                go_upto_region 27 with (at_builtin; refine wpList_append_new rfl _ _ 41 rfl 27 s0 (.slice none 0 0) 1 24 Try.underlying41 hs0 sz0 sz1 sz2 rfl (by decide) _ _ _ rfl hown _ 1 1 [.slice none m (cb - at_)] rfl rfl (fun h => by cases h) hnews (by intro u hu; simp at hu; subst hu; rfl) (by unfold maxLen; omega) (by omega) ?_)
                intro v3 w3 hown3 hg3 hf3
                have hH3 : Has w w3 (rowA 27 1 v3 (i + 1) (cells ++ [.slice none m (cb - at_)]) :: hOf hb_ (b.take at_) :: [rowA 3 1 (.slice (some ⟨g9, 0, none⟩) n1 c9) n1 (ints zs), BRow _ b]) := hH2.next (.cons (hOf_loc _ _) LQ) fun F hF => by
                  obtain ⟨_, rfl⟩ := hF
                  exact Next.mk ⟨hown3, rfl⟩ (grownBy.tch hg3) hf3.1
                clear hH2 hnews hFp hown hown3 hg3 hf3 hH hPV hcz
                go_wp2_with fail
                have hH4 := (hH3.add (.cons (rowA_loc _ _ _ _ _) (.cons (hOf_loc _ _) LQ)) (ext_alloc w3 (.cells #[.slice none m (cb - at_)] 27)) (p := blkA w3.heap.size 27 #[.slice none m (cb - at_)]) (F := fun k => k = w3.heap.size) ⟨Blk.new _ _ _, rfl⟩ (fun k hk => by omega)).third
                clear hH3
                generalize World.alloc w3 _ = w4 at *
                generalize w3.heap.size = gl at *
                have hbr := hH4.drop.drop.drop.drop
                refine (hH4.actS (R := fun e => e = .returned (.tuple #[])) (p' := hOf hb_ (b.take (at_ + m))) (.cons (blkA_loc _ _ _) (.cons (rowA_loc _ _ _ _ _) LQ)) fun F hF hlo hS => ?_).mono ?_
                · obtain ⟨G1, hG1, hd1, G2, hG2, hd2, G3, hG3, hd3, G4, hG4, hd4, -⟩ := hS
                  have e1 := hG1.2
                  have e4 := hG4.2
                  have hG1b := hG1.1
                  rw [← hxl] at hG1b
                  have hadd := hOf_add (x := (b.drop at_).take m) hF _ 1 (PartsAt.oneG hG1b (fun h => (hd1 _ (by rw [e1])).2 h) (fun j hj => absurd hj (by rw [byI_length, hxl]; have := HMZ.out; omega)) (by
                    intro a ha hFa
                    refine (hd4 a.block ?_).2 (Or.inl (Or.inl (Or.inl hFa)))
                    rw [e4]
                    exact (by cases ha)) (by rw [hxl]; exact (fun _ => HMZ.out)) (by rw [hxl]; exact (by have := HMZ.out; omega)) (by have := hcapb.2; omega)) (by rw [hxl]; omega)
                  rw [take_cut] at hadd
                  exact hadd
                rintro e w7 ⟨rfl, hH5⟩
                have hH6 := hH5.swap.drop.swap
                clear hH4 hH5 hbr
                have hend' : i + 1 = n1 → at_ + m = b.length := fun h => by
                  have h1 := HZL.out (by have := HN1.out; omega)
                  have h2 := HMM.out
                  omega
                have hfl' : (ps ++ [(b.drop at_).take m]).flatten = b.take (at_ + m) := by rw [List.flatten_append, hpf, ← take_cut]; simp
                have HE := Lib.hid hend'
                have HFL := Lib.hid hfl'
                have HPL := Lib.hid hpl
                clear hend' hfl' hpl hpf
                go_wp2_with fail
                exact ⟨⟨i + 1, at_ + m, ps ++ [(b.drop at_).take m], _, by omega, by go_num, by go_num, by omega, HE.out, by rw [List.length_append, HPL.out]; rfl, HFL.out, hPV2, hH6⟩, by simp only [intOf]; omega⟩
              · rcases (show (at_ : Int) < cb ∨ cb = at_ by omega) with hlt | heq
                · have hxl : ((b.drop at_).take m).length = m := by rw [List.length_take, List.length_drop]; omega
                  have hPV2 : PV (blkOf ((some ⟨gb, 0, none⟩))) b (ps ++ [(b.drop at_).take m]) (cells ++ [.slice (some ⟨gb, at_, none⟩) m (cb - at_)]) := by
                    have := hPV.snoc ((b.drop at_).take m) (some ⟨gb, at_, none⟩) (cb - at_) (by rw [hxl]; exact (fun _ => ⟨at_, rfl, by omega, rfl⟩)) (by rw [hxl]; exact (fun h => by cases h)) (by rw [hxl]; exact (by omega)) (by omega)
                    rwa [hxl] at this
                  have hcap := hcapb
                  have hH2 := hH.ext LDD (ext_alloc wr (.cells #[.slice (some ⟨gb, at_, none⟩) m (cb - at_)] 27))
                  have hnews := news_new wr [.slice (some ⟨gb, at_, none⟩) m (cb - at_)] 27
                  obtain ⟨Fp, hFp⟩ := hH2.head
                  have hown := hFp.1
                  have hib : (i : Int) ≤ 41 := by omega
                  go_upto_region 27 with (at_builtin; refine wpList_append_new rfl _ _ 41 rfl 27 s0 (.slice none 0 0) 1 24 Try.underlying41 hs0 sz0 sz1 sz2 rfl (by decide) _ _ _ rfl hown _ 1 1 [.slice (some ⟨gb, at_, none⟩) m (cb - at_)] rfl rfl (fun h => by cases h) hnews (by intro u hu; simp at hu; subst hu; rfl) (by unfold maxLen; omega) (by omega) ?_)
                  intro v3 w3 hown3 hg3 hf3
                  have hH3 : Has w w3 (rowA 27 1 v3 (i + 1) (cells ++ [.slice (some ⟨gb, at_, none⟩) m (cb - at_)]) :: hOf hb_ (b.take at_) :: [rowA 3 1 (.slice (some ⟨g9, 0, none⟩) n1 c9) n1 (ints zs), BRow _ b]) := hH2.next (.cons (hOf_loc _ _) LQ) fun F hF => by
                    obtain ⟨_, rfl⟩ := hF
                    exact Next.mk ⟨hown3, rfl⟩ (grownBy.tch hg3) hf3.1
                  clear hH2 hnews hFp hown hown3 hg3 hf3 hH hPV hcz
                  go_wp2_with fail
                  have hH4 := (hH3.add (.cons (rowA_loc _ _ _ _ _) (.cons (hOf_loc _ _) LQ)) (ext_alloc w3 (.cells #[.slice (some ⟨gb, at_, none⟩) m (cb - at_)] 27)) (p := blkA w3.heap.size 27 #[.slice (some ⟨gb, at_, none⟩) m (cb - at_)]) (F := fun k => k = w3.heap.size) ⟨Blk.new _ _ _, rfl⟩ (fun k hk => by omega)).third
                  clear hH3
                  generalize World.alloc w3 _ = w4 at *
                  generalize w3.heap.size = gl at *
                  have hbr := hH4.drop.drop.drop.drop
                  refine (hH4.actS (R := fun e => e = .returned (.tuple #[])) (p' := hOf hb_ (b.take (at_ + m))) (.cons (blkA_loc _ _ _) (.cons (rowA_loc _ _ _ _ _) LQ)) fun F hF hlo hS => ?_).mono ?_
                  · obtain ⟨G1, hG1, hd1, G2, hG2, hd2, G3, hG3, hd3, G4, hG4, hd4, -⟩ := hS
                    have e1 := hG1.2
                    have e4 := hG4.2
                    have hG1b := hG1.1
                    rw [← hxl] at hG1b
                    have hadd := hOf_add (x := (b.drop at_).take m) hF _ 1 (PartsAt.oneG hG1b (fun h => (hd1 _ (by rw [e1])).2 h) (part_nums hbr (by omega)) (by
                      intro a ha hFa
                      refine (hd4 a.block ?_).2 (Or.inl (Or.inl (Or.inl hFa)))
                      rw [e4]
                      exact (by injection ha with ha; subst ha; rfl)) (by rw [hxl]; exact (fun h => by cases h)) (by rw [hxl]; exact (by omega)) (by omega)) (by rw [hxl]; omega)
                    rw [take_cut] at hadd
                    exact hadd
                  rintro e w7 ⟨rfl, hH5⟩
                  have hH6 := hH5.swap.drop.swap
                  clear hH4 hH5 hbr
                  have hend' : i + 1 = n1 → at_ + m = b.length := fun h => by
                    have h1 := HZL.out (by have := HN1.out; omega)
                    have h2 := HMM.out
                    omega
                  have hfl' : (ps ++ [(b.drop at_).take m]).flatten = b.take (at_ + m) := by rw [List.flatten_append, hpf, ← take_cut]; simp
                  have HE := Lib.hid hend'
                  have HFL := Lib.hid hfl'
                  have HPL := Lib.hid hpl
                  clear hend' hfl' hpl hpf
                  go_wp2_with fail
                  exact ⟨⟨i + 1, at_ + m, ps ++ [(b.drop at_).take m], _, by omega, by go_num, by go_num, by omega, HE.out, by rw [List.length_append, HPL.out]; rfl, HFL.out, hPV2, hH6⟩, by simp only [intOf]; omega⟩
                · have HMZ := Lib.hid (show m = 0 by omega)
                  have hif : ∀ (A B : Option Addr), (if cb = at_ then A else B) = A := fun A B => if_pos heq
                  clear heq
                  have hxl : ((b.drop at_).take m).length = m := by rw [List.length_take, List.length_drop]; omega
                  have hPV2 : PV (blkOf ((some ⟨gb, 0, none⟩))) b (ps ++ [(b.drop at_).take m]) (cells ++ [.slice (some ⟨gb, 0, none⟩) m (cb - at_)]) := by
                    have := hPV.snoc ((b.drop at_).take m) (some ⟨gb, 0, none⟩) (cb - at_) (by rw [hxl]; exact (fun h => absurd h (by have := HMZ.out; omega))) (by rw [hxl]; exact (fun h => by cases h)) (by rw [hxl]; exact (by have := HMZ.out; omega)) (by have := hcapb.2; omega)
                    rwa [hxl] at this
                  have hcap := hcapb
                  have hH2 := hH.ext LDD (ext_alloc wr (.cells #[.slice (some ⟨gb, 0, none⟩) m (cb - at_)] 27))
                  have hnews := news_new wr [.slice (some ⟨gb, 0, none⟩) m (cb - at_)] 27
                  obtain ⟨Fp, hFp⟩ := hH2.head
                  have hown := hFp.1
                  have hib : (i : Int) ≤ 41 := by omega
                  go_upto_region 27 with (at_builtin; refine wpList_append_new rfl _ _ 41 rfl 27 s0 (.slice none 0 0) 1 24 Try.underlying41 hs0 sz0 sz1 sz2 rfl (by decide) _ _ _ rfl hown _ 1 1 [.slice (some ⟨gb, 0, none⟩) m (cb - at_)] rfl rfl (fun h => by cases h) hnews (by intro u hu; simp at hu; subst hu; rfl) (by unfold maxLen; omega) (by omega) ?_)
                  intro v3 w3 hown3 hg3 hf3
                  have hH3 : Has w w3 (rowA 27 1 v3 (i + 1) (cells ++ [.slice (some ⟨gb, 0, none⟩) m (cb - at_)]) :: hOf hb_ (b.take at_) :: [rowA 3 1 (.slice (some ⟨g9, 0, none⟩) n1 c9) n1 (ints zs), BRow _ b]) := hH2.next (.cons (hOf_loc _ _) LQ) fun F hF => by
                    obtain ⟨_, rfl⟩ := hF
                    exact Next.mk ⟨hown3, rfl⟩ (grownBy.tch hg3) hf3.1
                  clear hH2 hnews hFp hown hown3 hg3 hf3 hH hPV hcz
                  go_wp2_with fail
                  have hH4 := (hH3.add (.cons (rowA_loc _ _ _ _ _) (.cons (hOf_loc _ _) LQ)) (ext_alloc w3 (.cells #[.slice (some ⟨gb, 0, none⟩) m (cb - at_)] 27)) (p := blkA w3.heap.size 27 #[.slice (some ⟨gb, 0, none⟩) m (cb - at_)]) (F := fun k => k = w3.heap.size) ⟨Blk.new _ _ _, rfl⟩ (fun k hk => by omega)).third
                  clear hH3
                  generalize World.alloc w3 _ = w4 at *
                  generalize w3.heap.size = gl at *
                  have hbr := hH4.drop.drop.drop.drop
                  refine (hH4.actS (R := fun e => e = .returned (.tuple #[])) (p' := hOf hb_ (b.take (at_ + m))) (.cons (blkA_loc _ _ _) (.cons (rowA_loc _ _ _ _ _) LQ)) fun F hF hlo hS => ?_).mono ?_
                  · obtain ⟨G1, hG1, hd1, G2, hG2, hd2, G3, hG3, hd3, G4, hG4, hd4, -⟩ := hS
                    have e1 := hG1.2
                    have e4 := hG4.2
                    have hG1b := hG1.1
                    rw [← hxl] at hG1b
                    have hadd := hOf_add (x := (b.drop at_).take m) hF _ 1 (PartsAt.oneG hG1b (fun h => (hd1 _ (by rw [e1])).2 h) (fun j hj => absurd hj (by rw [byI_length, hxl]; have := HMZ.out; omega)) (by
                      intro a ha hFa
                      refine (hd4 a.block ?_).2 (Or.inl (Or.inl (Or.inl hFa)))
                      rw [e4]
                      exact (by injection ha with ha; subst ha; rfl)) (by rw [hxl]; exact (fun h => by cases h)) (by rw [hxl]; exact (by have := HMZ.out; omega)) (by have := hcapb.2; omega)) (by rw [hxl]; omega)
                    rw [take_cut] at hadd
                    exact hadd
                  rintro e w7 ⟨rfl, hH5⟩
                  have hH6 := hH5.swap.drop.swap
                  clear hH4 hH5 hbr
                  have hend' : i + 1 = n1 → at_ + m = b.length := fun h => by
                    have h1 := HZL.out (by have := HN1.out; omega)
                    have h2 := HMM.out
                    omega
                  have hfl' : (ps ++ [(b.drop at_).take m]).flatten = b.take (at_ + m) := by rw [List.flatten_append, hpf, ← take_cut]; simp
                  have HE := Lib.hid hend'
                  have HFL := Lib.hid hfl'
                  have HPL := Lib.hid hpl
                  clear hend' hfl' hpl hpf
                  go_wp2_with fail
                  exact ⟨⟨i + 1, at_ + m, ps ++ [(b.drop at_).take m], _, by omega, by go_num, by go_num, by omega, HE.out, by rw [List.length_append, HPL.out]; rfl, HFL.out, hPV2, hH6⟩, by simp only [intOf]; omega⟩
            · have hi' : i = n1 := by omega
              subst hi'
              have hatb := hend rfl
              subst hatb
              rw [List.take_length] at hH hpf
              obtain ⟨pp, cp, rfl⟩ : ∃ p c, u14 = .slice p i c := by
                obtain ⟨F, hF⟩ := hH.head
                exact ownsRow_slice hF.1
              have LR : Locs (rowA 27 1 (.slice pp i cp) i cells :: hOf hb_ b :: [rowA 3 1 (.slice (some ⟨g9, 0, none⟩) i c9) i (ints zs), BRow (.slice pb b.length cb) b]) := .cons (rowA_loc _ _ _ _ _) (.cons (hOf_loc _ _) LQ)
              have hrow := fun {X : World} (h : Has w X (rowA 27 1 (.slice pp i cp) i cells :: hOf hb_ b :: [rowA 3 1 (.slice (some ⟨g9, 0, none⟩) i c9) i (ints zs), BRow (.slice pb b.length cb) b])) => h.drop.drop.drop.head.choose_spec.1
              have hb63 : b.length ≤ 70368744177664 := by omega
              have hSm := fun {X : World} (h : Has w X (rowA 27 1 (.slice pp i cp) i cells :: hOf hb_ b :: [rowA 3 1 (.slice (some ⟨g9, 0, none⟩) i c9) i (ints zs), BRow (.slice pb b.length cb) b])) => hOf_sum h.drop.head.choose_spec
              have hOo := fun {X : World} (h : Has w X (rowA 27 1 (.slice pp i cp) i cells :: hOf hb_ b :: [rowA 3 1 (.slice (some ⟨g9, 0, none⟩) i c9) i (ints zs), BRow (.slice pb b.length cb) b])) => of_one (t := 27) (NumsAt.row (hrow h)) hnilb hcapb.1 hcapb.2 hb63
              have hCo := fun {X : World} (h : Has w X (rowA 27 1 (.slice pp i cp) i cells :: hOf hb_ b :: [rowA 3 1 (.slice (some ⟨g9, 0, none⟩) i c9) i (ints zs), BRow (.slice pb b.length cb) b])) => crc_one (t := 27) (NumsAt.row (hrow h)) hnilb hcapb.1 hcapb.2
              have hPi : ∀ {X : World} (h : Has w X (rowA 27 1 (.slice pp i cp) i cells :: hOf hb_ b :: [rowA 3 1 (.slice (some ⟨g9, 0, none⟩) i c9) i (ints zs), BRow (.slice pb b.length cb) b])), PartsIn X pp ps := fun {X} h => hPV.in_ h.head.choose_spec.1 hpl (by
                intro o m hm0 hm
                rcases hbform with hpb | ⟨gb, hpb⟩
                · have := (hnilb hpb).1; omega
                · rw [hpb]
                  show NumsAt .u8 X (some ⟨gb, o, none⟩) _
                  exact part_nums (gb := gb) (cb := cb) (by have h3 := h.drop.drop.drop; rw [hpb] at h3; exact h3) hm)
              have hCp := fun {X : World} (h : Has w X (rowA 27 1 (.slice pp i cp) i cells :: hOf hb_ b :: [rowA 3 1 (.slice (some ⟨g9, 0, none⟩) i c9) i (ints zs), BRow (.slice pb b.length cb) b])) => crc_any X pp cp ps (hPi h) (by unfold maxLen; omega)
              rw [hpl, hpf] at hCp
              have hLk := fun {X : World} (h : Has w X (rowA 27 1 (.slice pp i cp) i cells :: hOf hb_ b :: [rowA 3 1 (.slice (some ⟨g9, 0, none⟩) i c9) i (ints zs), BRow (.slice pb b.length cb) b])) => link_any X (zb 32) b rfl pb cb (NumsAt.row (hrow h)) hnilb hcapb.1 hcapb.2 hb63
              have hsl := sha_len b
              have hsl2 := sha_len (zb 32 ++ b)
              have hCh := fun {X : World} (h : Has w X (rowA 27 1 (.slice pp i cp) i cells :: hOf hb_ b :: [rowA 3 1 (.slice (some ⟨g9, 0, none⟩) i c9) i (ints zs), BRow (.slice pb b.length cb) b])) => chain_one (t := 27) (NumsAt.row (hrow h)) hnilb hcapb.1 hcapb.2 hb63
              generalize sha b = sb at *
              generalize sha (zb 32 ++ b) = sk at *
              generalize wv (crc b) = ycrc at *
              go_wp2_with fail
              refine (hSm hH).mono ?_
              rintro e w10 ⟨rfl, hE10⟩
              have hH10 := hH.ext LR hE10
              clear hH hE10
              go_wp2_with fail
              refine (hOo hH10).mono ?_
              rintro e w11 ⟨rfl, hE11⟩
              have hH11 := hH10.ext LR hE11
              clear hH10 hE11
              have hcm := eq_sum w11 sb sb hsl hsl
              rw [decide_eq_true rfl] at hcm
              go_wp2_with fail
              clear hcm
              refine (hCp hH11).mono ?_
              rintro e w12 ⟨rfl, rfl⟩
              go_wp2_with fail
              refine (hCo hH11).mono ?_
              rintro e w13 ⟨rfl, hw13⟩
              have hE13 : Ext w12 w13 := by rw [hw13]; exact ext_alloc _ _
              have hH13 := hH11.ext LR hE13
              clear hw13 hH11
              go_wp2_with fail
              refine (hLk hH13).mono ?_
              rintro e w14 ⟨rfl, hE14⟩
              have hH14 := hH13.ext LR hE14
              clear hE14 hH13
              go_wp2_with fail
              refine (hCh hH14).mono ?_
              rintro e w15 ⟨gc, cc, rfl, hrg, hE15⟩
              have hH15 := hH14.ext LR hE15
              clear hE15 hH14
              have hcm := eq_sum w15 sk sk hsl2 hsl2
              rw [decide_eq_true rfl] at hcm
              go_wp2_with (refine wpList_load_mid_w (by first | rfl | go_simp) _ _ rfl gc 0 rfl (u8s sk) _ hrg Try.underlying29 rfl (smSize' hsl2) ?_)
              clear hcm
              refine (read_any w15 pb cb b (NumsAt.row (hrow hH15)) hnilb hb63).mono ?_
              rintro e w16 hR
              obtain ⟨r, rfl, hH16'⟩ := hH15.reader LR hR
              have hH16 : Has w w16 [rA r ⟨b, 0, 0⟩] := hH16'.swap.drop.swap.drop.swap.drop.swap.drop
              clear hH15 hH16' hR hrg hrow hSm hOo hCo hPi hCp hLk hCh
              go_wp2_with fail
              go_loopw [141] (fun k wr => E1Rel w r b ns k wr) (fun k _ => ((ns.length : Int) + 1 - intOf k).toNat)
              case atStart => exact ⟨0, by omega, rfl, hH16⟩
              case round =>
                clear hH16
                obtain ⟨i, hi, rfl, hH⟩ := hrel
                by_cases gi : (i : Int) < ns.length
                · obtain ⟨a, rfl, hcell⟩ := hN.get hH.base i (by omega)
                  have hnb := hb _ (getD_mem ns 0 i (by omega))
                  have hgd : ns[i]'(by omega) = ns.getD i 0 := by rw [List.getD_eq_getElem?_getD, List.getElem?_eq_getElem (by omega)]; rfl
                  have hsn := outN_snoc ns i (by omega)
                  have hdr := outN_at ns (outT ts) i (by omega)
                  rw [hgd] at hsn hdr
                  rw [HD0.out, HBD.out] at hdr
                  have hzn : zigN (ns.getD i 0) < 18446744073709551616 := by unfold zigN; split <;> omega
                  have hnr := num_read hzn (by omega : zigN (ns.getD i 0) ≤ 18446744073709551615) hdr
                  have hzz := zag_zig (ns.getD i 0) hnb.1 hnb.2
                  have hR := fun {X : World} {F : Nat → Prop} (h : rA r ⟨b, (outN (ns.take i)).length, 0⟩ X F) => rint_any h
                  rw [hnr] at hR
                  simp only [hzz] at hR
                  have hlen : (outN (ns.take (i + 1))).length = (outN (ns.take i)).length + (numB (zigN (ns.getD i 0))).length := by rw [hsn, List.length_append]
                  have HL := Lib.hid hlen
                  clear hsn hdr hnr hzz hlen hgd hzn
                  generalize ns.getD i 0 = n at *
                  go_wp2_with fail
                  refine (hH.act .nil fun F h => hR h).mono ?_
                  rintro e w17 ⟨rfl, hH17⟩
                  rw [← HL.out] at hH17
                  clear hH hR hcell
                  go_wp2_with fail
                  exact ⟨⟨i + 1, by omega, by go_num, hH17⟩, by simp [intOf]; omega⟩
                · have hi' : i = ns.length := by omega
                  subst hi'
                  rw [List.take_length] at hH
                  rw [HD0.out] at hH
                  go_wp2_with fail
                  go_loopw [152] (fun k wr => E2Rel w r b d ts k wr) (fun k _ => ((ts.length : Int) + 1 - intOf k).toNat)
                  case atStart => exact ⟨0, by omega, rfl, by simpa [outT] using hH⟩
                  case round =>
                    clear hH
                    obtain ⟨i, hi, rfl, hH⟩ := hrel
                    by_cases gi : (i : Int) < ts.length
                    · obtain ⟨bb, o, hpe, hbh, hc0⟩ := hT i (by omega)
                      subst hpe
                      have hc := (hH.base.cell bb (o + i) hbh).trans hc0
                      have hsn := outT_snoc ts i (by omega)
                      have hdr := outT_at ns ts i (by omega)
                      rw [HD0.out, HBD.out] at hdr
                      have hx200 := hsm _ (List.getElem_mem (show i < ts.length by omega))
                      have hle : d.length + (outT (ts.take i)).length ≤ b.length := by
                        have h1 : b = d ++ outT ts := HBD.out.symm
                        have h2 : outT ts = outT (ts.take i) ++ outT (ts.drop i) := by
                          conv => lhs; rw [← List.take_append_drop i ts]
                          unfold outT; rw [List.flatMap_append]
                        rw [h1, h2]; simp
                      have htr := text_read hdr hle (by omega)
                      have hR := fun {X : World} {F : Nat → Prop} (h : rA r ⟨b, d.length + (outT (ts.take i)).length, 0⟩ X F) => rtext_any h
                      rw [htr] at hR
                      have hlen : d.length + (outT (ts.take (i + 1))).length = d.length + (outT (ts.take i)).length + (numB (ts[i]'(by omega)).length ++ ts[i]'(by omega)).length := by rw [hsn, List.length_append]; omega
                      have HL := Lib.hid hlen
                      clear hsn hdr htr hlen hc0 hle
                      generalize ts[i]'(by omega) = t at *
                      go_wp2_with fail
                      refine (hH.act .nil fun F h => hR h).mono ?_
                      rintro e w17 ⟨rfl, hH17⟩
                      rw [← HL.out] at hH17
                      clear hH hR hc
                      go_wp2_with fail
                      exact ⟨⟨i + 1, by omega, by go_num, hH17⟩, by simp [intOf]; omega⟩
                    · have hi' : i = ts.length := by omega
                      subst hi'
                      rw [List.take_length] at hH
                      have hbe : d.length + (outT ts).length = b.length := by rw [← HBD.out, List.length_append]
                      rw [hbe] at hH
                      have hend : (⟨b, b.length, 0⟩ : Rd).end_ = 0 := by unfold Rd.end_; simp
                      have hEn := fun {X : World} {F : Nat → Prop} (h : rA r ⟨b, b.length, 0⟩ X F) => rend_any h
                      rw [hend] at hEn
                      clear hend hbe
                      go_wp2_with fail
                      refine (hH.keeps (.cons (rA_loc _ _) .nil) fun F h => hEn h).mono ?_
                      rintro e w18 ⟨rfl, hH18, -⟩
                      go_wp2_with fail
                      go_ret
                      exact ⟨rfl, hH18.base⟩
end Go.Proofs.Ytcnbnhncncgkaaa
