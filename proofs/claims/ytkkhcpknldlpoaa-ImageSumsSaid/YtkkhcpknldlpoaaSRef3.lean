/- The document's SHA-256. -/
import Derived.Test.YtkkhcpknldlpoaaSRef1
import Derived.Test.YtkkhcpknldlpoaaConv
namespace Go.Proofs.Ytkkhcpknldlpoaa
set_option maxRecDepth 4000
set_option linter.unusedVariables false
set_option linter.unusedSimpArgs false
open Go Go.RowKit
def O1Rel (w : World) (l : List UInt8) (s : Value) (wr : World) : Prop := ∃ k : Nat, k ≤ zeros l.length ∧ s = .string (strOf (l ++ 0x80 :: List.replicate k 0)) ∧ wr = w
def O2Rel (w : World) (N : Nat) (n t k : Value) (wr : World) : Prop := ∃ i : Nat, i ≤ 8 ∧ k = .int .i64 i ∧ n = .int .u64 ((N / 256 ^ i : Nat) : Int) ∧ t = .string (strOf (tailR N i)) ∧ Ext w wr
abbrev HK (gh gk gr : Nat) (h : List W32) (kA : Array Value) : List Asr := [WdA 103 gh h, blkA gk 103 kA, BdA 65 gr (zb 32)]
theorem HK_locs (gh gk gr : Nat) (h : List W32) (kA : Array Value) : Locs (HK gh gk gr h kA) := .cons (WdA_loc _ _ _) (.cons (blkA_loc _ _ _) (.cons (BdA_loc _ _ _) .nil))
abbrev URow (v : Value) (l : List W32) : Asr := rowA 103 1 v l.length (u32s l)
theorem URow_loc (v : Value) (l : List W32) : Loc (URow v l) := rowA_loc _ _ _ _ _
theorem u32Info' : (Try.prog.info? 103).map (fun i => (i.zero, i.size, i.bytes)) = some (some (.int .u32 0), 1, 4) := by kernel_rfl
theorem URow.grow1 {w W W' : World} {v v' : Value} {l : List W32} {b : W32} {ps : List Asr} (h : Has w W (URow v l :: ps)) (hl : Locs ps) (hown : W'.ownsRow 0 103 1 v' (l.length + 1) (u32s l ++ [.int .u32 (wv b)])) (hg : W.grownBy W' v.ownBlock) (hf : Fresh W v v') : Has w W' (URow v' (l ++ [b]) :: ps) := by
  refine h.next hl fun F hF => ?_
  obtain ⟨_, rfl⟩ := hF
  refine Next.mk ⟨?_, rfl⟩ (grownBy.tch hg) hf.1
  rw [List.length_append]
  simpa [u32s] using hown
theorem URow.nil (W : World) : URow (.slice none 0 0) [] W (fun k => (Value.slice none 0 0).ownBlock = some k) := ⟨World.ownsRow_nil _ _ _ _, rfl⟩
def hor (f : Nat → Nat) : Nat → Nat
  | 0 => 0
  | j + 1 => hor f j * 256 + f j
theorem hor_lt (f : Nat → Nat) (hf : ∀ j, f j < 256) : ∀ j, hor f j < 256 ^ j := by
  intro j
  induction j with
  | zero => exact Nat.one_pos
  | succ j ih => have := hf j; rw [hor, Nat.pow_succ]; omega
theorem hor_four (l : List UInt8) (i : Nat) : ((hor (fun j => (l.getD (4 * i + j) 0).toNat) 4 : Nat) : Int) = wv (fourB (l.getD (4 * i) 0) (l.getD (4 * i + 1) 0) (l.getD (4 * i + 2) 0) (l.getD (4 * i + 3) 0)) := by
  rw [← four_sum]
  simp [hor]
def OLoop (w : World) (gh gk gr : Nat) (s0 : St) (P : List UInt8) (kA : Array Value) (NB : Nat) (at_ : Value) (wr : World) : Prop := ∃ nb : Nat, nb ≤ NB ∧ at_ = .int .i64 ((64 * nb : Nat) : Int) ∧ Has w wr (HK gh gk gr (blocks s0 P nb).list kA)
def W1Rel (w : World) (B : List UInt8) (qs : List Asr) (v k : Value) (wr : World) : Prop := ∃ i : Nat, i ≤ 16 ∧ k = .int .i64 i ∧ Has w wr (URow v ((words B).take i) :: qs)
def W0Rel (w : World) (f : Nat → Nat) (x k : Value) (wr : World) : Prop := ∃ j : Nat, j ≤ 4 ∧ k = .int .i64 j ∧ x = .int .u32 (hor f j) ∧ wr = w
theorem URow.form {w W : World} {v : Value} {l : List W32} {ps : List Asr} (h : Has w W (URow v l :: ps)) (hl : 0 < l.length) : ∃ g c, v = .slice (some ⟨g, 0, none⟩) l.length c := by
  obtain ⟨F, hF⟩ := h.head
  rcases hF.1.2 with ⟨hv, h0⟩ | ⟨g, cap, cur, hv, _⟩
  · omega
  · exact ⟨g, cap, hv⟩
theorem URow.cell {w W : World} {g c n : Nat} {l : List W32} {ps : List Asr} (h : Has w W (rowA 103 1 (.slice (some ⟨g, 0, none⟩) n c) n (u32s l) :: ps)) (i : Nat) (hi : i < n) : W.cell? ⟨g, i, none⟩ = some (.int .u32 (wv (l.getD i 0))) := by
  obtain ⟨F, hF⟩ := h.head
  have h1 := hF.1.1
  rw [u32s_length, Nat.mul_one] at h1
  rw [hF.1.cellAt i (by omega), u32s_get l i (by omega)]
def G1Rel (w : World) (B : List UInt8) (qs : List Asr) (v k : Value) (wr : World) : Prop := ∃ i : Nat, i ≤ 48 ∧ k = .int .i64 (16 + i : Nat) ∧ Has w wr (URow v (wGrow i (words B)) :: qs)
theorem WdA_news {W X : World} {F : Nat → Prop} {t gh : Nat} {l : List W32} (h : WdA t gh l W F) (hE : Ext W X) : ∀ a, some (⟨gh, 0, none⟩ : Addr) = some a → ∀ j u, (u32s l)[j]? = some u → X.cell? (a.add j) = some u := by
  intro a ha j u hj
  injection ha with ha
  subst ha
  rw [Go.WideShapes.add_plain, Nat.zero_add, hE.cell gh j h.1.lt, h.1.cell j, List.getElem?_toArray]
  exact hj
theorem u32s_oneEach (l : List W32) : ∀ u ∈ u32s l, u.oneCell' = true := by
  intro u hu; simp only [u32s, List.mem_map] at hu; obtain ⟨b, _, rfl⟩ := hu; rfl
def S2Rel (w : World) (gh : Nat) (st v : St) (p : Asr) (qs : List Asr) (k : Value) (wr : World) : Prop := ∃ i : Nat, i ≤ 8 ∧ k = .int .i64 i ∧ Has w wr (WdA 103 gh (sumsTo st v i) :: p :: qs)
def setD (l : List UInt8) (i : Nat) (y : W32) : Nat → List UInt8
  | 0 => l
  | m + 1 => (setD l i y m).set (4 * i + (3 - m)) (byteOf y (3 - m))
theorem setD_len (l : List UInt8) (i : Nat) (y : W32) (m : Nat) : (setD l i y m).length = l.length := by
  induction m with
  | zero => rfl
  | succ m ih => rw [setD, List.length_set, ih]
theorem setD_4 (s : St) (i : Nat) (h : i < 8) : setD (bytesTo s i) i (s.list.getD i 0) 4 = bytesTo s (i + 1) := by
  rcases cases8 h with rfl | rfl | rfl | rfl | rfl | rfl | rfl | rfl <;> rfl
theorem byteK (y : W32) (m : Nat) (h : m < 4) : ((y.toNat / 256 ^ m : Nat) : Int) % (256 : Int) = ((byteOf y (3 - m)).toNat : Int) := by
  have h0 := byte0 y
  have h1 := byte8 y
  have h2 := byte16 y
  have h3 := byte24 y
  unfold wv at h0 h1 h2 h3
  rcases (show m = 0 ∨ m = 1 ∨ m = 2 ∨ m = 3 by omega) with rfl | rfl | rfl | rfl
  · rw [← h0]; simp
  · rw [← h1]; simp
  · rw [← h2]; simp
  · rw [← h3]; simp
theorem aInfo : (Try.prog.info? 65).map (·.size) = some 32 := by kernel_rfl
theorem aSize {l : List UInt8} (h : l.length = 32) : (Try.prog.info? 65).map (·.size) = some (u8s l).toArray.size := by
  rw [aInfo]; simp [u8s, h]
def T1Rel (w : World) (g : Nat) (st : St) (qs : List Asr) (k : Value) (wr : World) : Prop := ∃ i : Nat, i ≤ 8 ∧ k = .int .i64 i ∧ Has w wr (BdA 65 g (bytesTo st i) :: qs)
def T2Rel (w : World) (g : Nat) (l : List UInt8) (i : Nat) (y : W32) (qs : List Asr) (x k : Value) (wr : World) : Prop := ∃ m : Nat, m ≤ 4 ∧ k = .int .i64 ((3 : Int) - m) ∧ x = .int .u32 ((y.toNat / 256 ^ m : Nat) : Int) ∧ Has w wr (BdA 65 g (setD l i y m) :: qs)
theorem lit8_row (w : World) (a b c d e f g h : W32) : (w.alloc (.cells #[.int .u32 (wv a), .int .u32 (wv b), .int .u32 (wv c), .int .u32 (wv d), .int .u32 (wv e), .int .u32 (wv f), .int .u32 (wv g), .int .u32 (wv h)] 103)).ownsRow 0 103 1 (.slice (some ⟨w.heap.size, 0, none⟩) 8 8) 8 (u32s (St.list ⟨a, b, c, d, e, f, g, h⟩)) :=
  World.ownsRow_lit (base := 0) (e := 103) (size := 1) w #[.int .u32 (wv a), .int .u32 (wv b), .int .u32 (wv c), .int .u32 (wv d), .int .u32 (wv e), .int .u32 (wv f), .int .u32 (wv g), .int .u32 (wv h)] 8 (Nat.zero_le _) (by unfold maxLen; omega) rfl
theorem wv_add3 (a b c : W32) : (wv a + wv b + wv c) % (4294967296 : Int) = wv (a + b + c) := by
  rw [← wv_add' (a + b) c, ← wv_add' a b]; omega
theorem kw_cells {w X : World} {gh gk gr gw cw : Nat} {p : Asr} {h S : List W32} {kA : Array Value} {qs : List Asr} (hqs : HK gh gk gr h kA = qs) (hkA : ∀ i, i < 64 → kA[i]? = some (.int .u32 (wv (keyL.getD i 0)))) (hX : Has w X (p :: rowA 103 1 (.slice (some ⟨gw, 0, none⟩) 64 cw) 64 (u32s S) :: qs)) (i : Nat) (hi : i < 64) :
    X.cell? ⟨gk, i, none⟩ = some (.int .u32 (wv (keyL.getD i 0))) ∧ X.cell? ⟨gw, i, none⟩ = some (.int .u32 (wv (S.getD i 0))) := by
  subst hqs
  refine ⟨?_, URow.cell hX.drop i hi⟩
  obtain ⟨F, hF⟩ := hX.drop.drop.swap.head
  rw [hF.1.cell i, hkA i hi]
def R1Rel (w : World) (f : Nat → St) (gw cw : Nat) (S : List W32) (qs : List Asr) (v k : Value) (wr : World) : Prop := ∃ (i gv cv : Nat), i ≤ 64 ∧ k = .int .i64 i ∧ v = .slice (some ⟨gv, 0, none⟩) 8 cv ∧ Has w wr (rowA 103 1 (.slice (some ⟨gv, 0, none⟩) 8 cv) 8 (u32s (f i).list) :: rowA 103 1 (.slice (some ⟨gw, 0, none⟩) 64 cw) 64 (u32s S) :: qs)
set_option maxRecDepth 100000 in
set_option maxHeartbeats 100000000 in
theorem refof_any (w : World) (l : List UInt8) (hl : l.length ≤ 100000) : Calls Try.prog 30 #[.string (strOf l)] w fun e w' => e = .returned (smV (sha l)) ∧ Ext w w' := by
  have hll : (l.length : Int) ≤ 100000 := by omega
  have hsz : (strOf l).size = l.length := rfl
  have hadd : ∀ X, (Op.stringOp .add (strOf l) ⟨#[128]⟩).run Try.prog X = .ok (.string (strOf (l ++ [128]))) X := fun X => cstr_add l [128] (by simp; omega) X
  have hli := fun W => (list_any W).mono (R' := fun e w' => ∃ g, e = .returned (.slice (some ⟨g, 0, none⟩) 64 64) ∧ W.heap.size ≤ g ∧ Blk w' g 103 (u32s keyL).toArray ∧ Ext W w') fun e w' ⟨h1, h2⟩ => ⟨W.heap.size, h1, Nat.le_refl _, by rw [h2]; exact Blk.new _ _ _, by rw [h2]; exact ext_alloc _ _⟩
  obtain ⟨i0, hi0, hz0, hz1, hz2⟩ := info_parts u32Info'
  have hkA : ∀ i, i < 64 → (u32s keyL).toArray[i]? = some (.int .u32 (wv (keyL.getD i 0))) := fun i hi => by rw [List.getElem?_toArray, u32s_get keyL i (by rw [keyL_len]; exact hi)]
  generalize hkk : (u32s keyL).toArray = kA at hli hkA
  clear hkk
  go_enter Try.func30, Try.ntmps30
  go_wp2_with fail
  have h1 := (Has.nil (Ext.refl w)).add .nil (ext_alloc w (.cells (u8s (zb 32)).toArray 65)) (p := BdA 65 w.heap.size (zb 32)) (F := fun k => k = w.heap.size) ⟨Blk.new _ _ _, rfl⟩ (fun k hk => by omega)
  refine gen_calls (fun X => Has w X [BdA 65 w.heap.size (zb 32)]) h1 ?_
  clear h1
  intro X h1
  generalize w.heap.size = gr at *
  refine (hli X).mono ?_
  rintro e w1 ⟨gk, rfl, hgk, hB, hE⟩
  have hH : Has w w1 [blkA gk 103 kA, BdA 65 gr (zb 32)] := h1.add (.cons (BdA_loc _ _ _) .nil) hE (p := blkA gk 103 kA) (F := fun k => k = gk) ⟨hB, rfl⟩ (fun k hk => by omega)
  clear h1 hli hgk hB hE
  go_upto_block 0 with fail
  go_cut [0] (fun s wx => s = .string (strOf (l ++ 0x80 :: List.replicate (zeros l.length) 0)) ∧ wx = w1)
  case first =>
    as_aux_lemma =>
      go_wp2_with fail
      go_loopw [0] (fun s wr => O1Rel w1 l s wr) (fun s _ => 300000 - stLen s)
      case atStart => exact ⟨0, by omega, rfl, rfl⟩
      case round =>
        obtain ⟨k, hk, rfl, rfl⟩ := hrel
        have hz := zeros_is l.length k hk
        have hzl := zeros_lt l.length
        obtain ⟨L, hL⟩ : ∃ L, L = l ++ 0x80 :: List.replicate k 0 := ⟨_, rfl⟩
        have hLl : L.length = l.length + 1 + k := by rw [hL]; simp; omega
        have hL1 : l ++ 0x80 :: List.replicate (k + 1) 0 = L ++ [0] := by rw [hL, List.replicate_succ', List.append_assoc]; rfl
        have hadd : ∀ X, (Op.stringOp .add (strOf L) ⟨#[0]⟩).run Try.prog X = .ok (.string (strOf (L ++ [0]))) X := fun X => cstr_add L [0] (by simp; omega) X
        rw [← hL]
        have hsz : (strOf L).size = L.length := rfl
        have HL := Lib.hid hL
        have HL1 := Lib.hid hL1
        have hLb : (L.length : Int) ≤ 100100 := by omega
        by_cases hkz : k = zeros l.length
        · have e1 : (L.length : Int) % 64 = 56 := by have := hz.2 hkz; omega
          have e3 : ((L.length : Int) % 64 != 56) = false := by rw [e1]; rfl
          clear hL hL1 hz
          go_wp2_with fail
          go_meet
          exact ⟨by rw [HL.out, hkz], rfl⟩
        · have e1 : ¬ (L.length : Int) % 64 = 56 := fun e => hkz (hz.1 (by omega))
          have e3 : ((L.length : Int) % 64 != 56) = true := by simpa using e1
          clear hL hL1 hz
          go_wp2_with fail
          refine ⟨⟨k + 1, by omega, by rw [HL1.out], rfl⟩, ?_⟩
          have h1 : (strOf (L ++ [0])).size = L.length + 1 := by show (L ++ [0]).length = _; simp
          simp only [stLen]
          rw [h1, hsz]
          omega
  case rest =>
    obtain ⟨rfl, rfl⟩ := hcut
    go_wp2_with fail
    go_loopw [4, 5, 6] (fun n t k wr => O2Rel wc (l.length * 8) n t k wr) (fun _ _ k _ => (9 - intOf k).toNat)
    case atStart => exact ⟨0, by omega, rfl, by simp, rfl, Ext.refl _⟩
    case round =>
      obtain ⟨i, hi, rfl, rfl, rfl, hE⟩ := hrel
      by_cases gi : (i : Int) < 8
      · as_aux_lemma =>
          obtain ⟨y, hy⟩ : ∃ y, y = l.length * 8 / 256 ^ i := ⟨_, rfl⟩
          have hyb : y ≤ 800000 := by rw [hy]; exact Nat.le_trans (Nat.div_le_self _ _) (by omega)
          have hy2 : l.length * 8 / 256 ^ (i + 1) = y / 256 := by rw [hy, Nat.pow_succ, Nat.div_div_eq_div_mul]
          have htr : tailR (l.length * 8) (i + 1) = [UInt8.ofNat y] ++ tailR (l.length * 8) i := by rw [tailR_succ, hy]; rfl
          have htl : (tailR (l.length * 8) i).length = i := by simp [tailR]
          rw [← hy]
          have H2 := Lib.hid hy2
          have HT := Lib.hid htr
          clear hy hy2 htr
          generalize tailR (l.length * 8) i = t at *
          have e1 : (y : Int) % (256 : Int) = ((UInt8.ofNat y).toNat : Int) := by simp
          generalize UInt8.ofNat y = b at *
          have hbb := u8_bd b
          have hy0 : (0 : Int) ≤ (y : Int) := by omega
          have hy9 : (y : Int) ≤ 800000 := by omega
          have hadd : ∀ X, (Op.stringOp .add (strOf [b]) (strOf t)).run Try.prog X = .ok (.string (strOf ([b] ++ t))) X := fun X => cstr_add [b] t (by simp; omega) X
          have hcv : (convert 30 9 (.slice (some ⟨wr.heap.size, 0, none⟩) 1 1)).run Try.prog (wr.alloc (.cells #[.int .u8 (b.toNat : Int)] 5)) = .ok (.string (strOf [b])) (wr.alloc (.cells #[.int .u8 (b.toNat : Int)] 5)) := conv_arg (P := Try.prog) (c := 1) (l := [b]) Try.underlying30 Try.underlying5 Try.underlying9 (NumsAt.blk (Blk.new wr 5 (u8s [b]).toArray)) (fun h => by cases h)
          have hEn := hE.alloc (.cells (u8s [b]).toArray 5)
          go_wp2_with fail
          refine ⟨⟨i + 1, by omega, by go_num, by rw [H2.out]; simp, by rw [HT.out]; rfl, hEn⟩, by simp [intOf]; omega⟩
      · have hi' : i = 8 := by omega
        subst hi'
        have hadd : ∀ X, (Op.stringOp .add (strOf (l ++ 0x80 :: List.replicate (zeros l.length) 0)) (strOf (tailR (l.length * 8) 8))).run Try.prog X = .ok (.string (strOf (padded l))) X := fun X => by
          have hz := zeros_lt l.length
          have := cstr_add (P := Try.prog) (l ++ 0x80 :: List.replicate (zeros l.length) 0) (tailR (l.length * 8) 8) (by simp [tailR]; omega) X
          rw [this, tailR_len8 l.length (by omega)]
          simp [padded, pad]
        have hpm := padded_len l
        have hpl : (padded l).length ≤ 100200 := by
          have hz := zeros_lt l.length
          simp [padded, pad, len8]; omega
        obtain ⟨NB, hNB⟩ : ∃ NB, 64 * NB = (padded l).length := ⟨(padded l).length / 64, by omega⟩
        have HSHA := Lib.hid (sha_blocks l NB hNB)
        have hHr := hH.ext (.cons (blkA_loc _ _ _) (.cons (BdA_loc _ _ _) .nil)) hE
        generalize tailR (l.length * 8) 8 = tl at *
        generalize padded l = P at *
        clear hH hE
        go_upto_region 14 with fail
        have hH1 : Has w (wr.alloc (.cells (u32s St.begin.list).toArray 103)) (HK wr.heap.size gk gr St.begin.list kA) := hHr.add (.cons (blkA_loc _ _ _) (.cons (BdA_loc _ _ _) .nil)) (ext_alloc wr (.cells (u32s St.begin.list).toArray 103)) (p := WdA 103 wr.heap.size St.begin.list) (F := fun k => k = wr.heap.size) ⟨Blk.new _ _ _, rfl⟩ (fun k hk => by omega)
        refine gen_world' (fun X => Has w X (HK wr.heap.size gk gr St.begin.list kA)) hH1 ?_
        clear hH1 hHr hadd
        intro w5 hH5
        generalize wr.heap.size = gh at *
        generalize St.begin = s0 at *
        have hPl : (P.length : Int) ≤ 100200 := by omega
        have hsz : (strOf P).size = P.length := rfl
        go_wp2_with fail
        go_loopw [8] (fun a wr => OLoop w gh gk gr s0 P kA NB a wr) (fun a _ => ((P.length : Int) + 64 - intOf a).toNat)
        case atStart => exact ⟨0, by omega, rfl, hH5⟩
        case round =>
          clear hH5
          obtain ⟨nb, hnb, rfl, hH⟩ := hrel
          obtain ⟨at_, hat⟩ : ∃ a, a = 64 * nb := ⟨_, rfl⟩
          by_cases gat : (at_ : Int) < P.length
          · have hBl : ((P.drop at_).take 64).length = 64 := by rw [List.length_take, List.length_drop]; omega
            have hbs : blocks s0 P (nb + 1) = (blocks s0 P nb).block ((P.drop at_).take 64) := by rw [hat]; rfl
            have hBget : ∀ j, j < 64 → ((P.drop at_).take 64).getD j 0 = P.getD (at_ + j) 0 := fun j hj => by
              rw [List.getD_eq_getElem?_getD, List.getD_eq_getElem?_getD, List.getElem?_take, if_pos hj, List.getElem?_drop]
            have HB := Lib.hid hbs
            have HA := Lib.hid hat
            rw [← hat]
            clear hbs
            have hat64 : (at_ : Int) + 64 ≤ P.length := by omega
            generalize (P.drop at_).take 64 = B at *
            generalize blocks s0 P nb = st at *
            have hB64 : B.length = 4 * 16 := hBl
            have hlq := HK_locs gh gk gr st.list kA
            have hH1 : Has w wr (URow (.slice none 0 0) ((words B).take 0) :: HK gh gk gr st.list kA) := hH.add hlq (Ext.refl wr) (URow.nil wr) (fun k hk => by simp [Value.ownBlock] at hk)
            generalize hqs : HK gh gk gr st.list kA = qs at *
            clear hH hat
            go_wp2_with fail
            go_loopw [9, 10] (fun v k wr => W1Rel w B qs v k wr) (fun _ k _ => (17 - intOf k).toNat)
            case atStart => exact ⟨0, by omega, rfl, hH1⟩
            case round =>
              clear hH1
              obtain ⟨i, hi, rfl, hH⟩ := hrel
              by_cases gi : (i : Int) < 16
              · as_aux_lemma =>
                  skip
                  have hS := words_snoc 16 B hB64 i (by omega)
                  have hfx := fun (j : Nat) (hj : j < 4) X => index_str (W := X) P ((at_ : Int) + 4 * (i : Int) + (j : Int)) (at_ + 4 * i + j) (by omega) (by omega)
                  have hBP : ∀ j, j < 4 → B.getD (4 * i + j) 0 = P.getD (at_ + 4 * i + j) 0 := fun j hj => by rw [hBget _ (by omega), Nat.add_assoc]
                  have h4 := hor_four B i
                  have hlt := hor_lt (fun j => (B.getD (4 * i + j) 0).toNat) (fun j => UInt8.toNat_lt _)
                  generalize fourB _ _ _ _ = xw at *
                  have hfg : ∀ j, j < 4 → (fun j => (B.getD (4 * i + j) 0).toNat) j = (P.getD (at_ + 4 * i + j) 0).toNat := fun j hj => by rw [← hBP j hj]
                  have hf256 : ∀ j, (fun j => (B.getD (4 * i + j) 0).toNat) j < 256 := fun j => UInt8.toNat_lt _
                  generalize (fun j => (B.getD (4 * i + j) 0).toNat) = f at *
                  have HS := Lib.hid hS
                  clear hS hBP
                  go_wp2_with fail
                  go_loopw [11, 12] (fun x k wx => W0Rel wr f x k wx) (fun _ k _ => (5 - intOf k).toNat)
                  case atStart => exact ⟨0, by omega, rfl, rfl, rfl⟩
                  case round =>
                    obtain ⟨j, hj, rfl, rfl, rfl⟩ := hrel
                    by_cases gj : (j : Int) < 4
                    · have hx := hfx j (by omega)
                      rw [← hfg j (by omega)] at hx
                      have hl := hlt j
                      have hl3 : (256 : Nat) ^ j ≤ 256 ^ 3 := Nat.pow_le_pow_right (by omega) (by omega)
                      have hb3 : (hor f j : Int) < 16777216 := by
                        have : (256 : Nat) ^ 3 = 16777216 := rfl
                        omega
                      have hfb : (f j : Int) < 256 := by have := hf256 j; omega
                      have hf0 : (0 : Int) ≤ (f j : Int) := Int.natCast_nonneg _
                      have hh0 : (0 : Int) ≤ (hor f j : Int) := Int.natCast_nonneg _
                      have hsucc : hor f (j + 1) = hor f j * 256 + f j := rfl
                      have HU := Lib.hid hsucc
                      clear hsucc hl hl3 hfx hfg hlt hf256 h4
                      generalize hor f j = y at *
                      generalize f j = fj at *
                      go_wp2_with fail
                      exact ⟨⟨j + 1, by omega, by go_num, by rw [HU.out]; go_num, rfl⟩, by simp [intOf]; omega⟩
                    · have hj' : j = 4 := by omega
                      subst hj'
                      rw [h4]
                      clear hfx hfg hlt hf256 h4
                      obtain ⟨F, hF⟩ := hH.head
                      have hwl := words_len 16 B hB64
                      have htl : ((words B).take i).length = i := by rw [List.length_take]; omega
                      have HW := Lib.hid htl
                      have hown := ownsRow_ext hF.1 (ext_alloc wr (.cells #[.int .u32 (wv xw)] 103))
                      have hH2 := hH.ext (.cons (URow_loc _ _) hlq) (ext_alloc wr (.cells #[.int .u32 (wv xw)] 103))
                      have hnews := news_new wr [.int .u32 (wv xw)] 103
                      clear htl hwl
                      generalize (words B).take i = ws at *
                      have hwb : ws.length ≤ 16 := by rw [HW.out]; omega
                      go_wp2_with (at_builtin; refine wpList_append_new rfl _ _ 114 rfl 103 i0 (.int .u32 0) 1 4 Try.underlying114 hi0 hz0 hz1 hz2 rfl (by decide) _ _ _ rfl hown _ 1 1 [.int .u32 (wv xw)] rfl rfl (fun h => by cases h) hnews (oneC1 _ _) (by unfold maxLen; omega) (by omega) ?_)
                      intro v3 w3 hown3 hg3 hf3
                      have hH3 := URow.grow1 hH2 hlq hown3 hg3 hf3
                      clear hF hown hown3 hg3 hf3 hH hH2 hnews
                      go_wp2_with fail
                      exact ⟨⟨i + 1, by omega, by go_num, by rw [HS.out]; exact hH3⟩, by simp [intOf]; omega⟩
              · have hi' : i = 16 := by omega
                subst hi'
                rw [List.take_of_length_le (by rw [words_len 16 B hB64]; omega)] at hH
                clear hBget
                go_wp2_with fail
                go_loopw [9, 13] (fun v k wr => G1Rel w B qs v k wr) (fun _ k _ => (65 - intOf k).toNat)
                case atStart => exact ⟨0, by omega, rfl, hH⟩
                case round =>
                  clear hH
                  obtain ⟨i, hi, rfl, hH⟩ := hrel
                  have hwl : (wGrow i (words B)).length = 16 + i := by rw [wGrow_len, words_len 16 B hB64]
                  obtain ⟨gw, cw, rfl⟩ := URow.form hH (by omega)
                  rw [URow, hwl] at hH
                  rw [hwl]
                  by_cases gi : (i : Int) < 48
                  · as_aux_lemma =>
                      have c1 := URow.cell hH (16 + i - 15) (by omega)
                      have c14 := URow.cell hH (16 + i - 2) (by omega)
                      have c0 := URow.cell hH i (by omega)
                      have c9 := URow.cell hH (16 + i - 7) (by omega)
                      have HN := Lib.hid (show wNext (wGrow i (words B)) (16 + i) = (wGrow i (words B)).getD i 0 + (ror ((wGrow i (words B)).getD (16 + i - 15) 0) 7 ^^^ ror ((wGrow i (words B)).getD (16 + i - 15) 0) 18 ^^^ (wGrow i (words B)).getD (16 + i - 15) 0 >>> 3) + (wGrow i (words B)).getD (16 + i - 7) 0 + (ror ((wGrow i (words B)).getD (16 + i - 2) 0) 17 ^^^ ror ((wGrow i (words B)).getD (16 + i - 2) 0) 19 ^^^ (wGrow i (words B)).getD (16 + i - 2) 0 >>> 10) by
                        show wNext _ _ = _
                        unfold wNext
                        rw [show 16 + i - 16 = i by omega])
                      have HSU := Lib.hid (show wGrow (i + 1) (words B) = wGrow i (words B) ++ [wNext (wGrow i (words B)) (16 + i)] by rw [wGrow_succ, words_len 16 B hB64])
                      generalize wNext (wGrow i (words B)) (16 + i) = z at *
                      generalize (wGrow i (words B)).getD (16 + i - 15) 0 = x1 at *
                      generalize (wGrow i (words B)).getD (16 + i - 2) 0 = y at *
                      obtain ⟨m0, hm0⟩ : ∃ m, m = (wGrow i (words B)).getD i 0 := ⟨_, rfl⟩
                      obtain ⟨m9, hm9⟩ : ∃ m, m = (wGrow i (words B)).getD (16 + i - 7) 0 := ⟨_, rfl⟩
                      rw [← hm0, ← hm9] at HN
                      have HM0 := Lib.hid hm0
                      have HM9 := Lib.hid hm9
                      clear hm0 hm9 c0 c9
                      generalize wGrow i (words B) = ws at *
                      have HWL := Lib.hid hwl
                      clear hwl
                      go_upto_region 30 with fail
                      have fa1 := wv_xor (ror x1 7) (ror x1 18)
                      have fa2 := wv_xor (ror x1 7 ^^^ ror x1 18) (x1 >>> 3)
                      go_big_quiet (first
                        | (with_reducible exact qright _ 7 7 (by omega) (by omega))
                        | (with_reducible exact qright _ 18 18 (by omega) (by omega))
                        | (with_reducible exact qless _ 3 3 (by omega) (by omega)))
                      have hH2 := hH.ext (.cons (rowA_loc _ _ _ _ _) hlq) ((Ext.refl wr).drewN nq)
                      have d14 : (wr.drewN nq).cell? ⟨gw, 16 + i - 2, none⟩ = some (.int .u32 (wv y)) := c14
                      clear hH c1 c14 fa1 fa2
                      generalize wr.drewN nq = w2 at *
                      generalize ror x1 7 ^^^ ror x1 18 ^^^ x1 >>> 3 = xa at *
                      go_upto_region 31 with fail
                      have fb1 := wv_xor (ror y 17) (ror y 19)
                      have fb2 := wv_xor (ror y 17 ^^^ ror y 19) (y >>> 10)
                      go_big_quiet (first
                        | (with_reducible exact qright _ 17 17 (by omega) (by omega))
                        | (with_reducible exact qright _ 19 19 (by omega) (by omega))
                        | (with_reducible exact qless _ 10 10 (by omega) (by omega)))
                      have hH3 := hH2.ext (.cons (rowA_loc _ _ _ _ _) hlq) ((Ext.refl w2).drewN nq)
                      clear hH2 d14 fb1 fb2
                      generalize w2.drewN nq = w3 at *
                      generalize ror y 17 ^^^ ror y 19 ^^^ y >>> 10 = xb at *
                      go_upto_region 32 with fail
                      have fc1 := wv_add m0 xa
                      have fc2 := wv_add (m0 + xa) m9
                      have fc3 := wv_add (m0 + xa + m9) xb
                      have fd1 := wv_add' m0 xa
                      have fd2 := wv_add' (m0 + xa) m9
                      have fd3 := wv_add' (m0 + xa + m9) xb
                      have hne_ : Nonempty (Of (fun _ : World => True)) := trueOf_ne (W := w3)
                      refine region_plan (.seg [0,1,2,3,4,6,8,9,10,11,14] [true,true,true,true,true,true,true,true,true,true,true] (.fork 5 (.seg [7,12,13,15,16,17,18] [true,false,true,true,false,false,false] .done) 12 (.seg [5,7,13,15,16,17,18] [false,true,true,true,false,false,false] .done))) (fun _ : World => True) (by kernel_rfl) (by kernel_rfl) trivial ?_
                      refine walkP_seg ?_
                      simp only [List.filterMap_cons, List.filterMap_nil, List.getElem?_cons_zero, List.getElem?_cons_succ]
                      refine steps_quiet 11 (by kernel_rfl) ?_
                      simp only [List.take_succ_cons, List.take_zero, List.drop_succ_cons, List.drop_zero]
                      repeat (go_big_quiet_step (fail))
                      refine wpQuiet_nil ?_
                      have hH4 := hH3.ext (.cons (rowA_loc _ _ _ _ _) hlq) (Ext.refl w3).drew
                      clear hH3
                      generalize w3.drew = w4 at *
                      have ce0 : w4.cell? ⟨gw, i, none⟩ = some (.int .u32 (wv m0)) := by rw [HM0.out]; exact URow.cell hH4 i (by omega)
                      have ce9 : w4.cell? ⟨gw, 16 + i - 7, none⟩ = some (.int .u32 (wv m9)) := by rw [HM9.out]; exact URow.cell hH4 _ (by omega)
                      refine steps_end ?_
                      refine walkP_fork ?_ ?_
                      all_goals simp only [List.filterMap_cons, List.filterMap_nil, List.getElem?_cons_zero, List.getElem?_cons_succ]
                      · refine steps_want rfl (fun K hK => ?_)
                        go_simp
                        refine hK _ _ (fun _ => True) trivial (fun _ _ => trivial) ?_
                        clear hK K
                        refine steps_end ?_
                        refine walkP_seg ?_
                        simp only [List.filterMap_cons, List.filterMap_nil, List.getElem?_cons_zero, List.getElem?_cons_succ]
                        refine steps_quiet 1 (by kernel_rfl) ?_
                        simp only [List.take_succ_cons, List.take_zero, List.drop_succ_cons, List.drop_zero]
                        repeat (go_big_quiet_step (fail))
                        refine wpQuiet_nil ?_
                        refine steps_want rfl (fun K hK => ?_)
                        go_simp
                        refine hK _ _ (fun _ => True) trivial (fun _ _ => trivial) ?_
                        clear hK K
                        refine steps_quiet 2 (by kernel_rfl) ?_
                        simp only [List.take_succ_cons, List.take_zero, List.drop_succ_cons, List.drop_zero]
                        repeat (go_big_quiet_step (fail))
                        refine wpQuiet_nil ?_
                        clear ce0 ce9 fc1 fc2 fc3 fd1 fd2 fd3
                        generalize m0 + xa + m9 + xb = xs at *
                        obtain ⟨F, hF⟩ := hH4.head
                        have hown := ownsRow_ext hF.1 (ext_alloc w4 (.cells #[.int .u32 (wv xs)] 103))
                        have hH5 := hH4.ext (.cons (rowA_loc _ _ _ _ _) hlq) (ext_alloc w4 (.cells #[.int .u32 (wv xs)] 103))
                        have hnews := news_new w4 [.int .u32 (wv xs)] 103
                        refine steps_want rfl (fun K hK => ?_)
                        go_simp
                        refine hK _ _ (fun _ => True) trivial (fun _ _ => trivial) ?_
                        clear hK K
                        refine steps_want rfl (fun K hK => ?_)
                        refine wp_append_new _ _ 114 rfl 103 i0 (.int .u32 0) 1 4 Try.underlying114 hi0 hz0 hz1 hz2 rfl (by decide) _ _ _ rfl hown _ 1 1 [.int .u32 (wv xs)] rfl rfl (fun h => by cases h) hnews (oneC1 _ _) (by unfold maxLen; omega) (by omega) ?_
                        intro v3 w5 hown3 hg3 hf3
                        have hH6 : Has w w5 (URow v3 (ws ++ [xs]) :: qs) := hH5.next hlq fun F hF => by
                          obtain ⟨_, rfl⟩ := hF
                          refine Next.mk ⟨?_, rfl⟩ (grownBy.tch hg3) hf3.1
                          rw [List.length_append, HWL.out]
                          simpa [u32s] using hown3
                        clear hF hown hown3 hg3 hf3 hH4 hH5 hnews
                        refine hK _ _ (fun _ => True) trivial (fun _ _ => trivial) ?_
                        clear hK K
                        refine steps_want rfl (fun K hK => ?_)
                        go_simp
                        refine hK _ _ (fun _ => True) trivial (fun _ _ => trivial) ?_
                        clear hK K
                        refine steps_end ?_
                        refine walkP_done ?_
                        try simp only [Act.put]
                        go_wp2_with fail
                        exact ⟨⟨i + 1, by omega, by go_num, by rw [HSU.out, HN.out]; exact hH6⟩, by simp [intOf]; omega⟩
                      · refine steps_want rfl (fun K hK => ?_)
                        go_simp
                        refine hK _ _ (fun _ => True) trivial (fun _ _ => trivial) ?_
                        clear hK K
                        refine steps_end ?_
                        refine walkP_seg ?_
                        simp only [List.filterMap_cons, List.filterMap_nil, List.getElem?_cons_zero, List.getElem?_cons_succ]
                        refine steps_want rfl (fun K hK => ?_)
                        go_simp
                        refine hK _ _ (fun _ => True) trivial (fun _ _ => trivial) ?_
                        clear hK K
                        refine steps_quiet 3 (by kernel_rfl) ?_
                        simp only [List.take_succ_cons, List.take_zero, List.drop_succ_cons, List.drop_zero]
                        repeat (go_big_quiet_step (fail))
                        refine wpQuiet_nil ?_
                        clear ce0 ce9 fc1 fc2 fc3 fd1 fd2 fd3
                        generalize m0 + xa + m9 + xb = xs at *
                        obtain ⟨F, hF⟩ := hH4.head
                        have hown := ownsRow_ext hF.1 (ext_alloc w4 (.cells #[.int .u32 (wv xs)] 103))
                        have hH5 := hH4.ext (.cons (rowA_loc _ _ _ _ _) hlq) (ext_alloc w4 (.cells #[.int .u32 (wv xs)] 103))
                        have hnews := news_new w4 [.int .u32 (wv xs)] 103
                        refine steps_want rfl (fun K hK => ?_)
                        go_simp
                        refine hK _ _ (fun _ => True) trivial (fun _ _ => trivial) ?_
                        clear hK K
                        refine steps_want rfl (fun K hK => ?_)
                        refine wp_append_new _ _ 114 rfl 103 i0 (.int .u32 0) 1 4 Try.underlying114 hi0 hz0 hz1 hz2 rfl (by decide) _ _ _ rfl hown _ 1 1 [.int .u32 (wv xs)] rfl rfl (fun h => by cases h) hnews (oneC1 _ _) (by unfold maxLen; omega) (by omega) ?_
                        intro v3 w5 hown3 hg3 hf3
                        have hH6 : Has w w5 (URow v3 (ws ++ [xs]) :: qs) := hH5.next hlq fun F hF => by
                          obtain ⟨_, rfl⟩ := hF
                          refine Next.mk ⟨?_, rfl⟩ (grownBy.tch hg3) hf3.1
                          rw [List.length_append, HWL.out]
                          simpa [u32s] using hown3
                        clear hF hown hown3 hg3 hf3 hH4 hH5 hnews
                        refine hK _ _ (fun _ => True) trivial (fun _ _ => trivial) ?_
                        clear hK K
                        refine steps_want rfl (fun K hK => ?_)
                        go_simp
                        refine hK _ _ (fun _ => True) trivial (fun _ _ => trivial) ?_
                        clear hK K
                        refine steps_end ?_
                        refine walkP_done ?_
                        try simp only [Act.put]
                        go_wp2_with fail
                        exact ⟨⟨i + 1, by omega, by go_num, by rw [HSU.out, HN.out]; exact hH6⟩, by simp [intOf]; omega⟩
                  · have hi' : i = 48 := by omega
                    subst hi'
                    have hsp : wGrow 48 (words B) = spread B := by rw [spread]
                    rw [hsp] at hH
                    clear hsp
                    have hsl : (spread B).length = 64 := spread_len B hB64
                    have hHh := hH.drop
                    rw [← hqs] at hHh
                    obtain ⟨Fh, hFh⟩ := hHh.head
                    have hnh := WdA_news hFh (ext_alloc wr (.cells #[] 103))
                    have hlit := World.ownsRow_made (base := 0) (e := 103) (size := 1) wr #[] 0 (Nat.zero_le _) (by simp) rfl
                    have hu1 := u32s_oneEach st.list
                    clear hHh
                    go_upto_region 34 with (at_builtin; refine wpList_append_new rfl _ _ 114 rfl 103 i0 (.int .u32 0) 1 4 Try.underlying114 hi0 hz0 hz1 hz2 rfl (by decide) (.slice (some ⟨Array.size (World.heap wr), 0, none⟩) 0 0) 0 [] rfl hlit _ 8 8 (u32s st.list) rfl rfl (fun h => by cases h) hnh hu1 (by unfold maxLen; omega) (by omega) ?_)
                    intro v4 w4 hown4 hg4 hf4
                    have hlb : ∀ k, (Value.slice (some ⟨Array.size (World.heap wr), 0, none⟩) 0 0).ownBlock = some k → Array.size (World.heap wr) ≤ k := fun k hk => Nat.le_of_eq (by simpa [Value.ownBlock] using hk)
                    obtain ⟨hE4, hb4⟩ := fresh_ext (ext_alloc wr (.cells #[] 103)) hlb hg4 hf4
                    have hown4' : w4.ownsRow 0 103 1 v4 8 (u32s st.list) := by simpa using hown4
                    obtain ⟨gv, cv, rfl⟩ : ∃ g c, v4 = .slice (some ⟨g, 0, none⟩) 8 c := by
                      rcases hown4'.2 with ⟨hv, h0⟩ | ⟨g, cap, cur, hv, _⟩
                      · omega
                      · exact ⟨g, cap, hv⟩
                    have hH4 := hH.add (.cons (rowA_loc _ _ _ _ _) hlq) hE4 (p := rowA 103 1 (.slice (some ⟨gv, 0, none⟩) 8 cv) 8 (u32s st.list)) (F := fun k => (Value.slice (some ⟨gv, 0, none⟩) 8 cv).ownBlock = some k) ⟨hown4', rfl⟩ hb4
                    clear hown4 hg4 hf4 hE4 hb4 hown4' hlit hH hlb hnh hFh hu1
                    have hbk : st.block B = st.add (rounds st (keyL.zip (spread B))) := rfl
                    have hra := rounds_all st B hB64
                    have HRS := Lib.hid (fun i (hi : i < 64) => rounds_succ st B hB64 i hi)
                    have HBK := Lib.hid hbk
                    have HRA := Lib.hid hra
                    clear hbk hra
                    generalize spread B = S at *
                    go_wp2_with fail
                    go_loopw [16, 17] (fun v k wr => R1Rel w (fun i => rounds st ((keyL.zip S).take i)) gw cw S qs v k wr) (fun _ k _ => (65 - intOf k).toNat)
                    case atStart => exact ⟨0, gv, cv, by omega, rfl, rfl, hH4⟩
                    case round =>
                      clear hH4
                      obtain ⟨i, gv, cv, hi, rfl, rfl, hH⟩ := hrel
                      dsimp only at hH
                      by_cases gi : (i : Int) < 64
                      · have hrs := HRS.out i (by omega)
                        have HR := Lib.hid hrs
                        clear hrs
                        have hgd : (spread B).getD i 0 = (spread B).getD i 0 := rfl
                        clear hgd
                        generalize hv : rounds st ((keyL.zip S).take i) = v at *
                        generalize hx0 : S.getD i 0 = x at *
                        generalize hkq : keyL.getD i 0 = kq at *
                        have cK : ∀ X, Has w X (rowA 103 1 (.slice (some ⟨gv, 0, none⟩) 8 cv) 8 (u32s v.list) :: rowA 103 1 (.slice (some ⟨gw, 0, none⟩) 64 cw) 64 (u32s S) :: qs) → X.cell? ⟨gk, i, none⟩ = some (.int .u32 (wv kq)) ∧ X.cell? ⟨gw, i, none⟩ = some (.int .u32 (wv x)) := fun X hX => by
                          rw [← hx0, ← hkq]
                          exact kw_cells hqs hkA hX i (by omega)
                        clear hv hx0 hkq
                        have c0 : (wr).cell? ⟨gv, 0, none⟩ = some (.int .u32 (wv v.a)) := URow.cell hH 0 (by omega)
                        have c1 : (wr).cell? ⟨gv, 1, none⟩ = some (.int .u32 (wv v.b)) := URow.cell hH 1 (by omega)
                        have c2 : (wr).cell? ⟨gv, 2, none⟩ = some (.int .u32 (wv v.c)) := URow.cell hH 2 (by omega)
                        have c3 : (wr).cell? ⟨gv, 3, none⟩ = some (.int .u32 (wv v.d)) := URow.cell hH 3 (by omega)
                        have c4 : (wr).cell? ⟨gv, 4, none⟩ = some (.int .u32 (wv v.e)) := URow.cell hH 4 (by omega)
                        have c5 : (wr).cell? ⟨gv, 5, none⟩ = some (.int .u32 (wv v.f)) := URow.cell hH 5 (by omega)
                        have c6 : (wr).cell? ⟨gv, 6, none⟩ = some (.int .u32 (wv v.g)) := URow.cell hH 6 (by omega)
                        have c7 : (wr).cell? ⟨gv, 7, none⟩ = some (.int .u32 (wv v.h)) := URow.cell hH 7 (by omega)
                        go_upto_region 37 with fail
                        have fa1 := wv_xor (ror v.e 6) (ror v.e 11)
                        have fa2 := wv_xor (ror v.e 6 ^^^ ror v.e 11) (ror v.e 25)
                        go_big_quiet (first
                          | (with_reducible exact qright _ 6 6 (by omega) (by omega))
                          | (with_reducible exact qright _ 11 11 (by omega) (by omega))
                          | (with_reducible exact qright _ 25 25 (by omega) (by omega)))
                        clear fa1 fa2
                        have hH2 := (hH).ext (.cons (rowA_loc _ _ _ _ _) (.cons (rowA_loc _ _ _ _ _) hlq)) ((Ext.refl wr).drewN nq)
                        clear c0 c1 c2 c3 c4 c5 c6 c7 hH
                        generalize World.drewN wr nq = w2 at *
                        have c0 : (w2).cell? ⟨gv, 0, none⟩ = some (.int .u32 (wv v.a)) := URow.cell hH2 0 (by omega)
                        have c1 : (w2).cell? ⟨gv, 1, none⟩ = some (.int .u32 (wv v.b)) := URow.cell hH2 1 (by omega)
                        have c2 : (w2).cell? ⟨gv, 2, none⟩ = some (.int .u32 (wv v.c)) := URow.cell hH2 2 (by omega)
                        have c3 : (w2).cell? ⟨gv, 3, none⟩ = some (.int .u32 (wv v.d)) := URow.cell hH2 3 (by omega)
                        have c4 : (w2).cell? ⟨gv, 4, none⟩ = some (.int .u32 (wv v.e)) := URow.cell hH2 4 (by omega)
                        have c5 : (w2).cell? ⟨gv, 5, none⟩ = some (.int .u32 (wv v.f)) := URow.cell hH2 5 (by omega)
                        have c6 : (w2).cell? ⟨gv, 6, none⟩ = some (.int .u32 (wv v.g)) := URow.cell hH2 6 (by omega)
                        have c7 : (w2).cell? ⟨gv, 7, none⟩ = some (.int .u32 (wv v.h)) := URow.cell hH2 7 (by omega)
                        obtain ⟨ck, cx⟩ := cK w2 hH2
                        generalize hae : ror v.e 6 ^^^ ror v.e 11 ^^^ ror v.e 25 = ae at *
                        go_upto_region 38 with fail
                        have f1 := wv_add v.h ae
                        have f2 := wv_and v.e v.f
                        have f3 := not_val v.e
                        have f4 := wv_and (~~~v.e) v.g
                        have f5 := wv_xor (v.e &&& v.f) (~~~v.e &&& v.g)
                        have f6 := wv_add (v.h + ae) (v.e &&& v.f ^^^ ~~~v.e &&& v.g)
                        have f7 := wv_add (v.h + ae + (v.e &&& v.f ^^^ ~~~v.e &&& v.g)) kq
                        have f8 := wv_add (v.h + ae + (v.e &&& v.f ^^^ ~~~v.e &&& v.g) + kq) x
                        have f9 : IntKind.u32.wrap ((4294967295 : Int) - wv v.e) = wv (~~~v.e) := by rw [not_val, IntKind.wrap_u32']; have := wv_bd (~~~v.e); omega
                        have f10 : wv (~~~v.e) % (4294967296 : Int) = wv (~~~v.e) := by have := wv_bd (~~~v.e); omega
                        have f16 := wv_add' (v.h + ae) (v.e &&& v.f ^^^ ~~~v.e &&& v.g)
                        have f17 := wv_add3 (v.h + ae) (v.e &&& v.f ^^^ ~~~v.e &&& v.g) kq
                        have f18 := wv_add' (v.h + ae + (v.e &&& v.f ^^^ ~~~v.e &&& v.g) + kq) x
                        go_big_quiet (fail)
                        clear f1 f2 f3 f4 f5 f6 f7 f8 f9 ck cx f10 f16 f17 f18
                        have hH3 := (hH2).ext (.cons (rowA_loc _ _ _ _ _) (.cons (rowA_loc _ _ _ _ _) hlq)) ((Ext.refl w2).drewN nq)
                        clear c0 c1 c2 c3 c4 c5 c6 c7 hH2
                        generalize World.drewN w2 nq = w3 at *
                        have c0 : (w3).cell? ⟨gv, 0, none⟩ = some (.int .u32 (wv v.a)) := URow.cell hH3 0 (by omega)
                        have c1 : (w3).cell? ⟨gv, 1, none⟩ = some (.int .u32 (wv v.b)) := URow.cell hH3 1 (by omega)
                        have c2 : (w3).cell? ⟨gv, 2, none⟩ = some (.int .u32 (wv v.c)) := URow.cell hH3 2 (by omega)
                        have c3 : (w3).cell? ⟨gv, 3, none⟩ = some (.int .u32 (wv v.d)) := URow.cell hH3 3 (by omega)
                        have c4 : (w3).cell? ⟨gv, 4, none⟩ = some (.int .u32 (wv v.e)) := URow.cell hH3 4 (by omega)
                        have c5 : (w3).cell? ⟨gv, 5, none⟩ = some (.int .u32 (wv v.f)) := URow.cell hH3 5 (by omega)
                        have c6 : (w3).cell? ⟨gv, 6, none⟩ = some (.int .u32 (wv v.g)) := URow.cell hH3 6 (by omega)
                        have c7 : (w3).cell? ⟨gv, 7, none⟩ = some (.int .u32 (wv v.h)) := URow.cell hH3 7 (by omega)
                        generalize hTT : v.h + ae + (v.e &&& v.f ^^^ ~~~v.e &&& v.g) + kq + x = T at *
                        go_upto_region 39 with fail
                        have fb1 := wv_xor (ror v.a 2) (ror v.a 13)
                        have fb2 := wv_xor (ror v.a 2 ^^^ ror v.a 13) (ror v.a 22)
                        go_big_quiet (first
                          | (with_reducible exact qright _ 2 2 (by omega) (by omega))
                          | (with_reducible exact qright _ 13 13 (by omega) (by omega))
                          | (with_reducible exact qright _ 22 22 (by omega) (by omega)))
                        clear fb1 fb2
                        have hH4 := (hH3).ext (.cons (rowA_loc _ _ _ _ _) (.cons (rowA_loc _ _ _ _ _) hlq)) ((Ext.refl w3).drewN nq)
                        clear c0 c1 c2 c3 c4 c5 c6 c7 hH3
                        generalize World.drewN w3 nq = w4 at *
                        have c0 : (w4).cell? ⟨gv, 0, none⟩ = some (.int .u32 (wv v.a)) := URow.cell hH4 0 (by omega)
                        have c1 : (w4).cell? ⟨gv, 1, none⟩ = some (.int .u32 (wv v.b)) := URow.cell hH4 1 (by omega)
                        have c2 : (w4).cell? ⟨gv, 2, none⟩ = some (.int .u32 (wv v.c)) := URow.cell hH4 2 (by omega)
                        have c3 : (w4).cell? ⟨gv, 3, none⟩ = some (.int .u32 (wv v.d)) := URow.cell hH4 3 (by omega)
                        have c4 : (w4).cell? ⟨gv, 4, none⟩ = some (.int .u32 (wv v.e)) := URow.cell hH4 4 (by omega)
                        have c5 : (w4).cell? ⟨gv, 5, none⟩ = some (.int .u32 (wv v.f)) := URow.cell hH4 5 (by omega)
                        have c6 : (w4).cell? ⟨gv, 6, none⟩ = some (.int .u32 (wv v.g)) := URow.cell hH4 6 (by omega)
                        have c7 : (w4).cell? ⟨gv, 7, none⟩ = some (.int .u32 (wv v.h)) := URow.cell hH4 7 (by omega)
                        generalize hbe : ror v.a 2 ^^^ ror v.a 13 ^^^ ror v.a 22 = be at *
                        go_upto_region 40 with fail
                        have f2 := wv_and v.a v.b
                        have f3 := wv_and v.a v.c
                        have f4 := wv_and v.b v.c
                        have f5 := wv_xor (v.a &&& v.b) (v.a &&& v.c)
                        have f6 := wv_xor (v.a &&& v.b ^^^ v.a &&& v.c) (v.b &&& v.c)
                        have f7 := wv_add be (v.a &&& v.b ^^^ v.a &&& v.c ^^^ v.b &&& v.c)
                        have f8 := wv_add' be (v.a &&& v.b ^^^ v.a &&& v.c ^^^ v.b &&& v.c)
                        go_big_quiet (fail)
                        clear f2 f3 f4 f5 f6 f7 f8
                        have hH5 := (hH4).ext (.cons (rowA_loc _ _ _ _ _) (.cons (rowA_loc _ _ _ _ _) hlq)) ((Ext.refl w4).drewN nq)
                        clear c0 c1 c2 c3 c4 c5 c6 c7 hH4
                        generalize World.drewN w4 nq = w5 at *
                        have c0 : (w5).cell? ⟨gv, 0, none⟩ = some (.int .u32 (wv v.a)) := URow.cell hH5 0 (by omega)
                        have c1 : (w5).cell? ⟨gv, 1, none⟩ = some (.int .u32 (wv v.b)) := URow.cell hH5 1 (by omega)
                        have c2 : (w5).cell? ⟨gv, 2, none⟩ = some (.int .u32 (wv v.c)) := URow.cell hH5 2 (by omega)
                        have c3 : (w5).cell? ⟨gv, 3, none⟩ = some (.int .u32 (wv v.d)) := URow.cell hH5 3 (by omega)
                        have c4 : (w5).cell? ⟨gv, 4, none⟩ = some (.int .u32 (wv v.e)) := URow.cell hH5 4 (by omega)
                        have c5 : (w5).cell? ⟨gv, 5, none⟩ = some (.int .u32 (wv v.f)) := URow.cell hH5 5 (by omega)
                        have c6 : (w5).cell? ⟨gv, 6, none⟩ = some (.int .u32 (wv v.g)) := URow.cell hH5 6 (by omega)
                        have c7 : (w5).cell? ⟨gv, 7, none⟩ = some (.int .u32 (wv v.h)) := URow.cell hH5 7 (by omega)
                        generalize hUU : be + (v.a &&& v.b ^^^ v.a &&& v.c ^^^ v.b &&& v.c) = U at *
                        have hnew : round v kq x = ⟨T + U, v.a, v.b, v.c, v.d + T, v.e, v.f, v.g⟩ := by rw [← hTT, ← hUU, ← hae, ← hbe]; rfl
                        have HNW := Lib.hid hnew
                        clear hnew hTT hUU hae hbe cK
                        go_upto_region 41 with fail
                        have f1 := wv_add T U
                        have f2 := wv_add' T U
                        have f3 := wv_add v.d T
                        have f4 := wv_add' v.d T
                        refine region_drew_tail 26 (by kernel_rfl) (by kernel_rfl) ?_
                        simp only [List.take_succ_cons, List.take_zero, List.drop_succ_cons, List.drop_zero]
                        repeat (go_big_quiet_step (fail))
                        refine wpQuiet_nil ?_
                        intro _ hw'
                        obtain ⟨nq, hw''⟩ := hw'
                        subst hw''
                        clear f1 f2 f3 f4
                        have hH6 := hH5.ext (.cons (rowA_loc _ _ _ _ _) (.cons (rowA_loc _ _ _ _ _) hlq)) ((Ext.refl w5).drewN nq)
                        clear c0 c1 c2 c3 c4 c5 c6 c7 hH5
                        generalize World.drewN w5 nq = w6 at *
                        obtain ⟨nst, hnst⟩ : ∃ s, s = (⟨T + U, v.a, v.b, v.c, v.d + T, v.e, v.f, v.g⟩ : St) := ⟨_, rfl⟩
                        have hrow := lit8_row w6 (T + U) v.a v.b v.c (v.d + T) v.e v.f v.g
                        rw [← hnst] at hrow
                        have hfr : rounds st ((keyL.zip S).take (i + 1)) = nst := by rw [HR.out, HNW.out, hnst]
                        have HFR := Lib.hid hfr
                        clear hfr hnst
                        have hH7 := hH6.drop.add (.cons (rowA_loc _ _ _ _ _) hlq) (ext_alloc w6 (.cells #[.int .u32 (wv (T + U)), .int .u32 (wv v.a), .int .u32 (wv v.b), .int .u32 (wv v.c), .int .u32 (wv (v.d + T)), .int .u32 (wv v.e), .int .u32 (wv v.f), .int .u32 (wv v.g)] 103)) (p := rowA 103 1 (.slice (some ⟨w6.heap.size, 0, none⟩) 8 8) 8 (u32s nst.list)) (F := fun k => (Value.slice (some ⟨w6.heap.size, 0, none⟩) 8 8).ownBlock = some k) ⟨hrow, rfl⟩ (fun k hk => Nat.le_of_eq (by simpa [Value.ownBlock] using hk))
                        clear hH6 hrow
                        go_wp2_with fail
                        refine ⟨⟨i + 1, w6.heap.size, 8, by omega, by go_num, rfl, ?_⟩, by simp [intOf]; omega⟩
                        dsimp only
                        rw [HFR.out]
                        exact hH7
                      · have hi' : i = 64 := by omega
                        subst hi'
                        rw [HRA.out] at hH
                        generalize rounds st (keyL.zip S) = v at *
                        subst hqs
                        have hH8 : Has w wr (WdA 103 gh st.list :: rowA 103 1 (.slice (some ⟨gv, 0, none⟩) 8 cv) 8 (u32s v.list) :: [blkA gk 103 kA, BdA 65 gr (zb 32)]) := hH.swap.drop.swap
                        clear hH
                        go_wp2_with fail
                        go_loopw [22] (fun k wr => S2Rel w gh st v (rowA 103 1 (.slice (some ⟨gv, 0, none⟩) 8 cv) 8 (u32s v.list)) [blkA gk 103 kA, BdA 65 gr (zb 32)] k wr) (fun k _ => (9 - intOf k).toNat)
                        case atStart => exact ⟨0, by omega, rfl, hH8⟩
                        case round =>
                          clear hH8
                          obtain ⟨i, hi, rfl, hH⟩ := hrel
                          by_cases gi : (i : Int) < 8
                          · skip
                            have hi8 : i < 8 := by omega
                            have LR : Locs [rowA 103 1 (.slice (some ⟨gv, 0, none⟩) 8 cv) 8 (u32s v.list), blkA gk 103 kA, BdA 65 gr (zb 32)] := .cons (rowA_loc _ _ _ _ _) (.cons (blkA_loc _ _ _) (.cons (BdA_loc _ _ _) .nil))
                            have c1 := (WdA_cell hH i (by rw [sumsTo_len st v i hi]; exact hi8)).1
                            have c2 := URow.cell hH.swap i hi8
                            rw [sumsTo_get st v i hi8] at c1
                            have hset := sumsTo_set st v i hi8
                            have hsl8 := sumsTo_len st v i hi
                            generalize st.list.getD i 0 = y at *
                            generalize v.list.getD i 0 = z at *
                            generalize hm0 : sumsTo st v i = m0 at *
                            have HSE := Lib.hid hset
                            clear hset hm0
                            go_upto_region 45 with fail
                            have fa := wv_add y z
                            have fb := wv_add' y z
                            refine region_drew_tail 10 (by kernel_rfl) (by kernel_rfl) ?_
                            simp only [List.take_succ_cons, List.take_zero, List.drop_succ_cons, List.drop_zero]
                            repeat (go_big_quiet_step (fail))
                            refine wpQuiet_nil ?_
                            intro _ hw'
                            obtain ⟨nq, hw''⟩ := hw'
                            subst hw''
                            clear fa fb
                            have hH2 := hH.ext (.cons (WdA_loc _ _ _) LR) ((Ext.refl wr).drewN nq)
                            clear hH c1 c2
                            generalize wr.drewN nq = w2 at *
                            obtain ⟨e1, e2⟩ := WdA_cell hH2 i (by rw [hsl8]; exact hi8)
                            have hH3 := WdA_put hH2 LR i (y + z)
                            rw [HSE.out] at hH3
                            clear hH2 hsl8
                            go_wp2_with fail
                            exact ⟨⟨i + 1, by omega, by go_num, hH3⟩, by simp [intOf]; omega⟩
                          · have hi' : i = 8 := by omega
                            subst hi'
                            have h8 : sumsTo st v 8 = (blocks s0 P (nb + 1)).list := by rw [HB.out, HBK.out]; rfl
                            rw [h8] at hH
                            clear h8
                            go_wp2_with fail
                            have hnb1 : nb + 1 ≤ NB := by have := HA.out; omega
                            have hat1 : ((64 * (nb + 1) : Nat) : Int) = (at_ : Int) + 64 := by have := HA.out; omega
                            have hH9 : Has w wr (HK gh gk gr (blocks s0 P (nb + 1)).list kA) := hH.swap.drop
                            clear hH
                            have hO : OLoop w gh gk gr s0 P kA NB (.int .i64 ((at_ : Int) + 64)) wr := ⟨nb + 1, hnb1, by rw [hat1], hH9⟩
                            clear hH9
                            refine ⟨hO, ?_⟩
                            simp only [intOf]
                            omega
          · as_aux_lemma =>
              skip
              have hnN : nb = NB := by omega
              subst hnN
              have hbl : (blocks s0 P nb).bytes.length = 32 := rfl
              generalize blocks s0 P nb = st at *
              have hB3 := Blk.new wr 65 (u8s (zb 32)).toArray
              have hH3 : Has w (wr.alloc (.cells (u8s (zb 32)).toArray 65)) (BdA 65 wr.heap.size (zb 32) :: HK gh gk gr st.list kA) := hH.add (HK_locs _ _ _ _ _) (ext_alloc wr (.cells (u8s (zb 32)).toArray 65)) (p := BdA 65 wr.heap.size (zb 32)) (F := fun k => k = wr.heap.size) ⟨Blk.new _ _ _, rfl⟩ (fun k hk => by omega)
              have hH4 := BdA_row (l' := bytesTo st 0) hH3 (HK_locs _ _ _ _ _)
              go_upto_region 47 with (refine wpList_store_row rfl _ _ _ rfl wr.heap.size (u8s (bytesTo st 0)).toArray rfl rfl _ _ hB3 (aSize rfl) rfl (u8s_oneAll _) ?_)
              refine gen_world' (fun X => Has w X (BdA 65 wr.heap.size (bytesTo st 0) :: HK gh gk gr st.list kA)) hH4 ?_
              clear hH3 hB3 hH4 hH hat
              intro w6 hH
              generalize wr.heap.size = go_ at *
              go_wp2_with fail
              go_loopw [24] (fun k wr => T1Rel w go_ st (HK gh gk gr st.list kA) k wr) (fun k _ => (9 - intOf k).toNat)
              case atStart => exact ⟨0, by omega, rfl, hH⟩
              case round =>
                clear hH
                obtain ⟨i, hi, rfl, hH⟩ := hrel
                by_cases gi : (i : Int) < 8
                · skip
                  have hi8 : i < 8 := by omega
                  obtain ⟨F, hF⟩ := hH.swap.head
                  have ch := hF.1.cell i
                  rw [List.getElem?_toArray, u32s_get st.list i hi8] at ch
                  have hset := setD_4 st i hi8
                  have hlen := bytesTo_len st i hi
                  generalize hy0 : st.list.getD i 0 = y at *
                  generalize bytesTo st i = b0 at *
                  have HSET := Lib.hid hset
                  clear hset hy0 hF
                  go_wp2_with fail
                  go_loopw [25, 26] (fun x k wr => T2Rel w go_ b0 i y (HK gh gk gr st.list kA) x k wr) (fun _ k _ => (intOf k + 2).toNat)
                  case atStart => exact ⟨0, by omega, by go_num, by simp [wv], hH⟩
                  case round =>
                    clear hH ch
                    obtain ⟨m, hm, rfl, rfl, hH⟩ := hrel
                    by_cases gm : (m : Int) < 4
                    · have hby := byteK y m (by omega)
                      have hsl : (setD b0 i y m).length = 32 := by rw [setD_len]; exact hlen
                      have hdv : y.toNat / 256 ^ (m + 1) = y.toNat / 256 ^ m / 256 := by rw [Nat.pow_succ, Nat.div_div_eq_div_mul]
                      obtain ⟨j, hj⟩ : ∃ j : Nat, j = 3 - m := ⟨_, rfl⟩
                      have hji : (3 : Int) - (m : Int) = (j : Int) := by omega
                      have hj2 : (3 : Int) - ((m + 1 : Nat) : Int) = (j : Int) - 1 := by omega
                      have hsd : setD b0 i y (m + 1) = (setD b0 i y m).set (4 * i + j) (byteOf y j) := by rw [hj]; rfl
                      rw [← hj] at hby
                      have hj3 : (j : Int) ≤ 3 := by omega
                      have hyl : y.toNat / 256 ^ m ≤ y.toNat := Nat.div_le_self _ _
                      have hyb : y.toNat / 256 ^ m < 4294967296 := Nat.lt_of_le_of_lt hyl y.isLt
                      obtain ⟨c0, d0⟩ := BdA_cell hH (4 * i + j) (by rw [hsl]; omega)
                      have hH2 := BdA_put hH (HK_locs _ _ _ _ _) (4 * i + j) (byteOf y j)
                      rw [← hsd] at hH2
                      have HDV := Lib.hid hdv
                      have HJ2 := Lib.hid hj2
                      rw [hji]
                      clear hj hdv hj2 hsd hyl hH hji hsl
                      generalize byteOf y j = bj at *
                      obtain ⟨q, hq⟩ : ∃ q, q = y.toNat / 256 ^ m := ⟨_, rfl⟩
                      rw [← hq] at hby hyb ⊢
                      have HQ := Lib.hid hq
                      clear hq
                      have hq9 : (q : Int) < 4294967296 := by omega
                      have hq0 : (0 : Int) ≤ (q : Int) := by omega
                      have hbj := u8_bd bj
                      generalize (setD b0 i y m).getD (4 * i + j) 0 = z at *
                      go_wp2_with fail
                      exact ⟨⟨m + 1, by omega, by rw [HJ2.out], by rw [HDV.out, ← HQ.out]; simp, hH2⟩, by simp only [intOf]; omega⟩
                    · have hm' : m = 4 := by omega
                      subst hm'
                      rw [HSET.out] at hH
                      generalize ((y.toNat / 256 ^ 4 : Nat) : Int) = y4 at *
                      go_wp2_with fail
                      exact ⟨⟨i + 1, by omega, by go_num, hH⟩, by simp [intOf]; omega⟩
                · have hi' : i = 8 := by omega
                  subst hi'
                  have h8 : bytesTo st 8 = st.bytes := rfl
                  rw [h8] at hH
                  have hls : st.bytes.length = 32 := rfl
                  have hsh : sha l = st.bytes := HSHA.out
                  have HSS := Lib.hid hsh
                  generalize st.bytes = bt at *
                  clear h8 hsh hbl
                  obtain ⟨F1, hF1⟩ := hH.head
                  have hB := hF1.1
                  have hHr : Has w wr (BdA 65 gr (zb 32) :: [BdA 65 go_ bt, WdA 103 gh st.list, blkA gk 103 kA]) := hH.perm (List.perm_append_comm (l₁ := [BdA 65 go_ bt, WdA 103 gh st.list, blkA gk 103 kA]) (l₂ := [BdA 65 gr (zb 32)]))
                  obtain ⟨F2, hF2⟩ := hHr.head
                  have hA := hF2.1
                  have hH2 := BdA_row (l' := bt) hHr (.cons (BdA_loc _ _ _) (.cons (WdA_loc _ _ _) (.cons (blkA_loc _ _ _) .nil)))
                  go_wp2_with (first
                    | (refine wpList_load_row rfl _ _ rfl go_ rfl _ _ _ _ hB Try.underlying65 rfl (aSize hls) ?_)
                    | (refine wpList_store_row rfl _ _ _ rfl gr (u8s bt).toArray rfl rfl _ _ hA (aSize hls) (by simp [zb, u8s, hls]) (u8s_oneAll _) ?_))
                  obtain ⟨F3, hF3⟩ := hH2.head
                  exact bodyPost_ret (v := smV bt) (results_cell_row Try.results30 _ _ _ _ _ _ _ rfl hF3.1 Try.underlying65 rfl (aSize hls)) rfl ⟨by rw [HSS.out], hH2.base⟩
end Go.Proofs.Ytkkhcpknldlpoaa
