/- A ring's Append. -/
import Derived.Test.YthghflfgldcmbaaROpen
import Derived.Laws.CopyRow
import Derived.Deep.DeepCutAuto
import Derived.Deep.CutBlock
namespace Go.Proofs.Ythghflfgldcmbaa
set_option maxRecDepth 4000
set_option linter.unusedVariables false
set_option linter.unusedSimpArgs false
open Go Go.RowKit
/-- a sector of bytes, with noughts behind them -/
def padTo (l : List UInt8) : List UInt8 := l ++ List.replicate (128 - l.length) 0
theorem padTo_length (l : List UInt8) (h : l.length ≤ 128) : (padTo l).length = 128 := by unfold padTo; rw [List.length_append, List.length_replicate]; omega
/-- bytes written sector by sector: the disk behind it, and the error -/
def DS.chunks (s : DS) (k : Nat) (al : List UInt8) : DS × Int :=
  if h : al = [] then (s, 0)
  else if s.writeE = 0 then (if al.length < 128 then (s.writeS (2 + k) (padTo (al.take 128)), 0) else DS.chunks (s.writeS (2 + k) (padTo (al.take 128))) (k + 1) (al.drop 128))
  else (s.writeS (2 + k) (padTo (al.take 128)), s.writeE)
termination_by al.length
decreasing_by
  rw [List.length_drop]
  have : al.length ≠ 0 := fun e => h (List.eq_nil_of_length_eq_zero e)
  omega
theorem DS.chunks_nil (s : DS) (k : Nat) : s.chunks k [] = (s, 0) := by rw [DS.chunks]; exact dif_pos rfl
theorem DS.chunks_err (s : DS) (k : Nat) (al : List UInt8) (h : al ≠ []) (hw : s.writeE ≠ 0) : s.chunks k al = (s.writeS (2 + k) (padTo (al.take 128)), s.writeE) := by rw [DS.chunks, dif_neg h, if_neg hw]
theorem DS.chunks_last (s : DS) (k : Nat) (al : List UInt8) (h : al ≠ []) (hw : s.writeE = 0) (hl : al.length < 128) : s.chunks k al = (s.writeS (2 + k) (padTo (al.take 128)), 0) := by rw [DS.chunks, dif_neg h, if_pos hw, if_pos hl]
theorem DS.chunks_more (s : DS) (k : Nat) (al : List UInt8) (h : al ≠ []) (hw : s.writeE = 0) (hl : ¬ al.length < 128) : s.chunks k al = (s.writeS (2 + k) (padTo (al.take 128))).chunks (k + 1) (al.drop 128) := by rw [DS.chunks, dif_neg h, if_pos hw, if_neg hl]
/-- the bytes behind the last whole sector -/
def tailR (al : List UInt8) : List UInt8 := al.drop (al.length / 128 * 128)
theorem tailR_small (al : List UInt8) (h : al.length < 128) : tailR al = al := by unfold tailR; rw [Nat.div_eq_of_lt h]; rfl
theorem tailR_drop (al : List UInt8) (h : 128 ≤ al.length) : tailR (al.drop 128) = tailR al := by
  unfold tailR
  rw [List.drop_drop, List.length_drop]
  congr 1
  omega
theorem copy_min {W : World} {v : Value} {n : Nat} {l : List UInt8} (h : W.ownsRow 0 5 1 v n (u8s l)) {a : Addr} {k cap c : Nat} {p : Option Addr} (hv : v = .slice p n c) {cs : List UInt8} (hcs : cs.length = min k n) (hp : p ≠ none) (hsrc : ∀ j u, (u8s cs)[j]? = some u → W.cell? (a.add j) = some u) :
    ∃ W', (∀ ty, (Builtin.copy_ #[36, 36] ty #[v, .slice (some a) k cap]).run Try.prog W = .ok (goInt (min k n : Nat)) W') ∧ W'.ownsRow 0 5 1 v n (u8s (cs ++ l.drop (min k n))) ∧ W.grownBy W' v.ownBlock := by
  have hl : l.length = n := by have := h.1; rw [u8s_length] at this; omega
  rcases h.2 with ⟨hv2, _⟩ | ⟨g, cap2, cur, hv2, h0, hg, hnc, hcm, hcz, htk⟩
  · rw [hv] at hv2; injection hv2 with e; exact absurd e hp
  · subst hv2
    have hlen : (u8s cs).length = min k n := by rw [u8s_length]; exact hcs
    have hmn : min k n ≤ n := Nat.min_le_right _ _
    refine ⟨W.setRow g (cur.toList.take 0 ++ u8s cs ++ cur.toList.drop (0 + (u8s cs).length)).toArray, fun ty => ?_, ?_, ?_⟩
    · have := run_copy_row (P := Try.prog) W 36 36 ty 5 g 0 n cap2 a k cap cur 5 (u8s cs) Try.underlying36 u8Size hg hlen hsrc (by rw [hlen, hcz]; omega) (u8s_one cs)
      rw [hlen] at this ⊢
      exact this
    · generalize min k n = m at *
      refine ⟨by rw [u8s_length, List.length_append, List.length_drop, hcs, hl]; omega, .inr ⟨g, cap2, _, rfl, Nat.zero_le _, setRow_heap W g cur _ 5 _ hg, hnc, hcm, ?_, ?_⟩⟩
      · simp only [List.size_toArray, List.length_append, List.length_take, List.length_drop, hlen, Array.length_toList]
        omega
      · simp only [Nat.mul_one] at htk ⊢
        rw [hlen, List.take_zero, List.nil_append, Nat.zero_add]
        have hcur : cur.toList.take n = u8s l := htk
        show (u8s cs ++ cur.toList.drop m).take n = _
        rw [List.take_append, hlen, u8s_append, List.take_of_length_le (by rw [hlen]; exact hmn), ← u8s_drop, ← hcur, List.drop_take]
    · exact ⟨rfl, rfl, rfl, by simp, fun j hj hne => setRow_other W g j _ (fun e => hne (by rw [e]; rfl))⟩
theorem fresh_grown {W X : World} {e : TypeId} {sz n : Nat} {v' : Value} {xs : List Value} (h1 : X.ownsRow 0 e sz v' n xs) (h2 : (W.alloc (.cells #[] e)).grownBy X (Value.slice (some ⟨W.heap.size, 0, none⟩) 0 0).ownBlock) (h3 : Fresh (W.alloc (.cells #[] e)) (.slice (some ⟨W.heap.size, 0, none⟩) 0 0) v') : Ext W X ∧ X.ownsRow W.heap.size e sz v' n xs := by
  refine ⟨(ext_alloc W _).grown h2 (by simp) (fun k hk => by simp [Value.ownBlock] at hk; omega), ownsRow_base h1 (fun k hk => ?_)⟩
  rcases h3.1 k hk with h | h
  · simp [Value.ownBlock] at h; omega
  · simp at h; omega
theorem dkH.pick {w W : World} {d : Nat} {s : DS} {l ps : List Asr} (h : dkH w W d s (l ++ ps)) (is : List Nat) (hp : is.isPerm (List.range l.length) = true) : dkH w W d s (pickA l is ++ ps) := by
  refine h.perm (List.Perm.append_right ps ?_)
  have h1 := (List.isPerm_iff.1 hp).map (fun i => l.getD i (fun _ _ => False))
  rw [map_range_getD] at h1
  exact h1.symm
/-- the ring and its rest beside a disk -/
def rgL (g d T : Nat) (pr : Option Addr) (rc : Nat) (R : List UInt8) (ps : List Asr) : List Asr := ringA g d T (.slice pr R.length rc) :: viewA pr rc R :: ps
theorem rgL_locs {g d T : Nat} {pr : Option Addr} {rc : Nat} {R : List UInt8} {ps : List Asr} (h : Locs ps) : Locs (rgL g d T pr rc R ps) := .cons (ringA_loc _ _ _ _) (.cons (viewA_loc _ _ _) h)
def RaRel1 (W : World) (ps : List (List UInt8)) (vn vi : Value) (wr : World) : Prop :=
  ∃ i : Nat, i ≤ ps.length ∧ vi = .int .i64 i ∧ vn = .int .i64 ((ps.take i).flatten.length : Nat) ∧ wr = W
def RaRel2 (w : World) (d : Nat) (s : DS) (L : List Asr) (R : List UInt8) (ps : List (List UInt8)) (va vi : Value) (wr : World) : Prop :=
  ∃ (i : Nat) (pa : Option Addr) (ca : Nat), i ≤ ps.length ∧ vi = .int .i64 i ∧ va = .slice pa (R ++ (ps.take i).flatten).length ca ∧ dkH w wr d s (rowA 5 1 (.slice pa (R ++ (ps.take i).flatten).length ca) (R ++ (ps.take i).flatten).length (u8s (R ++ (ps.take i).flatten)) :: L)
def lenV : Value → Nat
  | .slice _ n _ => n
  | _ => 0
def ChRel (w : World) (d : Nat) (s : DS) (L : List Asr) (k0 E : Nat) (al0 : List UInt8) (va vt : Value) (wr : World) : Prop :=
  ∃ (s1 : DS) (k : Nat) (pa : Option Addr) (ca : Nat) (al : List UInt8), va = .slice pa al.length ca ∧ vt = .int .u64 ((128 * k : Nat) : Int) ∧ s.chunks k0 al0 = s1.chunks k al ∧ tailR al0 = tailR al ∧ 128 * k + al.length = E ∧ s1.n = 194 ∧ dkH w wr d s1 (viewA pa ca al :: L)
theorem DS.writeS_n (s : DS) (i : Nat) (b : List UInt8) : (s.writeS i b).n = s.n := by
  unfold DS.writeS
  split
  · rfl
  · split
    · exact s.burnt_n
    · exact s.burnt_n
theorem padTo_take (al : List UInt8) : al.take 128 ++ (List.replicate 128 (0 : UInt8)).drop (min al.length 128) = padTo (al.take 128) := by
  unfold padTo
  rw [List.drop_replicate, List.length_take, Nat.min_comm]
theorem slice_fromV (X : World) (a : Addr) (n c l : Nat) (hln : l ≤ n) (hnc : n ≤ c) : ∃ a', (Instr.sliceAt 36 (.slice (some a) n c) (some (.int .i64 l)) none none).run Try.prog X = .ok (.slice (some a') (n - l) (c - l)) X ∧ (a' = a ∧ c = l ∨ a' = a.add l ∧ l < c) := by
  have ht : Try.prog.underlying 36 = some (.slice (Try.prog.elem 36)) := by kernel_rfl
  have hs : (sizeOf (Try.prog.elem 36)).run Try.prog X = .ok 1 X := by kernel_rfl
  rw [run_sliceAt_slice (w := X) _ _ _ _ _ ht, run_slice_l (w := X) _ (some a) n c ht .i64 l (by omega) (by omega), hs]
  simp only [sliced, Result.andThen, Int.toNat_natCast, Nat.mul_one]
  by_cases h : c = l
  · rw [if_pos h]; exact ⟨a, rfl, Or.inl ⟨rfl, h⟩⟩
  · rw [if_neg h]; exact ⟨a.add l, rfl, Or.inr ⟨rfl, by omega⟩⟩
theorem Has.viewDrop {w W : World} {ps : List Asr} {a a' : Addr} {c : Nat} {l : List UInt8} {k : Nat} (h : Has w W (viewA (some a) c l :: ps)) (hl : Locs ps) (hk : k ≤ l.length) (ha : a' = a ∧ c = k ∨ a' = a.add k ∧ k < c) : Has w W (viewA (some a') (c - k) (l.drop k) :: ps) :=
  h.next hl fun F hF => by
    obtain ⟨hv, rfl⟩ := hF
    obtain ⟨h1, o, h2, h3⟩ := hv.at_ a rfl
    have hle := hv.le
    have hp : a' = ⟨a.block, a'.off, none⟩ ∧ a'.block = a.block ∧ View W (some a') (c - k) (l.drop k) := by
      rcases ha with ⟨rfl, rfl⟩ | ⟨rfl, hc⟩
      · have hl0 : l.drop c = [] := List.drop_eq_nil_of_le (by omega)
        rw [hl0, Nat.sub_self]
        refine ⟨by rw [h2], rfl, ⟨(fun h => by cases h), fun b hb => ?_, Nat.le_refl _, by unfold maxLen; omega⟩⟩
        injection hb with hb
        subst hb
        exact ⟨h1, o, h2, fun i hi => by simp at hi⟩
      · have e : a.add k = ⟨a.block, o + k, none⟩ := by rw [h2, Go.WideShapes.add_plain]
        rw [e]
        refine ⟨rfl, rfl, ?_⟩
        have hv2 : View W (some ⟨a.block, o, none⟩) c l := by rw [← h2]; exact hv
        exact hv2.drop k hk
    refine Next.mk (F' := fun j => ∃ b, some a' = some b ∧ b.block = j) ⟨hp.2.2, rfl⟩ (Tch.refl _ _) (fun j hj => Or.inl ?_)
    obtain ⟨b, hb, rfl⟩ := hj
    injection hb with hb
    subst hb
    exact ⟨a, rfl, hp.2.1.symm⟩
def ChCut (w : World) (d : Nat) (s : DS) (L : List Asr) (k0 : Nat) (al0 : List UInt8) (va : Value) (wr : World) : Prop :=
  ∃ (s1 : DS) (pa : Option Addr) (ca : Nat), va = .slice pa (tailR al0).length ca ∧ (tailR al0).length < 128 ∧ s.chunks k0 al0 = (s1, 0) ∧ dkH w wr d s1 (viewA pa ca (tailR al0) :: L)
def RaOut (w W' : World) (d : Nat) (s : DS) (g T : Nat) (pr : Option Addr) (rc : Nat) (R P : List UInt8) (ps : List Asr) (e : Ending) : Prop :=
  (24576 - T < P.length ∧ e = .returned (.int .i64 3) ∧ dkH w W' d s (rgL g d T pr rc R ps)) ∨
  (P.length ≤ 24576 - T ∧ ∃ s' z, s.chunks (T / 128) (R ++ P) = (s', z) ∧ e = .returned (.int .i64 z) ∧ (z ≠ 0 → dkH w W' d s' (rgL g d T pr rc R ps)) ∧ (z = 0 → ∃ p' c', dkH w W' d s' (rgL g d (T + P.length) p' c' (tailR (R ++ P)) ps)))
set_option maxHeartbeats 4000000 in
theorem rappend_any {w W : World} {d : Nat} {s : DS} {ps : List Asr} {g T : Nat} {pr : Option Addr} {rc : Nat} {R : List UInt8} (h : dkH w W d s (rgL g d T pr rc R ps)) (hl : Locs ps) (hn : s.n = 194) (hT : T ≤ 24576) (hR : R.length = T % 128)
    (pp : Option Addr) (cp : Nat) (parts : List (List UInt8)) (hP : ∀ X, Has w X ps → PartsIn X pp parts) (hsum : parts.flatten.length ≤ 24576) (hpos : 0 < parts.flatten.length) (hpl : parts.length ≤ 100) :
    Calls Try.prog 35 #[.pointer (some ⟨g, 0, none⟩), .int .u64 0, .slice pp parts.length cp] W fun e W' => RaOut w W' d s g T pr rc R parts.flatten ps e := by
  obtain ⟨i0, hi0, hz0, hz1, hz2⟩ := info_parts u8Info
  have hring : Ring W g d T (.slice pr R.length rc) := h.rest.blk0
  have hpl2 : (parts.length : Int) ≤ 100 := by omega
  have H := Lib.hid h
  have hRl : R.length < 128 := by omega
  have hRT : R.length ≤ T := by omega
  have HRT := Lib.hid hR
  clear h hR
  go_enter Try.func35, Try.ntmps35
  go_wp2_with fail
  go_loopw [7, 19] (fun vn vi wr => RaRel1 W parts vn vi wr) (fun _ vi _ => ((parts.length : Int) + 1 - intOf vi).toNat)
  case atStart => exact ⟨0, Nat.zero_le _, rfl, rfl, rfl⟩
  case round =>
    obtain ⟨i, hi, rfl, rfl, rfl⟩ := hrel
    by_cases gi : (i : Int) < parts.length
    · obtain ⟨b, o, rfl, hb, q, cq, hc, hN, hn2, hc1, hc2⟩ := hP _ H.out.rest.drop.drop i (by omega)
      have hfl : (parts.take (i + 1)).flatten.length = (parts.take i).flatten.length + (parts[i]'(by omega)).length := by rw [List.take_succ_eq_append_getElem (by omega), List.flatten_append, List.length_append]; simp
      have hle : (parts.take (i + 1)).flatten.length ≤ 24576 := by
        have : (parts.take (i + 1)).flatten.length + (parts.drop (i + 1)).flatten.length = parts.flatten.length := by
          rw [← List.length_append, ← List.flatten_append, List.take_append_drop]
        omega
      have HF := Lib.hid hfl
      rw [hfl] at hle
      generalize (parts[i]'(by omega)).length = m at *
      generalize (parts.take i).flatten.length = t at *
      have hle2 : ¬ (24576 : Int) < (t : Int) + m := by omega
      clear hfl hle hN hn2 hc1 hc2
      go_wp2_with fail
      refine (size_any hring).mono ?_
      rintro e W2 ⟨rfl, rfl⟩
      go_wp2_with fail
      exact ⟨⟨i + 1, by omega, by go_num, by rw [HF.out]; go_num, rfl⟩, by simp [intOf]; omega⟩
    · have hi2 : i = parts.length := by omega
      subst hi2
      rw [List.take_length]
      obtain ⟨P, hP2⟩ : ∃ P, parts.flatten = P := ⟨_, rfl⟩
      have hs2 : P.length ≤ 24576 := by rw [← hP2]; exact hsum
      have hp2 : 0 < P.length := by rw [← hP2]; exact hpos
      rw [hP2]
      clear hsum hpos
      have HPP := Lib.hid hP2
      clear hP2
      go_upto_block 2 with fail
      by_cases gl : (24576 : Int) - T < P.length
      · go_wp2_with fail
        refine (left_any hring hT).mono ?_
        rintro e W2 ⟨rfl, rfl⟩
        go_wp2_with fail
        go_ret
        exact Or.inl ⟨by rw [HPP.out]; omega, rfl, H.out⟩
      · have hp1 : ((P.length : Int) == 0) = false := by
          have : (P.length : Int) ≠ 0 := by omega
          simpa using this
        go_wp2_with fail
        refine (left_any hring hT).mono ?_
        rintro e W2 ⟨rfl, rfl⟩
        go_upto_region 13 with fail
        have rc4 : World.cell? (wr.alloc (.cells #[] 5)) ⟨g, 4, none⟩ = some (.slice pr R.length rc) := ((ext_alloc wr (.cells #[] 5)).cell g 4 hring.lt).trans (Blk.cell hring 4)
        have hlit := World.ownsRow_made (base := 0) (e := 5) (size := 1) wr #[] 0 (Nat.zero_le _) (by simp) rfl
        obtain ⟨F, hF⟩ := H.out.rest.drop.head
        have hV := hF.1.ext (ext_alloc wr (.cells #[] 5))
        clear hF
        go_wp2_with (at_builtin; refine wpList_append_new rfl _ _ 36 rfl 5 i0 (.int .u8 0) 1 1 Try.underlying36 hi0 hz0 hz1 hz2 rfl (by decide) _ 0 [] rfl hlit pr R.length rc (u8s R) rfl (by rw [u8s_length, Nat.mul_one]) hV.nil_ hV.news (u8s_one R) (by unfold maxLen; omega) (by omega) ?_)
        intro v' w3 hown3 hg3 hf3
        obtain ⟨pa, ca, rfl⟩ := ownsRow_slice hown3
        obtain ⟨hE3, hown4⟩ := fresh_grown hown3 hg3 hf3
        have h2 := H.out.fresh (rgL_locs hl) hE3 hown4
        have hring3 : Ring w3 g d T (.slice pr R.length rc) := h2.rest.drop.blk0
        have rc3 : World.cell? w3 ⟨g, 3, none⟩ = some (.int .u64 T) := Blk.cell hring3 3
        clear hown3 hg3 hf3 hlit hown4 hE3 hV rc4 hring hring3
        have hTR : (T : Int) - R.length = ((T / 128 * 128 : Nat) : Int) := by have := HRT.out; omega
        go_upto_region 15 with fail
        clear rc3
        go_wp2_with fail
        go_loopw [10, 57] (fun va vi wx => RaRel2 w d s (rgL g d T pr rc R ps) R parts va vi wx) (fun _ vi _ => ((parts.length : Int) + 1 - intOf vi).toNat)
        case atStart => exact ⟨0, pa, ca, Nat.zero_le _, rfl, by simp, by simpa using h2⟩
        case round =>
          clear h2
          obtain ⟨i, pa, ca, hi, rfl, rfl, h2⟩ := hrel
          by_cases gi : (i : Int) < parts.length
          · obtain ⟨b, o, rfl, hb, q, cq, hc, hN, hn2, hc1, hc2⟩ := hP _ h2.rest.drop.drop.drop i (by omega)
            have hfl : R ++ (parts.take (i + 1)).flatten = (R ++ (parts.take i).flatten) ++ (parts[i]'(by omega)) := by rw [List.take_succ_eq_append_getElem (by omega), List.flatten_append, List.append_assoc]; simp
            have hle : (R ++ (parts.take (i + 1)).flatten).length ≤ 24704 := by
              have : (parts.take (i + 1)).flatten.length + (parts.drop (i + 1)).flatten.length = parts.flatten.length := by
                rw [← List.length_append, ← List.flatten_append, List.take_append_drop]
              rw [HPP.out] at this
              rw [List.length_append]
              omega
            rw [hfl, List.length_append] at hle
            have HF := Lib.hid hfl
            clear hfl hP
            generalize (parts[i]'(by omega)) = B at *
            generalize R ++ (parts.take i).flatten = A at *
            have hown := h2.rest.row0
            have hnews := news_at hN
            go_wp2_with (at_builtin; go_loud (refine wpList_append_new rfl _ _ 36 rfl 5 i0 (.int .u8 0) 1 1 Try.underlying36 hi0 hz0 hz1 hz2 rfl (by decide) _ A.length (u8s A) rfl hown q B.length cq (u8s B) rfl (by rw [u8s_length, Nat.mul_one]) hn2 hnews (u8s_one B) (by unfold maxLen; omega) (by omega) ?_))
            intro v' w6 hown6 hg6 hf6
            obtain ⟨p2, c2, rfl⟩ := ownsRow_slice hown6
            rw [← u8s_append] at hown6
            have h3 := h2.turn (q := rowA 5 1 (.slice p2 (A.length + B.length) c2) (A.length + B.length) (u8s (A ++ B))) (fun hl h => h.grow hl hown6 hg6 hf6) (rgL_locs hl)
            clear h2 hown hnews hown6 hg6 hf6 hN hn2 hc1 hc2
            go_wp2_with fail
            refine ⟨⟨i + 1, p2, c2, by omega, by go_num, ?_, ?_⟩, by simp [intOf]; omega⟩
            · rw [HF.out, List.length_append]
            · rw [HF.out, List.length_append]; exact h3
          · have hi2 : i = parts.length := by omega
            subst hi2
            rw [List.take_length, HPP.out] at h2 ⊢
            clear hP
            have h3 : dkH w wr d s (viewA pa ca (R ++ P) :: rgL g d T pr rc R ps) := h2.turn (fun hl h => h.viewRow hl) (rgL_locs hl)
            clear h2
            obtain ⟨E, hE⟩ : ∃ E, T + P.length = E := ⟨_, rfl⟩
            have hEl : 128 * (T / 128) + (R ++ P).length = E := by rw [List.length_append, HRT.out]; omega
            have hE2 : E ≤ 24576 := by omega
            have HE := Lib.hid hE
            clear hE
            go_upto_block 5 with fail
            go_cut [10] (fun va wx => ChCut w d s (rgL g d T pr rc R ps) (T / 128) (R ++ P) va wx)
            case first =>
              go_wp2_with fail
              go_loopw [10, 11] (fun va vt wx => ChRel w d s (rgL g d T pr rc R ps) (T / 128) E (R ++ P) va vt wx) (fun va _ _ => lenV va)
              case atStart => exact ⟨s, T / 128, pa, ca, R ++ P, by rw [List.length_append], by go_num, rfl, rfl, hEl, hn, h3⟩
              case round =>
                clear h3 hEl
                obtain ⟨s1, k, pa, ca, al, rfl, rfl, hch, htl, hkE, hn1, h3⟩ := hrel
                by_cases gz : (0 : Int) < al.length
                · have hal : al ≠ [] := fun e => by rw [e] at gz; exact absurd gz (by decide)
                  have hk192 : k < 192 := by omega
                  have HCH := Lib.hid hch
                  have HTL := Lib.hid htl
                  have HKE := Lib.hid hkE
                  have HAL := Lib.hid hal
                  clear hch htl hal
                  have LC : Locs (viewA pa ca al :: rgL g d T pr rc R ps) := .cons (viewA_loc _ _ _) (rgL_locs hl)
                  have hmk : (Instr.makeSlice 36 (.int .i64 128) (.int .i64 128)).run Try.prog wr = .ok (.slice (some ⟨wr.heap.size, 0, none⟩) 128 128) (wr.alloc (.cells (zrow 128) 5)) := make_bytes wr 128 (by omega)
                  go_upto_region 22 with fail
                  clear hmk
                  have h4 := h3.fresh LC (ext_alloc wr (.cells (zrow 128) 5)) (zrow_own wr 128 (by unfold maxLen; omega))
                  clear h3
                  generalize wr.alloc (.cells (zrow 128) 5) = w2 at *
                  generalize wr.heap.size = gb at *
                  obtain ⟨F, hF⟩ := h4.rest.drop.head
                  have hV := hF.1
                  clear hF
                  obtain ⟨a, rfl⟩ : ∃ a, pa = some a := by
                    cases pa with
                    | none => have := (hV.nil_ rfl).1; omega
                    | some a => exact ⟨a, rfl⟩
                  have hVt := hV.take (al.take 128).length ca (by rw [List.length_take]; omega) (by have := hV.le; rw [List.length_take]; omega) hV.cap (fun h => by cases h)
                  rw [show al.take (al.take 128).length = al.take 128 by rw [List.length_take, ← List.take_eq_take_min]] at hVt
                  have hown := h4.rest.row0
                  obtain ⟨w3, hcp, hown3, hg3⟩ := copy_min hown (a := a) (k := al.length) (cap := ca) rfl (cs := al.take 128) (by rw [List.length_take, Nat.min_comm]) (by simp) (hVt.news a rfl)
                  rw [padTo_take] at hown3
                  have h5 : dkH w w3 d s1 (rowA 5 1 (.slice (some ⟨gb, 0, none⟩) 128 128) 128 (u8s (padTo (al.take 128))) :: viewA (some a) ca al :: rgL g d T pr rc R ps) := h4.turn (fun hl h => h.grow hl hown3 hg3 (Fresh.refl _ _)) LC
                  clear h4 hown hown3 hg3 hVt
                  obtain ⟨m, hm⟩ : ∃ m, min al.length 128 = m := ⟨_, rfl⟩
                  have hgi : ∀ x : Nat, goInt x = .int .i64 x := fun _ => rfl
                  rw [hm, hgi] at hcp
                  go_upto_region 23 with fail
                  clear hcp
                  have L5 : Locs (rowA 5 1 (.slice (some ⟨gb, 0, none⟩) 128 128) 128 (u8s (padTo (al.take 128))) :: viewA (some a) ca al :: rgL g d T pr rc R ps) := .cons (rowA_loc _ _ _ _ _) LC
                  have hring : Ring w3 g d T (.slice pr R.length rc) := h5.rest.drop.drop.blk0
                  have d0 : ∀ x : Of (fun X => Ring X g d T (.slice pr R.length rc)), x.val.cell? ⟨g, 0, none⟩ = some (.pointer (some ⟨d, 0, none⟩)) := fun x => Blk.cell x.property 0
                  have hFd := (show Ring w3.drew g d T (.slice pr R.length rc) from hring)
                  have hne_ : Nonempty (Of ((fun X => Ring X g d T (.slice pr R.length rc)))) := ⟨⟨_, hFd⟩⟩
                  refine region_steps [0,1,2,3,4,5,7,6,8,9] [true,true,true,true,true,true,true,false,false,true] ((fun X => Ring X g d T (.slice pr R.length rc))) (by kernel_rfl) (by kernel_rfl) hFd ?_
                  simp only [List.filterMap_cons, List.filterMap_nil, List.getElem?_cons_zero, List.getElem?_cons_succ]
                  have h6 := h5.ext L5 (Ext.refl w3).drew
                  refine steps_quiet 7 (by kernel_rfl) ?_
                  simp only [List.take_succ_cons, List.take_zero, List.drop_succ_cons, List.drop_zero]
                  repeat (go_big_quiet_step (fail))
                  refine wpQuiet_nil ?_
                  clear hring h5 d0
                  generalize World.drew w3 = w4 at *
                  refine steps_want rfl (fun K hK => ?_)
                  go_simp
                  refine (sector_any hFd (128 * k) (by omega)).mono ?_
                  rintro e w5 ⟨rfl, hE5⟩
                  rw [show 2 + 128 * k / 128 = 2 + k by omega]
                  have h7 := h6.ext L5 hE5
                  clear h6
                  refine hK _ _ (fun X => Ring X g d T (.slice pr R.length rc)) h7.rest.drop.drop.blk0 (fun _ h => h) ?_
                  clear hK K hE5
                  (try simp only [Act.put, List.setIfInBounds_toArray, List.set_cons_succ, List.set_cons_zero])
                  have hwr := write_any h7 L5 (2 + k) (by omega) (padTo_length (al.take 128) (by rw [List.length_take]; omega)) (a := ⟨gb, 0, none⟩) (c := 128) (by simp)
                  refine steps_want rfl (fun K hK => ?_)
                  go_simp
                  refine hwr.mono ?_
                  rintro e w6 ⟨rfl, h8⟩
                  clear hwr h7
                  refine hK _ _ (fun X => Ring X g d T (.slice pr R.length rc)) h8.rest.drop.drop.blk0 (fun _ h => h) ?_
                  clear hK K hFd
                  (try simp only [Act.put, List.setIfInBounds_toArray, List.set_cons_succ, List.set_cons_zero])
                  refine steps_quiet 1 (by kernel_rfl) ?_
                  simp only [List.take_succ_cons, List.take_zero, List.drop_succ_cons, List.drop_zero]
                  repeat (go_big_quiet_step (fail))
                  refine wpQuiet_nil ?_
                  refine steps_nil ?_
                  have h9 := h8.drop
                  clear h8
                  have hn2 : (s1.writeS (2 + k) (padTo (al.take 128))).n = 194 := by rw [DS.writeS_n]; exact hn1
                  obtain ⟨s2, hs2⟩ : ∃ s2, s1.writeS (2 + k) (padTo (al.take 128)) = s2 := ⟨_, rfl⟩
                  obtain ⟨we, hwe⟩ : ∃ we, s1.writeE = we := ⟨_, rfl⟩
                  rw [hs2] at h9 hn2
                  rw [hwe]
                  have HS2 := Lib.hid hs2
                  have HWE := Lib.hid hwe
                  clear hs2 hwe
                  by_cases hw0 : we = 0
                  · have hwq : (we == 0) = true := by simpa using hw0
                    have HW0 := Lib.hid (HWE.out.trans hw0)
                    clear hw0
                    by_cases hm128 : (m : Int) < 128
                    · have hal128 : al.length < 128 := by omega
                      clear hm
                      go_wp2_with fail
                      go_meet
                      have e := DS.chunks_last s1 k al HAL.out HW0.out hal128
                      rw [HS2.out] at e
                      have et : tailR (R ++ P) = al := by rw [HTL.out, tailR_small al hal128]
                      exact ⟨s2, some a, ca, by rw [et], by rw [et]; exact hal128, HCH.out.trans e, by rw [et]; exact h9⟩
                    · have hal128 : 128 ≤ al.length := by omega
                      obtain ⟨F, hF⟩ := h9.rest.head
                      have hle := hF.1.le
                      obtain ⟨a', hsl, ha'⟩ := slice_fromV w6 a al.length ca 128 hal128 hle
                      have hm2 : m = 128 := by omega
                      clear hm hF
                      subst hm2
                      replace hsl : (Instr.sliceAt 36 (.slice (some a) al.length ca) (some (.int .i64 128)) none none).run Try.prog w6 = .ok (.slice (some a') (al.length - 128) (ca - 128)) w6 := hsl
                      go_wp2_with fail
                      have e := DS.chunks_more s1 k al HAL.out HW0.out (by omega)
                      rw [HS2.out] at e
                      have hln : (al.drop 128).length = al.length - 128 := List.length_drop
                      have h10 : dkH w w6 d s2 (viewA (some a') (ca - 128) (al.drop 128) :: rgL g d T pr rc R ps) := h9.turn (fun hl h => h.viewDrop hl hal128 ha') (rgL_locs hl)
                      exact ⟨⟨s2, k + 1, some a', ca - 128, al.drop 128, by rw [hln], by go_num, HCH.out.trans e, by rw [tailR_drop al hal128]; exact HTL.out, by rw [hln]; have := HKE.out; omega, hn2, h10⟩, by simp [lenV]; omega⟩
                  · have hwq : (we == 0) = false := by simpa using hw0
                    go_wp2_with fail
                    go_ret
                    have e := DS.chunks_err s1 k al HAL.out (by rw [HWE.out]; exact hw0)
                    rw [HS2.out, HWE.out] at e
                    refine Or.inr ⟨by rw [HPP.out]; omega, s2, we, by rw [HPP.out]; exact HCH.out.trans e, rfl, fun _ => h9.drop, fun h => absurd h hw0⟩
                · have hnil : al = [] := List.eq_nil_of_length_eq_zero (by omega)
                  subst hnil
                  go_wp2_with fail
                  go_meet
                  rw [DS.chunks_nil] at hch
                  exact ⟨s1, pa, ca, by rw [htl]; rfl, by rw [htl]; decide, hch, by rw [htl]; exact h3⟩
            case rest =>
              clear h3 hEl
              obtain ⟨s1, pa, ca, rfl, htl, hch, h3⟩ := hcut
              obtain ⟨al, hal⟩ : ∃ al, tailR (R ++ P) = al := ⟨_, rfl⟩
              rw [hal] at htl h3 ⊢
              have HAL := Lib.hid hal
              have HCH := Lib.hid hch
              clear hal hch
              have h4 : dkH w wc d s1 (ringA g d T (.slice pr R.length rc) :: viewA pa ca al :: viewA pr rc R :: ps) := h3.perm (List.Perm.swap _ _ _)
              have hring : Ring wc g d T (.slice pr R.length rc) := h4.rest.blk0
              have rc3 : World.cell? wc ⟨g, 3, none⟩ = some (.int .u64 T) := Blk.cell hring 3
              have f3 := Blk.frozen hring 3
              have hTE : (T : Int) + P.length = E := by have := HE.out; omega
              have L4 : Locs (viewA pa ca al :: viewA pr rc R :: ps) := .cons (viewA_loc _ _ _) (.cons (viewA_loc _ _ _) hl)
              have h5 : dkH w (wc.setCell ⟨g, 3, none⟩ (.int .u64 E)) d s1 (ringA g d E (.slice pr R.length rc) :: viewA pa ca al :: viewA pr rc R :: ps) := h4.turn (fun hl h => h.set hl 3 (.int .u64 E)) L4
              clear h3 h4 hring
              go_upto_region 29 with fail
              clear rc3 f3
              generalize World.setCell _ _ _ = w2 at *
              have hring2 : Ring w2 g d E (.slice pr R.length rc) := h5.rest.blk0
              have hlit := World.ownsRow_made (base := 0) (e := 5) (size := 1) w2 #[] 0 (Nat.zero_le _) (by simp) rfl
              obtain ⟨F, hF⟩ := h5.rest.drop.head
              have hV := hF.1.ext (ext_alloc w2 (.cells #[] 5))
              clear hF
              go_wp2_with (at_builtin; go_loud (refine wpList_append_new rfl _ _ 36 rfl 5 i0 (.int .u8 0) 1 1 Try.underlying36 hi0 hz0 hz1 hz2 rfl (by decide) _ 0 [] rfl hlit pa al.length ca (u8s al) rfl (by rw [u8s_length, Nat.mul_one]) hV.nil_ hV.news (u8s_one al) (by unfold maxLen; omega) (by omega) ?_))
              intro v' w3 hown3 hg3 hf3
              obtain ⟨p2, c2, rfl⟩ := ownsRow_slice hown3
              obtain ⟨hE3, hown4⟩ := fresh_grown hown3 hg3 hf3
              have h6 := (h5.fresh (.cons (ringA_loc _ _ _ _) L4) hE3 hown4)
              have h7 : dkH w w3 d s1 (viewA p2 c2 al :: ringA g d E (.slice pr R.length rc) :: viewA pa ca al :: viewA pr rc R :: ps) := h6.turn (fun hl h => h.viewRow hl) (.cons (ringA_loc _ _ _ _) L4)
              have h8 : dkH w w3 d s1 (ringA g d E (.slice pr R.length rc) :: viewA p2 c2 al :: ps) := (dkH.pick (l := [viewA p2 c2 al, ringA g d E (.slice pr R.length rc), viewA pa ca al, viewA pr rc R]) h7 [2, 3, 1, 0] (by rfl)).drop.drop
              have hring3 : Ring w3 g d E (.slice pr R.length rc) := h8.rest.blk0
              have f4 := Blk.frozen hring3 4
              have c4 := Blk.cell hring3 4
              have h9 : dkH w (w3.setCell ⟨g, 4, none⟩ (.slice p2 al.length c2)) d s1 (ringA g d E (.slice p2 al.length c2) :: viewA p2 c2 al :: ps) := h8.turn (fun hl h => h.set hl 4 (.slice p2 al.length c2)) (.cons (viewA_loc _ _ _) hl)
              clear h5 h6 h7 h8 hown3 hg3 hf3 hE3 hown4 hlit hV hring2 hring3
              go_wp2_with fail
              go_ret
              refine Or.inr ⟨by rw [HPP.out]; omega, s1, 0, by rw [HPP.out]; exact HCH.out, rfl, fun h => absurd rfl h, fun _ => ⟨p2, c2, ?_⟩⟩
              rw [HPP.out, HE.out, HAL.out]
              exact h9
end Go.Proofs.Ythghflfgldcmbaa
