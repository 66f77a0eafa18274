/- mark.bytes: a mark's sector. -/
import Derived.Test.YthghflfgldcmbaaMRead
import Derived.Test.YthghflfgldcmbaaDNew
namespace Go.Proofs.Ythghflfgldcmbaa
set_option maxRecDepth 4000
set_option linter.unusedVariables false
set_option linter.unusedSimpArgs false
open Go Go.RowKit Go.MapKept Go.ChangeMaps
def byteOf (n j : Nat) : UInt8 := UInt8.ofNat (n / 2 ^ (8 * j))
/-- a mark's bytes -/
def halfM (M : Nat → Nat) : List UInt8 := (List.range 56).map fun t => byteOf (M (t / 8)) (t % 8)
theorem halfM_length (M : Nat → Nat) : (halfM M).length = 56 := by simp [halfM]
/-- a mark's sector: it, it once more, and noughts -/
def bytesM (M : Nat → Nat) : List UInt8 := halfM M ++ (halfM M ++ List.replicate 16 0)
theorem bytesM_length (M : Nat → Nat) : (bytesM M).length = 128 := by simp [bytesM, halfM_length]
theorem bytesM_at (M : Nat → Nat) {k i j : Nat} (hk : k < 2) (hi : i < 7) (hj : j < 8) : (bytesM M)[56 * k + 8 * i + j]? = some (byteOf (M i) j) := by
  have h0 : (halfM M)[8 * i + j]? = some (byteOf (M i) j) := by
    unfold halfM
    rw [List.getElem?_map, List.getElem?_range (by omega)]
    simp only [Option.map_some]
    rw [show (8 * i + j) / 8 = i by omega, show (8 * i + j) % 8 = j by omega]
  unfold bytesM
  rcases (show k = 0 ∨ k = 1 by omega) with rfl | rfl
  · rw [List.getElem?_append_left (by rw [halfM_length]; omega), show 56 * 0 + 8 * i + j = 8 * i + j by omega, h0]
  · rw [List.getElem?_append_right (by rw [halfM_length]; omega), halfM_length, List.getElem?_append_left (by rw [halfM_length]; omega), show 56 * 1 + 8 * i + j - 56 = 8 * i + j by omega, h0]
/-- so many bytes of it laid, the others noughts -/
def rowT (l : List UInt8) (T : Nat) : List UInt8 := l.take T ++ List.replicate (128 - T) 0
theorem rowT_length (l : List UInt8) (T : Nat) (hl : l.length = 128) (hT : T ≤ 128) : (rowT l T).length = 128 := by simp [rowT, hl]; omega
theorem rowT_set (l : List UInt8) (T : Nat) (x : UInt8) (hl : l.length = 128) (hx : l[T]? = some x) : (rowT l T).set T x = rowT l (T + 1) := by
  have hT : T < 128 := by rw [← hl]; exact (List.getElem?_eq_some_iff.1 hx).1
  unfold rowT
  have hlen : (l.take T).length = T := by rw [List.length_take]; omega
  rw [List.set_append_right _ _ (by omega), hlen, Nat.sub_self]
  rw [show 128 - T = (128 - (T + 1)) + 1 by omega, List.replicate_succ, List.set_cons_zero]
  rw [List.take_add_one, hx]
  simp
theorem byte_val (n j : Nat) : ((byteOf n j).toNat : Int) = ((n : Int) / 2 ^ (8 * j)) % 256 := by
  unfold byteOf
  rw [UInt8.toNat_ofNat']
  have : ((n : Int) / 2 ^ (8 * j)) = ((n / 2 ^ (8 * j) : Nat) : Int) := by push_cast; rfl
  rw [this]
  omega
abbrev secRow (g : Nat) (l : List UInt8) : Asr := rowA 5 1 (.slice (some ⟨g, 0, none⟩) 128 128) 128 (u8s l)
def BtRel (w : World) (gm g : Nat) (M : Nat → Nat) (T k m : Nat) (t : Nat) (v : Value) (wr : World) : Prop :=
  ∃ i : Nat, i ≤ m ∧ v = .int .i64 i ∧ Has w wr [secRow g (rowT (bytesM M) (T + t * i)), blkA gm 60 (mkA M)]
def BtOut (W : World) (M : Nat → Nat) (e : Ending) (W' : World) : Prop := ∃ g, e = .returned (.slice (some ⟨g, 0, none⟩) 128 128) ∧ W'.ownsRow W.heap.size 5 1 (.slice (some ⟨g, 0, none⟩) 128 128) 128 (u8s (bytesM M)) ∧ Ext W W'
set_option maxHeartbeats 1000000 in
theorem mbytes_any (W : World) (M : Nat → Nat) (hM : ∀ i, i < 7 → M i < 18446744073709551616) :
    Calls Try.prog 49 #[.agg (mkA M)] W fun e W' => BtOut W M e W' := by
  have H1 := (Has.nil (Ext.refl W)).new .nil 60 (mkA M)
  have HT := Lib.hid (fun (k i j : Nat) (h1 : k < 2) (h2 : i < 7) (h3 : j < 8) => bytesM_at M h1 h2 h3)
  go_enter Try.func49, Try.ntmps49
  go_upto_region 1 with fail
  generalize W.alloc _ = W1 at *
  generalize W.heap.size = gm at *
  have hmk : (Instr.makeSlice 36 (.int .i64 128) (.int .i64 128)).run Try.prog W1 = .ok (.slice (some ⟨W1.heap.size, 0, none⟩) 128 128) (W1.alloc (.cells (zrow 128) 5)) := make_bytes W1 128 (by omega)
  have H2 := H1.fresh (.cons (blkA_loc _ _ _) .nil) (ext_alloc W1 (.cells (zrow 128) 5)) (zrow_own W1 128 (by unfold maxLen; omega))
  clear H1
  go_upto_region 2 with fail
  clear hmk
  generalize W1.alloc _ = W2 at *
  generalize W1.heap.size = g at *
  go_wp2_with fail
  go_loopw [9] (fun v wr => BtRel W gm g M 0 0 2 56 v wr) (fun v _ => (3 - intOf v).toNat)
  case atStart => exact ⟨0, by omega, rfl, by simpa [rowT] using H2⟩
  case round =>
    clear H2
    obtain ⟨k, hk, rfl, H2⟩ := hrel
    rw [Nat.zero_add] at H2
    by_cases gk : (k : Int) < 2
    · go_wp2_with fail
      go_loopw [12] (fun v wx => BtRel W gm g M (56 * k) k 7 8 v wx) (fun v _ => (8 - intOf v).toNat)
      case atStart => exact ⟨0, by omega, rfl, by rw [Nat.mul_zero, Nat.add_zero]; exact H2⟩
      case round =>
        clear H2
        obtain ⟨i, hi, rfl, H3⟩ := hrel
        by_cases gi : (i : Int) < 7
        · have hb := H3.swap.blk0
          have c0 : wr.cell? ⟨gm, 0, none⟩ = some (.int .u64 (M 0)) := hb.cell 0
          rcases (show i = 0 ∨ 0 < i by omega) with hi0 | hi0
          · have hz : decide ((0 : Int) < i) = false := decide_eq_false (by omega)
            have hz2 : decide (0 < i) = false := decide_eq_false (by omega)
            rw [show M 0 = M i by rw [hi0]] at c0
            have HI := Lib.hid hi0
            clear hb hi0
            go_wp2_with fail
            go_loopw [24] (fun v wx => BtRel W gm g M (56 * k + 8 * i) k 8 1 v wx) (fun v _ => (9 - intOf v).toNat)
            case atStart => exact ⟨0, by omega, rfl, by rw [Nat.mul_zero, Nat.add_zero]; exact H3⟩
            case round =>
              clear H3
              obtain ⟨j, hj, rfl, H3⟩ := hrel
              rw [Nat.one_mul] at H3
              by_cases gj : (j : Int) < 8
              · have hrow := H3.row0
                have hT := HT.out k i j (by omega) (by omega) (by omega)
                have hset := rowT_set (bytesM M) (56 * k + 8 * i + j) _ (bytesM_length M) hT
                have eo : 56 * k + 8 * i + j = k * 56 + 8 * i + j := by omega
                have H4 : Has W (wr.setCell ⟨g, k * 56 + 8 * i + j, none⟩ (.int .u8 ((byteOf (M i) j).toNat : Int))) [secRow g (rowT (bytesM M) (56 * k + 8 * i + j + 1)), blkA gm 60 (mkA M)] := by
                  rw [← hset, ← eo]
                  refine H3.next (.cons (blkA_loc _ _ _) .nil) fun F hF => ?_
                  obtain ⟨ho, rfl⟩ := hF
                  obtain ⟨h1, h2⟩ := ho.stored (56 * k + 8 * i + j) (.int .u8 ((byteOf (M i) j).toNat : Int))
                  rw [u8s_set] at h1
                  exact Next.mk ⟨h1, rfl⟩ (grownBy.tch (v := .slice (some ⟨g, 0, none⟩) 128 128) h2) (fun k hk => Or.inl hk)
                rw [byte_val] at H4
                have hc := hrow.cellAt (56 * k + 8 * i + j) (by omega)
                rw [u8s_get _ _ (by rw [rowT_length _ _ (bytesM_length M) (by omega)]; omega)] at hc
                have hf := hrow.frozenAt (56 * k + 8 * i + j)
                rw [eo] at hc hf
                clear hT hset hrow H3 eo
                generalize M i = y at *
                go_wp2_with fail
                exact ⟨⟨j + 1, by omega, by go_num, by rw [Nat.one_mul]; exact H4⟩, by simp [intOf]; omega⟩
              · have hj' : j = 8 := by omega
                subst hj'
                go_wp2_with fail
                refine ⟨⟨i + 1, by omega, by go_num, ?_⟩, by simp [intOf]; omega⟩
                rw [show 56 * k + 8 * (i + 1) = 56 * k + 8 * i + 8 by omega]
                exact H3
          · have hz : decide ((0 : Int) < i) = true := decide_eq_true (by omega)
            have hz2 : decide (0 < i) = true := decide_eq_true (by omega)
            have hi6 : (i : Int) - 1 < 6 := by omega
            have hi1 : 0 ≤ (i : Int) - 1 := by omega
            have hck : (mkA M)[i]? = some (.int .u64 (M i : Int)) := by
              rcases (show i = 1 ∨ i = 2 ∨ i = 3 ∨ i = 4 ∨ i = 5 ∨ i = 6 by omega) with rfl | rfl | rfl | rfl | rfl | rfl <;> rfl
            have ci : wr.cell? ⟨gm, 1 + (i - 1), none⟩ = some (.int .u64 (M i : Int)) := by rw [show 1 + (i - 1) = i by omega]; exact (hb.cell i).trans hck
            clear hb hck
            go_wp2_with fail
            go_loopw [24] (fun v wx => BtRel W gm g M (56 * k + 8 * i) k 8 1 v wx) (fun v _ => (9 - intOf v).toNat)
            case atStart => exact ⟨0, by omega, rfl, by rw [Nat.mul_zero, Nat.add_zero]; exact H3⟩
            case round =>
              clear H3
              obtain ⟨j, hj, rfl, H3⟩ := hrel
              rw [Nat.one_mul] at H3
              by_cases gj : (j : Int) < 8
              · have hrow := H3.row0
                have hT := HT.out k i j (by omega) (by omega) (by omega)
                have hset := rowT_set (bytesM M) (56 * k + 8 * i + j) _ (bytesM_length M) hT
                have eo : 56 * k + 8 * i + j = k * 56 + 8 * i + j := by omega
                have H4 : Has W (wr.setCell ⟨g, k * 56 + 8 * i + j, none⟩ (.int .u8 ((byteOf (M i) j).toNat : Int))) [secRow g (rowT (bytesM M) (56 * k + 8 * i + j + 1)), blkA gm 60 (mkA M)] := by
                  rw [← hset, ← eo]
                  refine H3.next (.cons (blkA_loc _ _ _) .nil) fun F hF => ?_
                  obtain ⟨ho, rfl⟩ := hF
                  obtain ⟨h1, h2⟩ := ho.stored (56 * k + 8 * i + j) (.int .u8 ((byteOf (M i) j).toNat : Int))
                  rw [u8s_set] at h1
                  exact Next.mk ⟨h1, rfl⟩ (grownBy.tch (v := .slice (some ⟨g, 0, none⟩) 128 128) h2) (fun k hk => Or.inl hk)
                rw [byte_val] at H4
                have hc := hrow.cellAt (56 * k + 8 * i + j) (by omega)
                rw [u8s_get _ _ (by rw [rowT_length _ _ (bytesM_length M) (by omega)]; omega)] at hc
                have hf := hrow.frozenAt (56 * k + 8 * i + j)
                rw [eo] at hc hf
                clear hT hset hrow H3 eo
                generalize M i = y at *
                go_wp2_with fail
                exact ⟨⟨j + 1, by omega, by go_num, by rw [Nat.one_mul]; exact H4⟩, by simp [intOf]; omega⟩
              · have hj' : j = 8 := by omega
                subst hj'
                go_wp2_with fail
                refine ⟨⟨i + 1, by omega, by go_num, ?_⟩, by simp [intOf]; omega⟩
                rw [show 56 * k + 8 * (i + 1) = 56 * k + 8 * i + 8 by omega]
                exact H3
        · have hi' : i = 7 := by omega
          subst hi'
          go_wp2_with fail
          refine ⟨⟨k + 1, by omega, by go_num, ?_⟩, by simp [intOf]; omega⟩
          rw [Nat.zero_add, show 56 * (k + 1) = 56 * k + 8 * 7 by omega]
          exact H3
    · have hk' : k = 2 := by omega
      subst hk'
      go_wp2_with fail
      go_ret
      obtain ⟨hown, hlo⟩ := H2.owned (e := 5) (size := 1) (v := .slice (some ⟨g, 0, none⟩) 128 128) (n := 128) (xs := u8s (rowT (bytesM M) (56 * 2))) (by simp)
      refine ⟨g, rfl, ?_, H2.base⟩
      have e : rowT (bytesM M) (56 * 2) = bytesM M := by
        have h1 : (halfM M ++ halfM M).length = 112 := by rw [List.length_append, halfM_length]
        unfold rowT bytesM
        rw [← List.append_assoc, List.take_left' (show _ = 56 * 2 by rw [h1])]
      rw [e] at hown
      exact ownsRow_base hown hlo
end Go.Proofs.Ythghflfgldcmbaa
