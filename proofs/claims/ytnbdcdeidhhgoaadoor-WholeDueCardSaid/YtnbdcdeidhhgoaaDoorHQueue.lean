/- Numbers that wait in a row: taken from its front, put behind its end. -/
import Derived.Test.YtnbdcdeidhhgoaaDoorHOps
import Derived.ArgAppend
namespace Go.Proofs.YtnbdcdeidhhgoaaDoor
set_option maxRecDepth 4000
set_option linter.unusedVariables false
set_option linter.unusedSimpArgs false
open Go Go.RowKit
def intsV (zs : List Int) : List Value := zs.map (Value.int .i64)
theorem intsV_length (zs : List Int) : (intsV zs).length = zs.length := by simp [intsV]
theorem intsV_one (zs : List Int) : ∀ u ∈ intsV zs, u.oneCell' = true := by
  intro u hu
  unfold intsV at hu
  obtain ⟨b, _, rfl⟩ := List.mem_map.1 hu
  rfl
def qvA (v : Value) (zs : List Int) : Asr := fun W F => (∃ g o c cur, v = .slice (some ⟨g, o, none⟩) zs.length c ∧ Blk W g 3 cur ∧ zs.length ≤ c ∧ c ≤ maxLen ∧ (0 < c → o + c ≤ cur.size) ∧ ∀ j u, (intsV zs)[j]? = some u → cur[o + j]? = some u) ∧ F = fun k => v.ownBlock = some k
theorem qvA_loc (v : Value) (zs : List Int) : Loc (qvA v zs) :=
  ⟨fun h hk => by
    obtain ⟨⟨g, o, c, cur, rfl, hb, h2⟩, rfl⟩ := h
    exact ⟨⟨g, o, c, cur, rfl, hb.of_eq (hk g rfl), h2⟩, rfl⟩, fun h hk => by
    obtain ⟨⟨g, o, c, cur, rfl, hb, h2⟩, rfl⟩ := h
    injection hk with hk
    subst hk
    exact hb.lt⟩
theorem qv_of_row {W : World} {b n : Nat} {v : Value} {zs : List Int} (h : W.ownsRow b 3 1 v n (intsV zs)) (h0 : 0 < n) : qvA v zs W (fun k => v.ownBlock = some k) := by
  have hl := h.1
  rw [intsV_length, Nat.mul_one] at hl
  rcases h.2 with ⟨_, hn⟩ | ⟨g, c, cur, rfl, _, hb, h1, h2, h3, h4⟩
  · omega
  · refine ⟨⟨g, 0, c, cur, by rw [hl], hb, by omega, h2, fun _ => by omega, fun j u hu => ?_⟩, rfl⟩
    have hj : j < n := by have := (List.getElem?_eq_some_iff.1 hu).1; rw [intsV_length] at this; omega
    rw [← h4, List.getElem?_take, if_pos (by omega)] at hu
    rw [Nat.zero_add]
    simpa using hu
theorem qv_slice {W : World} {F : Nat → Prop} {v : Value} {zs : List Int} (h : qvA v zs W F) : ∃ a c, v = .slice (some a) zs.length c ∧ zs.length ≤ maxLen := by
  obtain ⟨⟨g, o, c, cur, rfl, _, h1, h2, _⟩, _⟩ := h
  exact ⟨_, c, rfl, by omega⟩
theorem qv_head {W : World} {F : Nat → Prop} {v : Value} {z : Int} {zs : List Int} (h : qvA v (z :: zs) W F) : ∃ g o c, v = .slice (some ⟨g, o, none⟩) (zs.length + 1) c ∧ W.cell? ⟨g, o, none⟩ = some (.int .i64 z) ∧ zs.length + 1 ≤ c := by
  obtain ⟨⟨g, o, c, cur, rfl, hb, h1, h2, _, h4⟩, _⟩ := h
  refine ⟨g, o, c, rfl, ?_, h1⟩
  rw [Blk.cell hb]
  exact h4 0 _ rfl
theorem qv_tail {w W : World} {ps : List Asr} {v : Value} {z : Int} {zs : List Int} (h : Has w W (qvA v (z :: zs) :: ps)) :
    ∃ v', (∀ X : World, (Instr.sliceAt 89 v (some (.int .i64 1)) none none).run Tryd.prog X = .ok v' X) ∧ Has w W (qvA v' zs :: ps) := by
  obtain ⟨F, ⟨⟨g, o, c, cur, rfl, hb, h1, h2, h3, h4⟩, rfl⟩, h5, h6⟩ := h
  have hl : (z :: zs).length = zs.length + 1 := rfl
  rw [hl] at h1
  have ht : Tryd.prog.underlying 89 = some (.slice (Tryd.prog.elem 89)) := by kernel_rfl
  have hs : ∀ X, (sizeOf (Tryd.prog.elem 89)).run Tryd.prog X = .ok 1 X := fun X => by kernel_rfl
  refine ⟨.slice (some ⟨g, if c = 1 then o else o + 1, none⟩) zs.length (c - 1), fun X => ?_, _, ⟨⟨g, if c = 1 then o else o + 1, c - 1, cur, rfl, hb, by omega, by omega, fun h0 => ?_, fun j u hu => ?_⟩, rfl⟩, h5, h6⟩
  · rw [run_sliceAt_slice (w := X) _ _ _ _ _ ht, run_slice_l (w := X) _ (some ⟨g, o, none⟩) (z :: zs).length c ht .i64 1 (by omega) (by rw [hl]; omega), hs]
    simp only [sliced, Result.andThen, hl]
    by_cases hc : c = 1
    · subst hc
      simp
    · simp [hc, Addr.add]
  · rw [if_neg (by omega)]
    have := h3 (by omega)
    omega
  · have hj : j < zs.length := by have := (List.getElem?_eq_some_iff.1 hu).1; rw [intsV_length] at this; exact this
    rw [if_neg (by omega)]
    have := h4 (j + 1) u (by simpa [intsV] using hu)
    rw [show o + 1 + j = o + (j + 1) by omega]
    exact this
theorem intI : (Tryd.prog.info? 3).map (fun i => (i.zero, i.size, i.bytes)) = some (some (.int .i64 0), 1, 8) := by kernel_rfl
theorem qv_append {w W : World} {ps : List Asr} {v : Value} {zs : List Int} (h : Has w W (qvA v zs :: ps)) (hl : Locs ps) (hz : zs.length ≤ 1000000) (ty : TypeId) (ad : Addr) (a b : Int) (hn : ∀ j u, (intsV [a, b])[j]? = some u → W.cell? (ad.add j) = some u) :
    ∃ v' W', (Builtin.append_ #[89, 89] ty #[v, .slice (some ad) 2 2]).run Tryd.prog W = .ok v' W' ∧ Has w W' (qvA v' (zs ++ [a, b]) :: ps) := by
  obtain ⟨i0, hi0, hz0, hz1, hz2⟩ := info_parts intI
  obtain ⟨F, ⟨⟨g, o, c, cur, rfl, hb, h1, h2, h3, h4⟩, rfl⟩⟩ := h.head
  have hc : ∀ j, W.cell? ⟨g, o + j, none⟩ = cur[o + j]? := fun j => Blk.cell hb _
  by_cases hroom : zs.length + 2 ≤ c
  · have hcc := h3 (by omega)
    refine ⟨_, _, run_append_room_cells (P := Tryd.prog) W 89 ty 3 i0 Tryd.underlying89 hi0 g o zs.length c ad 2 2 (intsV [a, b]) (by rw [hz1]; rfl) hn (intsV_one _) hroom (fun j hj => ?_) (fun j hj => Blk.frozen hb _), ?_⟩
    · rw [intsV_length] at hj
      have hj : j < 2 := hj
      rw [hz1, Nat.mul_one, Nat.add_assoc, hc, Array.getElem?_eq_getElem (by omega)]; rfl
    · refine h.next hl fun F hF => ?_
      obtain ⟨_, rfl⟩ := hF
      refine ⟨_, ⟨⟨g, o, c, setL cur (o + zs.length * i0.size) (intsV [a, b]), by rw [List.length_append]; rfl, Blk.setCells _ _ _ _ hb, by rw [List.length_append]; exact hroom, h2, fun _ => by rw [setL_size]; exact hcc, fun j u hu => ?_⟩, rfl⟩, Tch.setCells (S := fun k => (Value.slice (some ⟨g, o, none⟩) zs.length c).ownBlock = some k) rfl _ _ _ (Tch.refl _ _), fun k hk => Or.inl hk⟩
      have hsz : (intsV [a, b]).length = 2 := rfl
      rw [hz1, Nat.mul_one, setL_get _ _ _ _ (by rw [hsz]; omega), hsz]
      by_cases hj : j < zs.length
      · rw [if_neg (by omega)]
        apply h4 j u
        have : intsV (zs ++ [a, b]) = intsV zs ++ intsV [a, b] := by simp [intsV]
        rw [this, List.getElem?_append_left (by rw [intsV_length]; exact hj)] at hu
        exact hu
      · have : intsV (zs ++ [a, b]) = intsV zs ++ intsV [a, b] := by simp [intsV]
        rw [this, List.getElem?_append_right (by rw [intsV_length]; omega), intsV_length] at hu
        have h6 := (List.getElem?_eq_some_iff.1 hu).1
        rw [hsz] at h6
        rw [if_pos (by omega), show o + j - (o + zs.length) = j - zs.length by omega]
        exact hu
  · have holds : ∀ j u, (intsV zs)[j]? = some u → W.cell? ((⟨g, o, none⟩ : Addr).add j) = some u := fun j u hu => by
      rw [Go.WideShapes.add_plain, hc]
      exact h4 j u hu
    obtain ⟨v', W', hr, hown, hg⟩ := run_append_arg_grows (P := Tryd.prog) W 89 ty 3 i0 (.int .i64 0) 1 8 Tryd.underlying89 hi0 hz0 hz1 hz2 rfl (by omega) ⟨g, o, none⟩ zs.length c (intsV zs) (by rw [intsV_length, Nat.mul_one]) holds ad 2 2 (intsV [a, b]) rfl hn (by omega) (by unfold maxLen; omega) (by omega)
    refine ⟨v', W', hr, ?_⟩
    have hE : Ext W W' := ⟨hg.os, hg.tape, hg.output, hg.size, fun k hk => hg.block k hk (by simp)⟩
    have hcat : intsV zs ++ intsV [a, b] = intsV (zs ++ [a, b]) := by simp [intsV]
    rw [hcat] at hown
    exact h.drop.add hl hE (qv_of_row hown (by omega)) (fun k hk => (hown.lt k hk).1)
end Go.Proofs.YtnbdcdeidhhgoaaDoor
