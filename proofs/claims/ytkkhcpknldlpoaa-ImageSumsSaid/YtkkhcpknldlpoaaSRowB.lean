/- A row of bytes of one's own: it grows, one byte is set, it is read as a text; a hash that has had all of a text's bytes. -/
import Derived.Test.YtkkhcpknldlpoaaSEq
namespace Go.Proofs.Ytkkhcpknldlpoaa
set_option maxRecDepth 4000
set_option linter.unusedVariables false
set_option linter.unusedSimpArgs false
open Go Go.RowKit
theorem conv_row {X : World} {t e st : TypeId} {base n : Nat} {v : Value} {l : List UInt8} (ht : Try.prog.underlying t = some (.slice e)) (he : Try.prog.underlying e = some (.int .u8)) (hs : Try.prog.underlying st = some .string) (h : X.ownsRow base e 1 v n (u8s l)) :
    (convert t st v).run Try.prog X = .ok (.string (strOf l)) X := by
  obtain ⟨p, c, rfl⟩ := ownsRow_slice h
  have hn : n = l.length := by have := h.1; rw [u8s_length] at this; omega
  subst hn
  rcases h.2 with ⟨hv, h0⟩ | ⟨g, cap, cur, hv, _⟩
  · injection hv with e1 e2 e3
    subst e1
    have : l = [] := List.length_eq_zero_iff.1 h0
    subst this
    exact run_convert_bytes_nil X t e ht he _ _ st hs
  · injection hv with e1 e2 e3
    subst e1
    refine conv_str ht he hs X g 0 c l fun i hi => ?_
    have := row_news h _ rfl i _ (u8s_get l i hi)
    rw [Go.WideShapes.add_plain] at this
    exact this
abbrev BRow (v : Value) (l : List UInt8) : Asr := rowA 5 1 v l.length (u8s l)
theorem BRow_loc (v : Value) (l : List UInt8) : Loc (BRow v l) := rowA_loc _ _ _ _ _
theorem BRow.nil (W : World) : BRow (.slice none 0 0) [] W (fun k => (Value.slice none 0 0).ownBlock = some k) := ⟨World.ownsRow_nil _ _ _ _, rfl⟩
/-- bytes behind a row of one's own -/
theorem BRow.grow {w W W' : World} {v v' : Value} {l x : List UInt8} {ps : List Asr} (h : Has w W (BRow v l :: ps)) (hl : Locs ps) (hown : W'.ownsRow 0 5 1 v' (l.length + x.length) (u8s l ++ u8s x)) (hg : W.grownBy W' v.ownBlock) (hf : Fresh W v v') : Has w W' (BRow v' (l ++ x) :: ps) := by
  refine h.next hl fun F hF => ?_
  obtain ⟨_, rfl⟩ := hF
  refine Next.mk ⟨?_, rfl⟩ (grownBy.tch hg) hf.1
  rw [List.length_append, u8s_append]
  exact hown
theorem flat_small {ps : List (List UInt8)} {n : Nat} (h : ∀ x ∈ ps, x.length ≤ n) : ps.flatten.length ≤ ps.length * n := by
  induction ps with
  | nil => simp
  | cons x ps ih =>
    have h1 := h x (by simp)
    have h2 := ih fun y hy => h y (by simp [hy])
    rw [List.flatten_cons, List.length_append, List.length_cons, Nat.add_mul]
    omega
theorem BRow.put {w W : World} {g c n : Nat} {l : List UInt8} {ps : List Asr} (h : Has w W (rowA 5 1 (.slice (some ⟨g, 0, none⟩) n c) n (u8s l) :: ps)) (hl : Locs ps) (i : Nat) (x : UInt8) : Has w (W.setCell ⟨g, i, none⟩ (.int .u8 (x.toNat : Int))) (rowA 5 1 (.slice (some ⟨g, 0, none⟩) n c) n (u8s (l.set i x)) :: ps) := by
  refine h.next hl fun F hF => ?_
  obtain ⟨ho, rfl⟩ := hF
  obtain ⟨h1, h2⟩ := ho.stored i (.int .u8 (x.toNat : Int))
  rw [u8s_set] at h1
  exact Next.mk ⟨h1, rfl⟩ (grownBy.tch (v := .slice (some ⟨g, 0, none⟩) n c) h2) (fun k hk => Or.inl hk)
/-- a call that changes the first thing, told where the others lie -/
theorem Has.actS {w W : World} {p p' : Asr} {ps : List Asr} {P : Program} {f : FuncId} {args : Array Value} {R : Ending → Prop} (h : Has w W (p :: ps)) (hl : Locs ps) (hc : ∀ F, p W F → (∀ k, F k → w.heap.size ≤ k) → Side w W ps F → Calls P f args W fun e W' => R e ∧ Next F W W' p') :
    Calls P f args W fun e W' => R e ∧ Has w W' (p' :: ps) := by
  obtain ⟨F, h1, h2, h3⟩ := h
  refine (hc F h1 (fun k hk => (h2 k hk).1) (h3.weaken fun k hk => Or.inr hk)).mono ?_
  rintro e W' ⟨hR, F', h4, ht, hf⟩
  have hE0 : Ext w W := Side.base h3
  have hE : Ext w W' := ((Tch.of_ext (S := fun k => w.heap.size ≤ k) hE0).trans ht (fun i hi _ => (h2 i hi).1)).ext (fun _ h => h)
  refine ⟨hR, F', h4, fun k hk => ⟨?_, id⟩, Side.step hl h3 (ht.mono fun _ h _ => Or.inr h) hE ?_⟩
  · rcases hf k hk with h | h
    · exact (h2 k h).1
    · exact Nat.le_trans hE0.le h
  · rintro k (h | h)
    · exact Or.inl (Or.inl h)
    · exact (hf k h).imp Or.inr id
/-- a hash to which l has been added -/
def hOf (q : Nat) (l : List UInt8) : Asr := fun W F => ∃ h : HS, h.Of l ∧ hA q h W F
theorem hOf_loc (q : Nat) (l : List UInt8) : Loc (hOf q l) :=
  ⟨fun ⟨h, h1, h2⟩ hk => ⟨h, h1, (hA_loc q h).keep h2 hk⟩, fun ⟨h, _, h2⟩ hk => (hA_loc q h).lt h2 hk⟩
theorem hOf_sum {W : World} {q : Nat} {l : List UInt8} {F : Nat → Prop} (h : hOf q l W F) : Calls Try.prog 79 #[.pointer (some ⟨q, 0, none⟩)] W fun e W' => e = .returned (smV (sha l)) ∧ Ext W W' := by
  obtain ⟨hs, h1, h2⟩ := h
  have := sum_any h2
  rw [h1.sum] at this
  exact this
theorem hOf_add {W : World} {q : Nat} {l x : List UInt8} {F : Nat → Prop} (h : hOf q l W F) (p : Option Addr) (c : Nat) (hp : PartsAt F W p [x]) (hx : x.length ≤ 70368744177664) :
    Calls Try.prog 78 #[.pointer (some ⟨q, 0, none⟩), .slice p 1 c] W fun e W' => e = .returned (.tuple #[]) ∧ Next F W W' (hOf q (l ++ x)) := by
  obtain ⟨hs, h1, h2⟩ := h
  refine (add_any h2 p c [x] hp (by unfold maxLen; simp) (by intro y hy; simp at hy; subst hy; exact hx)).mono ?_
  rintro e W' ⟨he, hN⟩
  refine ⟨he, hN.imp fun F' hF' => ⟨_, ?_, hF'⟩⟩
  obtain ⟨k1, k2⟩ := h1.start
  have := (HS.Of.addAll [x] k1 k2).1
  rw [flat1] at this
  exact this
end Go.Proofs.Ytkkhcpknldlpoaa
