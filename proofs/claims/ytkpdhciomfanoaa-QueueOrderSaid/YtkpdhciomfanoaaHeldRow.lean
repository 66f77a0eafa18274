/- A queue of the law's own beside a row of numbers of the law's own that grows. -/
import Derived.Test.YtkpdhciomfanoaaHeldY
namespace Go.Proofs.Ytkpdhciomfanoaa
set_option linter.unusedVariables false
set_option linter.unusedSimpArgs false
open Go Go.RowKit Go.Maps Go.ChangeMaps Go.MapKept
theorem ownsRow_same {w w' : World} {base : Nat} {e : TypeId} {size : Nat} {v : Value} {n : Nat} {xs : List Value} (h : w.ownsRow base e size v n xs) (hk : ∀ g, v.ownBlock = some g → w'.heap[g]? = w.heap[g]?) : w'.ownsRow base e size v n xs := by
  refine ⟨h.1, ?_⟩
  rcases h.2 with hn | ⟨g, cap, cur, rfl, hb, hgg, rest⟩
  · exact .inl hn
  · exact .inr ⟨g, cap, cur, rfl, hb, (hk g rfl).trans hgg, rest⟩
theorem ownsRow_ext {w w' : World} {base : Nat} {e : TypeId} {size : Nat} {v : Value} {n : Nat} {xs : List Value} (h : w.ownsRow base e size v n xs) (hE : Ext w w') : w'.ownsRow base e size v n xs :=
  ownsRow_same h fun g hg => hE.block g (h.lt g hg).2
theorem row_not_foot {w : World} {q : Nat} {bm : Option Nat} {ys : List Ent} (hq : QRep w q 0 bm ys) {base : Nat} {v : Value} {n : Nat} {x : Int} {xs : List Value} (hr : w.ownsRow base 2 1 v n (.int .i64 x :: xs)) :
    ∀ k, v.ownBlock = some k → ¬ Foot q bm ys k := by
  intro k hk hf
  rcases hr.2 with ⟨_, hn⟩ | ⟨g, cap, cur, rfl, hb, hgg, hn, hc, hs, ht⟩
  · have := hr.1; subst hn; simp at this
  · have hkg : g = k := by simpa [Value.ownBlock] using hk
    subst hkg
    rcases hf with rfl | hf | hf
    · obtain ⟨cs, T, h0, _, h2, _⟩ := hq.cells
      rw [hgg] at h0
      injection h0 with h0
      injection h0 with h0 _ _
      subst h0
      have h3 : cur.toList[0]? = some (.int .i64 x) := by
        have := congrArg (fun l => l[0]?) ht
        simp only [List.getElem?_cons_zero] at this
        rw [List.getElem?_take] at this
        split at this
        · exact this
        · cases this
      rw [Array.getElem?_toList, h2] at h3
      cases hh : hd ys none <;> simp [hh, ptr] at h3
    · have := hq.mp
      subst hf
      obtain ⟨D, m, _, ⟨es, clock, hb', _⟩, _⟩ := this
      rw [hgg] at hb'
      cases hb'
    · obtain ⟨cs, hb'⟩ := hq.seg.lt _ hf
      unfold Blk at hb'
      rw [hgg] at hb'
      injection hb' with hb'
      injection hb' with _ hb'
      exact absurd hb' (by decide)
/-- the row grows: the queue stays, beside the new row -/
theorem HeldX.grow {w W W' : World} {o : Obj} {q : Nat} {xs : List It} {v v' : Value} {n n' : Nat} {x : Int} {ys zs : List Value} (h : HeldX w W q xs (fun b => v.ownBlock = some b)) (hr : W.ownsRow w.heap.size 2 1 v n ys)
    (hg : (W.alloc o).grownBy W' v.ownBlock) (hr' : W'.ownsRow w.heap.size 2 1 v' n' zs) (hz : zs = .int .i64 x :: zs.tail) : HeldX w W' q xs (fun b => v'.ownBlock = some b) := by
  have hE : Ext w W' := (((h.ext).alloc o).below).grown hg (by have := h.ext.le; simp; omega) (fun k hk => (hr.lt k hk).1)
  have ht : Tch (fun k => v.ownBlock = some k) W W' := ((Tch.refl _ _).alloc o).grown hg (fun g h _ => h)
  obtain ⟨he, ⟨bm, ys, hq, hm, hf⟩, hl⟩ := h
  have hq' := hq.tch ht (fun k hk => (hf k hk).2)
  rw [hz] at hr'
  exact ⟨hE, ⟨bm, ys, hq', hm, fun k hk => ⟨(hf k hk).1, fun hv => row_not_foot hq' hr' k hv hk⟩⟩, fun k hk => (hr'.lt k hk).2⟩
end Go.Proofs.Ytkpdhciomfanoaa
