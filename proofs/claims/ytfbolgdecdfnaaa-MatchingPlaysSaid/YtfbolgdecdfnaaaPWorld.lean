/- The document's matches beside the program's: what is kept from op to op. -/
import Derived.Test.YtfbolgdecdfnaaaPSimCut
import Derived.Test.YtfbolgdecdfnaaaPLike
import Derived.Test.YtfbolgdecdfnaaaPCut
import Derived.Test.YtfbolgdecdfnaaaPLeave
import Derived.Test.YtfbolgdecdfnaaaPAdd
namespace Go.Proofs.Ytfbolgdecdfnaaa
set_option maxRecDepth 4000
set_option linter.unusedVariables false
set_option linter.unusedSimpArgs false
open Go Go.RowKit
/-- the rows of the document's matches -/
def rrA (vw : Value) (ws : List Hd) (vl : Value) (ls : List Ls) : Asr := fun W F => RRows W vw ws vl ls ∧ F = fun k => vw.ownBlock = some k ∨ vl.ownBlock = some k
theorem rrA_loc (vw : Value) (ws : List Hd) (vl : Value) (ls : List Ls) : Loc (rrA vw ws vl ls) :=
  ⟨fun h hk => ⟨⟨ownsRow_same h.1.w fun g hg => hk g (by rw [h.2]; exact Or.inl hg), ownsRow_same h.1.l fun g hg => hk g (by rw [h.2]; exact Or.inr hg)⟩, h.2⟩,
   fun h hk => by rw [h.2] at hk; rcases hk with hk | hk; exact (h.1.w.lt _ hk).2; exact (h.1.l.lt _ hk).2⟩
theorem rrA_nil (w W : World) (hE : Ext w W) : Has w W [rrA (.slice none 0 0) [] (.slice none 0 0) []] :=
  ⟨_, ⟨⟨World.ownsRow_nil _ _ _ _, World.ownsRow_nil _ _ _ _⟩, rfl⟩, fun k hk => by simp [Value.ownBlock] at hk, hE⟩
section
variable {w W W' : World} {ps : List Asr} {vw vl vw' vl' : Value} {ws ws' : List Hd} {ls ls' : List Ls}
theorem Has.rr (h : Has w W (rrA vw ws vl ls :: ps)) : RRows W vw ws vl ls := by obtain ⟨F, hF⟩ := h.head; exact hF.1
/-- the rows after a call that only makes new cells -/
theorem Has.rrs (h : Has w W (rrA vw ws vl ls :: ps)) (hl : Locs ps) (hE : Ext W W') (hR : RRows W' vw' ws' vl' ls') (h1 : Rows' W W' vw vl vw') (h2 : Rows' W W' vw vl vl') : Has w W' (rrA vw' ws' vl' ls' :: ps) :=
  h.next hl fun F hF => by
    obtain ⟨_, rfl⟩ := hF
    exact Next.mk (F' := fun k => vw'.ownBlock = some k ∨ vl'.ownBlock = some k) ⟨hR, rfl⟩ (Tch.of_ext hE) fun k hk => by
      rcases hk with hk | hk
      · rcases h1 k hk with h | h | h
        · exact Or.inl (Or.inl h)
        · exact Or.inl (Or.inr h)
        · exact Or.inr h
      · rcases h2 k hk with h | h | h
        · exact Or.inl (Or.inl h)
        · exact Or.inl (Or.inr h)
        · exact Or.inr h
end
theorem Rows'.w {W W' : World} {vw vl : Value} : Rows' W W' vw vl vw := fun _ h => Or.inl h
theorem Rows'.l {W W' : World} {vw vl : Value} : Rows' W W' vw vl vl := fun _ h => Or.inr (Or.inl h)
theorem Rows'.new {W W' : World} {vw vl v : Value} (h : ∀ g, v.ownBlock = some g → W.heap.size ≤ g) : Rows' W W' vw vl v := fun g hg => Or.inr (Or.inr (h g hg))
/-- what the law keeps from op to op -/
structure PInv (s : MS) (ws : List Hd) (ls : List Ls) (t : Int) (n : Nat) (now : Int) : Prop where
  sim : Sim s ws ls t
  inv : MInv s n now
  len : ws.length ≤ n
section
variable {s : MS} {ws : List Hd} {ls : List Ls} {t now : Int} {n : Nat}
theorem PInv.zero : PInv zeroMS [] [] 0 0 0 := ⟨⟨rfl, rfl, fun _ _ => rfl, fun _ h => by simp at h⟩, MInv.zero 0, Nat.le_refl _⟩
theorem PInv.time (h : PInv s ws ls t n now) {now' : Int} (hn : now ≤ now') : PInv s ws ls t n now' := ⟨h.sim, h.inv.mono (Int.le_refl _) hn, h.len⟩
theorem PInv.up (h : PInv s ws ls t n now) : PInv s ws ls t (n + 1) now := ⟨h.sim, h.inv.mono (by omega) (Int.le_refl _), Nat.le_succ_of_le h.len⟩
theorem PInv.since (h : PInv s ws ls t n now) : Since now ws := fun x hx => by
  obtain ⟨k, hk, _, hm⟩ := h.sim.mem hx
  exact h.inv.since k hk _ hm
theorem PInv.ok (h : PInv s ws ls t n now) : ∀ x ∈ ws, TaskOk x.run x.kind x.id := fun x hx => by
  obtain ⟨k, hk, _, hm⟩ := h.sim.mem hx
  exact h.inv.qok k hk _ hm
theorem PInv.t0 (h : PInv s ws ls t n now) : 0 ≤ t ∧ t ≤ n := by rw [← h.sim.tok]; exact ⟨h.inv.tok1, h.inv.tok2⟩
theorem radd_len (ws : List Hd) (ls : List Ls) (r k i z now : Int) : (radd ws ls r k i z now).length ≤ ws.length + 1 := by
  unfold radd
  split
  · simp
  · omega
theorem PInv.add (h : PInv s ws ls t n now) (r k i z : Int) (hok : TaskOk r k i) (h0 : 0 ≤ now) : PInv (madd s r k i z now) (radd ws ls r k i z now) ls t (n + 1) now :=
  ⟨h.sim.add r k i z now, h.up.inv.add r k i z hok h0, Nat.le_trans (radd_len ws ls r k i z now) (Nat.succ_le_succ h.len)⟩
theorem rpollW_len (ws : List Hd) (ls : List Ls) (z kind : Int) : (rpollW (rpollO ws ls z kind) ws).length ≤ ws.length := by
  unfold rpollO
  split
  · exact Nat.le_refl _
  · split
    · exact Nat.le_refl _
    · unfold rpick
      cases h1 : splitH (wants z kind) ws with
      | some r =>
        obtain ⟨a, x, b⟩ := r
        have := (splitH_spec h1).1
        rw [this]; simp [rpollW]
      | none =>
        cases h2 : splitH (wants 0 kind) ws with
        | some r =>
          obtain ⟨a, x, b⟩ := r
          have := (splitH_spec h2).1
          rw [this]; simp [rpollW]
        | none => exact Nat.le_refl _
theorem PInv.poll (h : PInv s ws ls t n now) (z kind : Int) : PInv (pollS s z kind now) (rpollW (rpollO ws ls z kind) ws) (rpollLs (rpollO ws ls z kind) ls t z now) (rpollT (rpollO ws ls z kind) t) (n + 1) now :=
  ⟨(h.sim.poll h.inv.one z kind now).2.2, h.inv.poll z kind now, Nat.le_trans (rpollW_len ws ls z kind) (Nat.le_succ_of_le h.len)⟩
theorem PInv.done (h : PInv s ws ls t n now) (tok : Int) (h0 : 0 ≤ now) : PInv (s.done tok) ws (keepL (fun l => l.tok == tok) ls) t (n + 1) now :=
  ⟨h.sim.done tok, h.up.inv.less (less_done s tok now) h0, Nat.le_succ_of_le h.len⟩
theorem PInv.expire (h : PInv s ws ls t n now) (h0 : 0 ≤ now) : PInv (s.expire now) (rturn 0 now false ws 64) (keepL (leaves true 0 now) ls) t (n + 1) now :=
  ⟨(h.sim.expire h.inv.one now).2, h.up.inv.less (less_expire h.inv.one now) h0, Nat.le_trans (rturn_len 0 now false ws 64) (Nat.le_succ_of_le h.len)⟩
theorem PInv.lose (h : PInv s ws ls t n now) {z : Int} (hz1 : 1 ≤ z) (hz2 : z ≤ 64) (h0 : 0 ≤ now) : PInv (s.lose z now) (rturn z now true ws 64) (keepL (leaves false z now) ls) t (n + 1) now :=
  ⟨(h.sim.lose h.inv.one hz1 hz2 now).2, h.up.inv.less (less_lose h.inv.one z now) h0, Nat.le_trans (rturn_len z now true ws 64) (Nat.le_succ_of_le h.len)⟩
theorem PInv.drop (h : PInv s ws ls t n now) (r k i : Int) (h0 : 0 ≤ now) : PInv (s.drop r) (rcutW r k i true ws) (rcutL r k i true ls) t (n + 1) now :=
  ⟨(h.sim.drop r k i).1, h.up.inv.less (less_drop s r now) h0, Nat.le_trans (List.length_filter_le _ _) (Nat.le_succ_of_le h.len)⟩
theorem PInv.cancel (h : PInv s ws ls t n now) (r k i : Int) (h0 : 0 ≤ now) : PInv (s.cancel r k i) (rcutW r k i false ws) (rcutL r k i false ls) t (n + 1) now :=
  ⟨(h.sim.cancel h.inv r k i).1, h.up.inv.less (less_cancel s r k i now) h0, Nat.le_trans (List.length_filter_le _ _) (Nat.le_succ_of_le h.len)⟩
end
theorem lose_out {s : MS} {z now : Int} (hz : z < 1 ∨ 64 < z) : s.lose z now = s ∧ s.lost z = [] := by
  unfold MS.lose MS.lost; rw [if_pos hz, if_pos hz]; exact ⟨rfl, rfl⟩
end Go.Proofs.Ytfbolgdecdfnaaa
