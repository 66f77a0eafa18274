/- The walk of Read. -/
import Derived.Test.YtcnbnhncncgkaaaRText
namespace Go.Proofs.Ytcnbnhncncgkaaa
set_option linter.unusedVariables false
set_option linter.unusedSimpArgs false
open Go Go.RowKit
def ReadIs (W : World) (bs : List UInt8) (e : Ending) (W' : World) : Prop :=
  ∃ r F, e = .returned (.pointer (some ⟨r, 0, none⟩)) ∧ rA r ⟨bs, 0, 0⟩ W' F ∧ (∀ k, F k → W.heap.size ≤ k) ∧ Ext W W'
theorem read_any (W : World) (p : Option Addr) (c : Nat) (bs : List UInt8) (hN : NumsAt .u8 W p (byI bs)) (hp : p = none → bs.length = 0 ∧ c = 0) (hlen : bs.length ≤ 70368744177664) :
    Calls Try.prog 13 #[.slice p bs.length c] W fun e W' => ReadIs W bs e W' := by
  obtain ⟨i0, hi0, hz0, hz1, hz2⟩ := info_parts u8Info
  have hE := ext_alloc W (.cells #[] 5)
  have hlit := World.ownsRow_made (base := 0) (e := 5) (size := 1) W #[] 0 (Nat.zero_le _) (by simp) rfl
  have hb1 : 0 + bs.length ≤ maxLen := by unfold maxLen; omega
  have hb2 : (0 + bs.length) * 1 ≤ 140737488355328 := by omega
  go_enter Try.func13, Try.ntmps13
  go_wp2_with (at_builtin; refine wpList_append_new rfl _ _ 27 rfl 5 i0 (.int .u8 0) 1 1 Try.underlying27 hi0 hz0 hz1 hz2 rfl (by decide) _ 0 [] rfl hlit p bs.length c (u8s bs) rfl (u8s_length bs ▸ (Nat.mul_one _).symm) hp (news_at (hN.ext hE)) (u8s_one bs) hb1 hb2 ?_)
  intro v' w3 hown3 hg3 hf3
  obtain ⟨pv', cv', rfl⟩ := ownsRow_slice hown3
  have hE3 : Ext W w3 := hE.grown hg3 (by simp) (fun k hk => by simp [Value.ownBlock] at hk; omega)
  have hnn := hf3.2 (by simp [Value.ownBlock])
  obtain ⟨g, rfl⟩ : ∃ g, pv' = some ⟨g, 0, none⟩ := by
    rcases hown3.2 with ⟨hv, _⟩ | ⟨g, cap, cur, hv, _⟩
    · rw [hv] at hnn; exact absurd rfl hnn
    · injection hv with h1; exact ⟨g, h1⟩
  have hgb : W.heap.size ≤ g := by
    rcases hf3.1 g rfl with h1 | h1
    · simp [Value.ownBlock] at h1; omega
    · simp at h1; omega
  clear hg3 hf3 hlit hnn
  go_wp2_with fail
  go_ret
  refine ⟨w3.heap.size, RFoot w3.heap.size g, rfl, ⟨g, cv', ⟨?_, ?_, by simp, hlen⟩, rfl⟩, ?_, hE3.alloc _⟩
  · simpa using Blk.new w3 62 #[.slice (some ⟨g, 0, none⟩) bs.length cv', .int .i64 0, .int .i64 0]
  · simpa using ownsRow_ext hown3 (ext_alloc w3 _)
  · rintro k (rfl | rfl)
    · exact hE3.le
    · exact hgb
end Go.Proofs.Ytcnbnhncncgkaaa
