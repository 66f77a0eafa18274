/- A disk's helpers: a counter is raised; bytes are cloned; a number is looked for in a row. -/
import Derived.Test.YthghflfgldcmbaaDRep
import Derived.Laws.LoneSync
import Derived.Lib.Hide
import Derived.Lib.LazyBuf
import Derived.LoopTactic
namespace Go.Proofs.Ythghflfgldcmbaa
set_option maxRecDepth 4000
set_option linter.unusedVariables false
set_option linter.unusedSimpArgs false
open Go Go.RowKit Go.MapKept Go.ChangeMaps
theorem u8Info : (Try.prog.info? 5).map (fun i => (i.zero, i.size, i.bytes)) = some (some (.int .u8 0), 1, 1) := by kernel_rfl
theorem count_any {W : World} {d i : Nat} {x : Int} (hc : W.cell? ⟨d, i, none⟩ = some (.int .i64 x)) (hf : W.frozen? ⟨d, i, none⟩ = false) :
    Calls Try.prog 48 #[.pointer (some ⟨d, i, none⟩), .int .i64 1] W fun e W' => e = .returned (.int .i64 (wrap64 (x + 1))) ∧ W' = W.setCell ⟨d, i, none⟩ (.int .i64 (wrap64 (x + 1))) := by
  have hadd := run_call_add (P := Try.prog) Try.func61 (by kernel_rfl) (by kernel_rfl) (by kernel_rfl) .i64 (by kernel_rfl) (y := 1) (s := wrap64 (x + 1)) hc hf (by simp [go_sem, wrap64, IntKind.wrap_i64])
  generalize wrap64 (x + 1) = z at *
  go_enter Try.func48, Try.ntmps48
  go_wp2
  go_ret
  exact ⟨rfl, rfl⟩
/-- a row of bytes in a new block -/
def Cloned (W : World) (l : List UInt8) (e : Ending) (W' : World) : Prop := ∃ q c, e = .returned (.slice q l.length c) ∧ W'.ownsRow W.heap.size 5 1 (.slice q l.length c) l.length (u8s l) ∧ Ext W W' ∧ q ≠ none
theorem clone_any {W : World} {a : Addr} {c : Nat} {l : List UInt8} (hN : ∀ j u, (u8s l)[j]? = some u → W.cell? (a.add j) = some u) (hab : a.block < W.heap.size) (hlen : l.length ≤ 70368744177664) :
    Calls Try.prog 44 #[.slice (some a) l.length c] W fun e W' => Cloned W l e W' := by
  obtain ⟨i0, hi0, hz0, hz1, hz2⟩ := info_parts u8Info
  have hE := ext_alloc W (.cells #[] 5)
  have hlit := World.ownsRow_made (base := 0) (e := 5) (size := 1) W #[] 0 (Nat.zero_le _) (by simp) rfl
  have hb1 : 0 + l.length ≤ maxLen := by unfold maxLen; omega
  have hb2 : (0 + l.length) * 1 ≤ 140737488355328 := by omega
  have hnews : ∀ b, some a = some b → ∀ j u, (u8s l)[j]? = some u → (W.alloc (.cells #[] 5)).cell? (b.add j) = some u := by
    rintro b hb j u hj
    injection hb with hb
    subst hb
    have h2 : (a.add j).block = a.block := by unfold Addr.add; first | rfl | (split <;> rfl)
    exact (World.cell?_of_block (w := W) (a := a.add j) (hE.block _ (by rw [h2]; exact hab))).trans (hN j u hj)
  have HN := Lib.hid hN
  clear hN
  have heq := fun w => Go.run_eql_slice_nil (P := Try.prog) w 36 5 (some a) l.length c Try.underlying36
  simp only [Option.isNone_some] at heq
  go_enter Try.func44, Try.ntmps44
  go_wp2_with (at_builtin; refine wpList_append_new rfl _ _ 36 rfl 5 i0 (.int .u8 0) 1 1 Try.underlying36 hi0 hz0 hz1 hz2 rfl (by decide) _ 0 [] rfl hlit (some a) l.length c (u8s l) rfl (u8s_length l ▸ (Nat.mul_one _).symm) (fun h => nomatch h) hnews (u8s_one l) hb1 hb2 ?_)
  intro v' w3 hown3 hg3 hf3
  obtain ⟨pv', cv', rfl⟩ := ownsRow_slice hown3
  have hE3 : Ext W w3 := hE.grown hg3 (by simp) (fun k hk => by simp [Value.ownBlock] at hk; omega)
  have hown4 := ownsRow_base (b' := W.heap.size) hown3 (fun k hk => by
    rcases hf3.1 k hk with h1 | h1
    · simp [Value.ownBlock] at h1; omega
    · simp at h1; omega)
  have hne : pv' ≠ none := by
    have := hf3.2 (by simp [Value.ownBlock])
    rintro rfl
    exact this rfl
  clear hown3 hg3 hf3 hlit hnews
  go_wp2_with fail
  go_ret
  exact ⟨pv', cv', rfl, by simpa using hown4, hE3, hne⟩
def IxRel (w : World) (p : Option Addr) (zs : List Int) (n : Int) (v : Value) (wr : World) : Prop :=
  ∃ i : Nat, i ≤ zs.length ∧ v = .int .i64 i ∧ (∀ j, j < i → zs.getD j 0 ≠ n) ∧ wr = w
def idxI (zs : List Int) (n : Int) : Int := match zs.findIdx? (· == n) with | some i => i | none => -1
theorem idxI_hit {zs : List Int} {n : Int} {i : Nat} (hi : i < zs.length) (h : zs.getD i 0 = n) (hb : ∀ j, j < i → zs.getD j 0 ≠ n) : idxI zs n = i := by
  have : zs.findIdx? (· == n) = some i := by
    rw [List.findIdx?_eq_some_iff_getElem]
    refine ⟨hi, ?_, fun j hj => ?_⟩
    · rw [List.getD_eq_getElem?_getD, List.getElem?_eq_getElem hi] at h
      simpa using h
    · have := hb j hj
      rw [List.getD_eq_getElem?_getD, List.getElem?_eq_getElem (by omega)] at this
      simpa using this
  unfold idxI; rw [this]
theorem idxI_none {zs : List Int} {n : Int} (hb : ∀ j, j < zs.length → zs.getD j 0 ≠ n) : idxI zs n = -1 := by
  have : zs.findIdx? (· == n) = none := by
    rw [List.findIdx?_eq_none_iff]
    intro x hx
    obtain ⟨j, hj, rfl⟩ := List.mem_iff_getElem.1 hx
    have := hb j hj
    rw [List.getD_eq_getElem?_getD, List.getElem?_eq_getElem hj] at this
    simpa using this
  unfold idxI; rw [this]
theorem idxI_ge (zs : List Int) (n : Int) : decide (0 ≤ idxI zs n) = zs.contains n := by
  by_cases h : n ∈ zs
  · have h2 : zs.contains n = true := by simpa using h
    rw [h2]
    unfold idxI
    cases hf : zs.findIdx? (· == n) with
    | none => rw [List.findIdx?_eq_none_iff] at hf; have := hf n h; simp at this
    | some i => exact decide_eq_true (by show (0:Int) ≤ (i : Int); omega)
  · have h2 : zs.contains n = false := by simpa using h
    rw [h2]
    have : idxI zs n = -1 := idxI_none fun j hj e => h (e ▸ getD_mem zs 0 j hj)
    rw [this]; rfl
theorem index_any (w : World) (p : Option Addr) (c : Nat) (zs : List Int) (n : Int) (hN : NumsAt .i64 w p zs) (hz : zs.length ≤ maxLen) :
    Calls Try.prog 40 #[.slice p zs.length c, .int .i64 n] w fun e w' => e = .returned (.int .i64 (idxI zs n)) ∧ w = w' := by
  have hzl : (zs.length : Int) ≤ 9223372036854775807 := by unfold maxLen at hz; omega
  clear hz
  go_enter Try.func40, Try.ntmps40
  go_wp2_with fail
  go_loopw [8] (fun v wr => IxRel w p zs n v wr) (fun v _ => ((zs.length : Int) + 1 - intOf v).toNat)
  case atStart => exact ⟨0, by omega, rfl, fun j hj => by omega, rfl⟩
  case round =>
    obtain ⟨i, hi, rfl, hb, rfl⟩ := hrel
    have HB := Lib.hid hb
    clear hb
    by_cases gi : (i : Int) < zs.length
    · obtain ⟨a, rfl, hcell⟩ := hN.get (Ext.refl _) i (by omega)
      by_cases he : zs.getD i 0 = n
      · have HI := Lib.hid (idxI_hit (by omega) he HB.out)
        rw [he] at hcell
        clear he
        go_wp2_with fail
        go_ret
        exact ⟨by rw [HI.out]; rfl, rfl⟩
      · have hq : (n == zs.getD i 0) = false := by simpa using fun h => he h.symm
        have HE := Lib.hid he
        clear he
        generalize hx : zs.getD i 0 = x at *
        have HX := Lib.hid hx
        clear hx
        go_wp2_with fail
        refine ⟨⟨i + 1, by omega, by go_num, fun j hj => ?_, rfl⟩, by simp [intOf]; omega⟩
        rcases Nat.lt_or_ge j i with h | h
        · exact HB.out j h
        · have : j = i := by omega
          rw [this, HX.out]; exact HE.out
    · have HI := Lib.hid (idxI_none (zs := zs) (n := n) fun j hj => HB.out j (by omega))
      go_wp2_with fail
      go_ret
      exact ⟨by rw [HI.out]; rfl, rfl⟩
theorem contains_any (w : World) (p : Option Addr) (c : Nat) (zs : List Int) (n : Int) (hN : NumsAt .i64 w p zs) (hz : zs.length ≤ maxLen) :
    Calls Try.prog 23 #[.slice p zs.length c, .int .i64 n] w fun e w' => e = .returned (.bool (zs.contains n)) ∧ w = w' := by
  have hI := index_any w p c zs n hN hz
  rw [← idxI_ge]
  generalize idxI zs n = x at *
  go_enter Try.func23, Try.ntmps23
  go_wp2_with fail
  refine hI.mono ?_
  rintro e w' ⟨rfl, rfl⟩
  go_wp2_with fail
  go_ret
  exact ⟨rfl, rfl⟩
end Go.Proofs.Ythghflfgldcmbaa
