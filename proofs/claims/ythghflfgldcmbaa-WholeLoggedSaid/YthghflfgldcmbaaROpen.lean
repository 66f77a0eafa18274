/- A ring's Open. -/
import Derived.Test.YthghflfgldcmbaaRRead
namespace Go.Proofs.Ythghflfgldcmbaa
set_option maxRecDepth 4000
set_option linter.unusedVariables false
set_option linter.unusedSimpArgs false
open Go Go.RowKit
theorem ring_build (X : World) (d T : Nat) : (Instr.build 82 #[(0, .pointer (some ⟨d, 0, none⟩)), (1, .int .i64 2), (2, .int .i64 192), (3, .int .u64 T)]).run Try.prog X = .ok (.agg #[.pointer (some ⟨d, 0, none⟩), .int .i64 2, .int .i64 192, .int .u64 T, .slice none 0 0]) X := by kernel_rfl
/-- a ring's bytes behind the last whole sector -/
def DS.restR (s : DS) (T : Nat) : List UInt8 := (s.readB (2 + T / 128)).take (T % 128)
theorem slice_hm (X : World) (p : Option Addr) (n c k : Nat) (h : k ≤ c) : (Instr.sliceAt 36 (.slice p n c) none (some (.int .i64 k)) (some (.int .i64 k))).run Try.prog X = .ok (.slice p k k) X := by
  have ht : Try.prog.underlying 36 = some (.slice (Try.prog.elem 36)) := by kernel_rfl
  have hs : (sizeOf (Try.prog.elem 36)).run Try.prog X = .ok 1 X := by kernel_rfl
  rw [run_sliceAt_slice (w := X) _ _ _ _ _ ht, run_slice_hm (w := X) _ p n c ht .i64 .i64 k k (by omega) (by omega) (by omega), hs]
  have h0 : p.map (·.add (0 * 1)) = p := by cases p <;> simp [Addr.add]
  simp [sliced, Result.andThen, h0]
theorem Has.viewTake {w W : World} {ps : List Asr} {p : Option Addr} {n c : Nat} {l : List UInt8} (h : Has w W (rowA 5 1 (.slice p n c) n (u8s l) :: ps)) (hl : Locs ps) (k c' : Nat) (h1 : k ≤ l.length) (h2 : k ≤ c') (h3 : c' ≤ maxLen) (h4 : p = none → c' = 0) : Has w W (viewA p c' (l.take k) :: ps) :=
  h.next hl fun F hF => by
    obtain ⟨hr, rfl⟩ := hF
    refine Next.mk (F' := fun k => ∃ a, p = some a ∧ a.block = k) ⟨(View.of_row hr).take k c' h1 h2 h3 h4, rfl⟩ (Tch.refl _ _) (fun j hj => Or.inl ?_)
    obtain ⟨a, rfl, rfl⟩ := hj
    rfl
theorem Has.viewRow {w W : World} {ps : List Asr} {p : Option Addr} {n c : Nat} {l : List UInt8} (h : Has w W (rowA 5 1 (.slice p n c) n (u8s l) :: ps)) (hl : Locs ps) : Has w W (viewA p c l :: ps) :=
  h.next hl fun F hF => by
    obtain ⟨hr, rfl⟩ := hF
    refine Next.mk (F' := fun k => ∃ a, p = some a ∧ a.block = k) ⟨View.of_row hr, rfl⟩ (Tch.refl _ _) (fun j hj => Or.inl ?_)
    obtain ⟨a, rfl, rfl⟩ := hj
    rfl
theorem Has.viewNil {w W : World} {ps : List Asr} (h : Has w W ps) (hl : Locs ps) : Has w W (viewA none 0 [] :: ps) :=
  h.add hl (Ext.refl W) (F := fun k => ∃ a, (none : Option Addr) = some a ∧ a.block = k) ⟨View.none_, rfl⟩ (fun k hk => by obtain ⟨a, ha, _⟩ := hk; cases ha)
def RoOut (w W' : World) (d : Nat) (s : DS) (ps : List Asr) (T : Nat) (e : Ending) : Prop :=
  ∃ g p c, e = .returned (.tuple #[.pointer (some ⟨g, 0, none⟩), .int .i64 0]) ∧ dkH w W' d s (ringA g d T (.slice p (T % 128) c) :: viewA p c (s.restR T) :: ps)
set_option maxHeartbeats 4000000 in
theorem ropen_any {w W : World} {d : Nat} {s : DS} {ps : List Asr} {T : Nat} (h : dkH w W d s ps) (hl : Locs ps) (hn : s.n = 194) (hdn : s.down = false) (hT : T ≤ 24576) :
    Calls Try.prog 16 #[.pointer (some ⟨d, 0, none⟩), .int .i64 2, .int .i64 192, .int .u64 T] W fun e W' => RoOut w W' d s ps T e := by
  have hbd := fun X => ring_build X d T
  have hmod : (T : Int) % 128 = ((T % 128 : Nat) : Int) := by omega
  obtain ⟨r, hr⟩ : ∃ r, T % 128 = r := ⟨_, rfl⟩
  rw [hr] at hmod
  have hr128 : r < 128 := by omega
  go_enter Try.func16, Try.ntmps16
  go_wp2_with fail
  refine (sectors_any h).mono ?_
  rintro e W2 ⟨rfl, rfl⟩
  rw [hn]
  go_wp2_with fail
  refine (sectors_any h).mono ?_
  rintro e W2 ⟨rfl, rfl⟩
  rw [hn]
  have h1 := h.new hl 82 #[.pointer (some ⟨d, 0, none⟩), .int .i64 2, .int .i64 192, .int .u64 T, .slice none 0 0]
  have hlt : W.heap.size < (W.alloc (.cells #[.pointer (some ⟨d, 0, none⟩), .int .i64 2, .int .i64 192, .int .u64 T, .slice none 0 0] 82)).heap.size := by simp
  have HR := Lib.hid hr
  clear h
  by_cases hp : (0 : Int) < r
  · have hT2 : T < 24576 := by omega
    go_upto_region 6 with fail
    refine gen_world' (fun X => dkH w X d s (ringA W.heap.size d T (.slice none 0 0) :: ps)) h1 ?_
    clear h1 hlt
    generalize W.heap.size = g at *
    intro W1 h1
    have hring : Ring W1 g d T (.slice none 0 0) := h1.rest.blk0
    go_wp2_with fail
    refine (sector_any hring T hT2).mono ?_
    rintro e W2 ⟨rfl, hE2⟩
    have h2 := h1.ext (.cons (ringA_loc _ _ _ _) hl) hE2
    have hrd := read_any h2 (.cons (ringA_loc _ _ _ _) hl) (2 + T / 128) (by omega) hdn
    clear h1 hring hE2
    go_wp2_with fail
    refine hrd.mono ?_
    rintro e W3 ⟨a, c, rfl, h3⟩
    clear hrd h2
    have hown := h3.rest.row0
    have hlen := sec_len hown
    have hcc : 128 ≤ c := by have := (View.of_row hown).le; omega
    have hsl := slice_hm W3 (some a) 128 c r (by omega)
    have h4 : dkH w W3 d s (viewA (some a) r ((s.readB (2 + T / 128)).take r) :: ringA g d T (.slice none 0 0) :: ps) := h3.turn (fun hl h => h.viewTake hl r r (by omega) (Nat.le_refl _) (by unfold maxLen; omega) (fun h => by cases h)) (.cons (ringA_loc _ _ _ _) hl)
    have h5 : dkH w W3 d s (ringA g d T (.slice none 0 0) :: viewA (some a) r ((s.readB (2 + T / 128)).take r) :: ps) := h4.perm (List.Perm.swap _ _ _)
    have hb : Ring W3 g d T (.slice none 0 0) := h5.rest.blk0
    have hf4 := hb.frozen 4
    have c4 := hb.cell 4
    have h6 : dkH w (W3.setCell ⟨g, 4, none⟩ (.slice (some a) r r)) d s (ringA g d T (.slice (some a) r r) :: viewA (some a) r ((s.readB (2 + T / 128)).take r) :: ps) := h5.turn (fun hl h => h.set hl 4 (.slice (some a) r r)) (.cons (viewA_loc _ _ _) hl)
    clear h3 h4 h5 hown
    go_wp2_with fail
    go_ret2
    refine ⟨g, some a, r, rfl, ?_⟩
    rw [HR.out]
    unfold DS.restR
    rw [HR.out]
    exact h6
  · have hr0 : r = 0 := by omega
    go_wp2_with fail
    go_ret2
    refine ⟨W.heap.size, none, 0, rfl, ?_⟩
    unfold DS.restR
    rw [HR.out, hr0, List.take_zero]
    exact (h1.with_ (fun hl h => h.viewNil hl) (.cons (blkA_loc _ _ _) hl)).perm (List.Perm.swap _ _ _)
end Go.Proofs.Ythghflfgldcmbaa
