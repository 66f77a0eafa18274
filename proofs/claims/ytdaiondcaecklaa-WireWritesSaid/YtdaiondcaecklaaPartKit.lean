/- One part, taken out of a list and boxed. -/
import Derived.Test.YtdaiondcaecklaaWrites
import Derived.Test.YtdaiondcaecklaaRSum
import Derived.Test.YtdaiondcaecklaaWritesPlain
import Derived.Deep.MidRow
import Derived.ChangeKeysEq
import Derived.Test.YtdaiondcaecklaaSteps
namespace Go.Proofs.Ytdaiondcaecklaa
set_option linter.unusedVariables false
set_option linter.unusedSimpArgs false
open Go Go.RowKit
theorem partInfo : (Try.prog.info? 52).map (·.size) = some 36 := by kernel_rfl
theorem prt_size {w : World} {q : Prt} (h : q.Ok w) : q.cells.length = 36 := by simp [Prt.cells, u8s, h.sum]
theorem prt_one (q : Prt) : q.cells.toArray.all (·.oneCell') = true := by
  rw [Array.all_eq_true']
  intro x hx
  have hx' : x ∈ q.cells := by simpa using hx
  simp only [Prt.cells, List.mem_append, List.mem_cons, List.not_mem_nil, or_false] at hx'
  rcases hx' with (rfl | rfl | rfl | rfl) | h
  · rfl
  · rfl
  · rfl
  · rfl
  · exact u8s_one _ _ h
theorem wpList_load_rowG {P : Program} {ops : Array Oper} {rest : List Oper} {o : Oper} {a : Act} {w : World} {Q : Exit → Act → World → Prop} (ty : TypeId) (x : Operand) (ho : o.op = .load ty x)
    (g : Nat) (hx : a.eval x = .pointer (some ⟨g, 0, none⟩)) (t : TypeId) (cs : Array Value) (fr : Nat × Nat) (d : TypeDesc) (hg : w.heap[g]? = some (.cells cs t fr))
    (hu : P.underlying ty = some d) (hd : (match d with | .struct _ | .array _ _ => true | _ => false) = true) (hi : (P.info? ty).map (·.size) = some cs.size)
    (hw : Region.wanted o (yielded ops a.tmps) = true) (h : wpList P ops Q rest (a.put o.dst (.agg cs)) w) : wpList P ops Q (o :: rest) a w := by
  refine wpList_step fun K hK => ?_
  rw [if_pos hw]
  exact wp_load_row ty x ho g hx t cs fr d hg hu hd hi (hK _ _ h)
theorem Has.fourth {w W : World} {p q r s : Asr} (h : Has w W [p, q, r, s]) : Has w W [s, p, q, r] := h.perm (List.perm_append_comm (l₁ := [p, q, r]) (l₂ := [s]))
theorem gen_wpList {P : Program} {ops rest : _} {Q : Exit → Act → World → Prop} {a : Act} {w : World} (F : World → Prop) (hf : F w) (h : ∀ W, F W → wpList P ops Q rest a W) : wpList P ops Q rest a w := h w hf
theorem part_box (w : World) (old cs : Array Value) (t : TypeId) : Ext w ((w.alloc (.cells old t)).setRow w.heap.size cs) ∧ Blk ((w.alloc (.cells old t)).setRow w.heap.size cs) w.heap.size t cs := by
  refine ⟨?_, setRow_blk (Blk.new _ _ _)⟩
  have h := setRow_ext (g := w.heap.size) (cs := cs) (fun _ => False) (Tch.of_ext (S := fun _ => False) (ext_alloc w (.cells old t))) (Nat.le_refl _)
  exact h.ext (fun _ h => h.elim)
/-- a part's box: its cells -/
def pA (g : Nat) (q : Prt) : Asr := blkA g 52 q.cells.toArray
theorem pA_loc (g : Nat) (q : Prt) : Loc (pA g q) := blkA_loc _ _ _
theorem strOf_list (x : List UInt8) : (strOf x).data.toList = x := by simp [strOf]
theorem wtext_list {W : World} {q : Nat} {l : List UInt8} {F : Nat → Prop} (h : wA q l W F) (x : List UInt8) (hs : x.length ≤ 70368744177664) (hlen : l.length + 10 ≤ 70368744177664) :
    Calls Try.prog 36 #[.pointer (some ⟨q, 0, none⟩), .string (strOf x)] W fun e W' => e = .returned (.tuple #[]) ∧ Next F W W' (wA q (l ++ (numB x.length ++ x))) := by
  have := wtext_any h (strOf x) (by rw [strOf_size]; exact hs) hlen
  rwa [strOf_size, strOf_list] at this
theorem pA_sum {g : Nat} {q : Prt} {W : World} {F : Nat → Prop} (h : pA g q W F) : W.rangeAt g 4 (u8s q.sum) ∧ ∀ i, i < q.sum.length → W.cell? ⟨g, 4 + i, none⟩ = some (.int .u8 ((q.sum.getD i 0).toNat : Int)) := by
  have key : ∀ i v, (u8s q.sum)[i]? = some v → W.cell? ⟨g, 4 + i, none⟩ = some v := by
    intro i v hv
    rw [h.1.cell, List.getElem?_toArray, Prt.cells, List.getElem?_append_right (by simp)]
    simp only [List.length_cons, List.length_nil]
    rw [show 4 + i - (0 + 1 + 1 + 1 + 1) = i by omega, hv]
  refine ⟨fun i v hv => key i v hv, fun i hi => key i _ ?_⟩
  rw [u8s, List.getElem?_map, List.getElem?_eq_getElem hi, List.getD_eq_getElem?_getD, List.getElem?_eq_getElem hi]; rfl
theorem int_read {b t : List UInt8} {n : Int} {i : Nat} (h1 : -9223372036854775808 ≤ n) (h2 : n ≤ 9223372036854775807) (h : b.drop i = numB (zigN n) ++ t) : Rd.num 18446744073709551615 ⟨b, i, 0⟩ = (zigN n, ⟨b, i + (numB (zigN n)).length, 0⟩) := by
  have hz := zigN_lt h1 h2
  exact num_read hz (by omega) h
theorem rint_read {W : World} {r : Nat} {b t : List UInt8} {n : Int} {i : Nat} {F : Nat → Prop} (h1 : -9223372036854775808 ≤ n) (h2 : n ≤ 9223372036854775807) (hd : b.drop i = numB (zigN n) ++ t) (h : rA r ⟨b, i, 0⟩ W F) :
    Calls Try.prog 19 #[.pointer (some ⟨r, 0, none⟩)] W fun e' W' => e' = .returned (.int .i64 n) ∧ Next F W W' (rA r ⟨b, i + (numB (zigN n)).length, 0⟩) := by
  have := rint_any h
  rw [int_read h1 h2 hd] at this
  simp only [zag_zig n h1 h2] at this
  exact this
theorem eqItems_u8 (w : World) (xs : Array Value) (d : Nat) : ∀ is : List Nat, (∀ i ∈ is, ∃ n, xs[i * 1]? = some (.int .u8 n)) → (Op.eqItems (d + 1) 5 1 xs xs is).run Try.prog w = .ok true w
  | [], _ => by simp [Op.eqItems]
  | i :: is, h => by
    obtain ⟨n, hn⟩ := h i (by simp)
    have hp : (part 5 xs (i * 1)).run Try.prog w = .ok (.int .u8 n) w := run_part_plain w (by kernel_rfl) hn
    simp only [Op.eqItems, Sem.run_bind, hp, Result.andThen_ok, run_equalIn_int w d 5 .u8 .u8 n n Try.underlying5]
    simpa using eqItems_u8 w xs d is fun j hj => h j (by simp [hj])
theorem eq_sum (cs : List UInt8) (h : cs.length = 32) (w : World) : (Op.equalIn 10000 45 (.agg (u8s cs).toArray) (.agg (u8s cs).toArray)).run Try.prog w = .ok true w := by
  obtain ⟨i0, hi0, _⟩ := info_parts u8Info
  have hc : Try.prog.cellsOf 5 = 1 := by kernel_rfl
  rw [show (10000 : Nat) = 9999 + 1 from rfl, run_equalIn_array w 9999 (n := 32) (e := 5) _ _ Try.underlying45 hi0, hc]
  refine eqItems_u8 w _ 9998 _ fun i hi => ?_
  have hi32 : i < cs.length := by rw [h]; simpa using hi
  refine ⟨((cs.getD i 0).toNat : Int), ?_⟩
  rw [Nat.mul_one, List.getElem?_toArray, u8s, List.getElem?_map, List.getElem?_eq_getElem hi32, List.getD_eq_getElem?_getD, List.getElem?_eq_getElem hi32]; rfl
theorem steps_load_mid {P : Program} {ops : Array Oper} {M : (World → Prop) → Act → World → Prop} {Q : Exit → Act → World → Prop} {F : World → Prop} {o : Oper} {ts : List Bool} {rest : List Oper} {a : Act} {w : World} (hw : Region.wanted o (yielded ops a.tmps) = true) (ty : TypeId) (x : Operand) (ho : o.op = .load ty x)
    (b off : Nat) (hx : a.eval x = .pointer (some ⟨b, off, none⟩)) (cs : List Value) (d : TypeDesc) (hS : ∀ w, F w → w.rangeAt b off cs) (hu : P.underlying ty = some d) (hd : d.isRow = true) (hi : (P.info? ty).map (·.size) = some cs.length)
    (h : walkL P ops M Q ts rest F (a.put o.dst (.agg cs.toArray)) w) : walkL P ops M Q (true :: ts) (o :: rest) F a w := by
  refine ⟨.agg cs.toArray, .inl ⟨hw, fun w' hw' => .inl ?_⟩, h⟩
  unfold execOp
  simp only [ho, hx, Instr.loadAt, Instr.sureAddr, Sem.run_bind, Sem.run_pure, Result.andThen_ok, run_loadVar_mid w' b off ty cs d (hS w' (cls_get hw')) hu hd hi]
end Go.Proofs.Ytdaiondcaecklaa
