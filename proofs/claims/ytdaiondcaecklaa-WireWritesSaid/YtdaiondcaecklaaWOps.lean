/- The walks of a writer's other functions. -/
import Derived.Test.YtdaiondcaecklaaWNum
import Derived.StillTailTactics
namespace Go.Proofs.Ytdaiondcaecklaa
set_option linter.unusedVariables false
set_option linter.unusedSimpArgs false
open Go Go.RowKit
def byI (l : List UInt8) : List Int := l.map fun b => (b.toNat : Int)
theorem byI_length (l : List UInt8) : (byI l).length = l.length := by simp [byI]
theorem u8s_byI (l : List UInt8) : u8s l = (byI l).map (Value.int .u8) := by simp [u8s, byI]
theorem news_at {w : World} {p : Option Addr} {l : List UInt8} (h : NumsAt .u8 w p (byI l)) : ∀ a, p = some a → ∀ j u, (u8s l)[j]? = some u → w.cell? (a.add j) = some u := by
  rintro a rfl j u hj
  have hlt : j < (byI l).length := by
    have := (List.getElem?_eq_some_iff.1 hj).1
    rw [u8s_length] at this; rw [byI_length]; exact this
  obtain ⟨a', ha, _, hc⟩ := h j hlt
  injection ha with ha
  subst ha
  rw [hc]
  rw [u8s_byI, List.getElem?_map, List.getElem?_eq_getElem hlt] at hj
  rw [List.getD_eq_getElem?_getD, List.getElem?_eq_getElem hlt]
  simpa using hj
theorem wlen_any {W : World} {q : Nat} {l : List UInt8} {F : Nat → Prop} (h : wA q l W F) :
    Calls Try.prog 12 #[.pointer (some ⟨q, 0, none⟩)] W fun e W' => e = .returned (.int .i64 l.length) ∧ W = W' := by
  obtain ⟨v, hS⟩ := WSt.of h
  have c0 := hS.rep.blk.cell 0
  simp only [List.getElem?_toArray, List.getElem?_cons_zero, List.getElem?_cons_succ] at c0
  obtain ⟨pv, cv, rfl⟩ := ownsRow_slice hS.rep.own
  go_enter Try.func12, Try.ntmps12
  go_wp2_with fail
  go_ret
  exact ⟨rfl, rfl⟩
theorem wbyte_any {W : World} {q : Nat} {l : List UInt8} {F : Nat → Prop} (h : wA q l W F) (p : Option Addr) (c : Nat) (bs : List UInt8) (hN : NumsAt .u8 W p (byI bs)) (hp : p = none → bs.length = 0 ∧ c = 0)
    (hlen : l.length + bs.length ≤ 70368744177664) :
    Calls Try.prog 14 #[.pointer (some ⟨q, 0, none⟩), .slice p bs.length c] W fun e W' => e = .returned (.tuple #[]) ∧ Next F W W' (wA q (l ++ bs)) := by
  obtain ⟨i0, hi0, hz0, hz1, hz2⟩ := info_parts u8Info
  obtain ⟨v, hS⟩ := WSt.of h
  have c0 := hS.rep.blk.cell 0
  have hown := hS.rep.own
  simp only [List.getElem?_toArray, List.getElem?_cons_zero, List.getElem?_cons_succ] at c0
  have hb1 : l.length + bs.length ≤ maxLen := by unfold maxLen; omega
  have hb2 : (l.length + bs.length) * 1 ≤ 140737488355328 := by omega
  go_enter Try.func14, Try.ntmps14
  go_wp2_with (at_builtin; refine wpList_append_new rfl _ _ 23 rfl 5 i0 (.int .u8 0) 1 1 Try.underlying23 hi0 hz0 hz1 hz2 rfl (by decide) _ _ _ rfl hown p bs.length c (u8s bs) rfl (u8s_length bs ▸ (Nat.mul_one _).symm) hp (news_at hN) (u8s_one bs) hb1 hb2 ?_)
  intro v' w3 hown3 hg3 hf3
  obtain ⟨pv, cv, rfl⟩ := ownsRow_slice hown3
  have hb3 := hS.blk1 hg3
  have c03 := hb3.cell 0
  have f03 := hb3.frozen 0
  simp only [List.getElem?_toArray, List.getElem?_cons_zero, List.getElem?_cons_succ] at c03
  have hS3 := hS.put (l' := l ++ bs) (n := l.length + bs.length) (by rw [u8s_append]; exact hown3) (by simp) hg3 hf3
  clear hS hown hown3 hg3 hf3 hb3 c0 h
  go_wp2_with fail
  go_end0
  exact ⟨rfl, hS3.next⟩
theorem wfixed_any {W : World} {q : Nat} {l : List UInt8} {F : Nat → Prop} (h : wA q l W F) (n : Nat) (hn : n < 4294967296) (hlen : l.length ≤ 70368744177664) :
    Calls Try.prog 34 #[.pointer (some ⟨q, 0, none⟩), .int .u32 n] W fun e W' => e = .returned (.tuple #[]) ∧ Next F W W' (wA q (l ++ [UInt8.ofNat n, UInt8.ofNat (n / 256), UInt8.ofNat (n / 65536), UInt8.ofNat (n / 16777216)])) := by
  obtain ⟨i0, hi0, hz0, hz1, hz2⟩ := info_parts u8Info
  obtain ⟨v, hS⟩ := WSt.of h
  have c0 := hS.rep.blk.cell 0
  have hql := hS.rep.blk.lt
  have hown := hS.rep.own
  simp only [List.getElem?_toArray, List.getElem?_cons_zero, List.getElem?_cons_succ] at c0
  have hb1 : l.length + 4 ≤ maxLen := by unfold maxLen; omega
  have hb2 : (l.length + 4) * 1 ≤ 140737488355328 := by omega
  go_enter Try.func34, Try.ntmps34
  go_wp2_with (at_builtin; refine wpList_append_new rfl _ _ 23 rfl 5 i0 (.int .u8 0) 1 1 Try.underlying23 hi0 hz0 hz1 hz2 rfl (by decide) _ _ _ rfl (hown.alloc _) (some ⟨W.heap.size, 0, none⟩) 4 4 _ rfl rfl (fun h => nomatch h) (news_new _ _ _) (oneC4 _ _ _ _ _) hb1 hb2 ?_)
  intro v' w3 hown3 hg3 hf3
  obtain ⟨pv, cv, rfl⟩ := ownsRow_slice hown3
  have hb3 := hS.blk2 hg3
  have c03 := hb3.cell 0
  have f03 := hb3.frozen 0
  simp only [List.getElem?_toArray, List.getElem?_cons_zero, List.getElem?_cons_succ] at c03
  have hS3 := hS.put1 (l' := l ++ [UInt8.ofNat n, UInt8.ofNat (n / 256), UInt8.ofNat (n / 65536), UInt8.ofNat (n / 16777216)]) (n := l.length + 4) (by rw [u8s_append]; simpa [u8s, Nat.mod_eq_of_lt (show n / 16777216 < 256 by omega)] using hown3) (by simp) hg3 hf3
  clear hS hown hown3 hg3 hf3 hb3 c0 h
  go_wp2_with fail
  go_end0
  exact ⟨rfl, hS3.next⟩
theorem wbytes_any {W : World} {q : Nat} {l : List UInt8} {F : Nat → Prop} (h : wA q l W F) (hlen : l.length ≤ 70368744177664) :
    Calls Try.prog 13 #[.pointer (some ⟨q, 0, none⟩)] W fun e W' => (∃ v, e = .returned v ∧ W'.ownsRow W.heap.size 5 1 v l.length (u8s l)) ∧ Ext W W' := by
  obtain ⟨i0, hi0, hz0, hz1, hz2⟩ := info_parts u8Info
  obtain ⟨v, hS⟩ := WSt.of h
  have c0 := hS.rep.blk.cell 0
  have hql := hS.rep.blk.lt
  have hown := hS.rep.own
  simp only [List.getElem?_toArray, List.getElem?_cons_zero, List.getElem?_cons_succ] at c0
  obtain ⟨pv, cv, rfl⟩ := ownsRow_slice hown
  have hE := ext_alloc W (.cells #[] 5)
  go_enter Try.func13, Try.ntmps13
  have hlit := World.ownsRow_made (base := 0) (e := 5) (size := 1) W #[] 0 (Nat.zero_le _) (by simp) rfl
  have hb1 : 0 + l.length ≤ maxLen := by unfold maxLen; omega
  have hb2 : (0 + l.length) * 1 ≤ 140737488355328 := by omega
  go_wp2_with (at_builtin; refine wpList_append_new rfl _ _ 23 rfl 5 i0 (.int .u8 0) 1 1 Try.underlying23 hi0 hz0 hz1 hz2 rfl (by decide) _ 0 [] rfl hlit pv l.length cv (u8s l) rfl (u8s_length l ▸ (Nat.mul_one _).symm) (row_nil hown) (row_news (ownsRow_ext hown hE)) (u8s_one l) hb1 hb2 ?_)
  intro v' w3 hown3 hg3 hf3
  obtain ⟨pv', cv', rfl⟩ := ownsRow_slice hown3
  have hE3 : Ext W w3 := hE.grown hg3 (by simp) (fun k hk => by simp [Value.ownBlock] at hk; omega)
  have hown4 := ownsRow_base (b' := W.heap.size) hown3 (fun k hk => by
    rcases hf3.1 k hk with h1 | h1
    · simp [Value.ownBlock] at h1; omega
    · simp at h1; omega)
  clear hown3 hg3 hf3 hS hown hlit
  go_wp2_with fail
  go_ret
  exact ⟨⟨_, rfl, by simpa using hown4⟩, hE3⟩
def zigN (n : Int) : Nat := if 0 ≤ n then (2 * n).toNat else (-2 * n - 1).toNat
theorem xor_ones (a : Nat) (ha : a < 18446744073709551616) : a ^^^ 18446744073709551615 = 18446744073709551615 - a := by
  have h := congrArg BitVec.toNat (BitVec.xor_allOnes (x := BitVec.ofNat 64 a))
  rw [BitVec.toNat_xor, BitVec.toNat_not, BitVec.toNat_ofNat, Nat.mod_eq_of_lt (by omega)] at h
  simpa using h
theorem zig_pos (n : Int) (h0 : 0 ≤ n) (h2 : n ≤ 9223372036854775807) : bits .xor .u64 (n * 2) (n / 9223372036854775808) = (zigN n : Int) := by
  obtain ⟨a, rfl⟩ := Int.eq_ofNat_of_zero_le h0
  have e1 : (a : Int) * 2 = ((2 * a : Nat) : Int) := by omega
  have e2 : (a : Int) / 9223372036854775808 = ((0 : Nat) : Int) := by omega
  rw [e1, e2, xor_nat_u64 _ _ (by omega) (by omega)]
  simp [zigN]; omega
theorem zig_neg (n : Int) (h0 : n < 0) (h1 : -9223372036854775808 ≤ n) : bits .xor .u64 (IntKind.u64.wrap (IntKind.u64.wrap n * 2)) (IntKind.u64.wrap (n / 9223372036854775808)) = (zigN n : Int) := by
  obtain ⟨a, ha⟩ := Int.eq_ofNat_of_zero_le (show 0 ≤ 2 * n + 18446744073709551616 by omega)
  have e1 : IntKind.u64.wrap (IntKind.u64.wrap n * 2) = (a : Int) := by
    rw [IntKind.wrap_u64, IntKind.wrap_u64]; omega
  have e2 : IntKind.u64.wrap (n / 9223372036854775808) = ((18446744073709551615 : Nat) : Int) := by
    have : n / 9223372036854775808 = -1 := by omega
    rw [this, IntKind.wrap_u64]; rfl
  rw [e1, e2, xor_nat_u64 _ _ (by omega) (by omega), xor_ones a (by omega)]
  unfold zigN
  rw [if_neg (by omega)]
  omega
theorem ret_int {k : IntKind} {a b : Int} (h : a = b) : Ending.returned (.int k a) = .returned (.int k b) := by rw [h]
theorem zig_any (n : Int) (w : World) (h1 : -9223372036854775808 ≤ n) (h2 : n ≤ 9223372036854775807) :
    Calls Try.prog 39 #[.int .i64 n] w fun e w' => e = .returned (.int .u64 (zigN n)) ∧ w = w' := by
  rcases (show 0 ≤ n ∨ n < 0 by omega) with h | h
  · have E := Lib.hid (zig_pos n h h2)
    go_enter Try.func39, Try.ntmps39
    go_wp2_with fail
    go_ret
    exact ⟨ret_int E.out, rfl⟩
  · have E := Lib.hid (zig_neg n h h1)
    go_enter Try.func39, Try.ntmps39
    go_wp2_with fail
    go_ret
    exact ⟨ret_int E.out, rfl⟩
theorem zigN_lt {n : Int} (h1 : -9223372036854775808 ≤ n) (h2 : n ≤ 9223372036854775807) : zigN n < 18446744073709551616 := by
  unfold zigN; split <;> omega
theorem slice_sum (w : World) (a : Addr) : (Instr.sliceAt 45 (.pointer (some a)) none none none).run Try.prog w = .ok (.slice (some a) 32 32) w := by kernel_rfl
theorem wsum_any {W : World} {q : Nat} {l : List UInt8} {F : Nat → Prop} (h : wA q l W F) (bs : List UInt8) (hl : bs.length = 32) (hlen : l.length ≤ 70368744177664) :
    Calls Try.prog 38 #[.pointer (some ⟨q, 0, none⟩), .agg (u8s bs).toArray] W fun e W' => e = .returned (.tuple #[]) ∧ Next F W W' (wA q (l ++ bs)) := by
  obtain ⟨i0, hi0, hz0, hz1, hz2⟩ := info_parts u8Info
  obtain ⟨v, hS⟩ := WSt.of h
  have c0 := hS.rep.blk.cell 0
  have hql := hS.rep.blk.lt
  have hown := hS.rep.own
  simp only [List.getElem?_toArray, List.getElem?_cons_zero, List.getElem?_cons_succ] at c0
  obtain ⟨pv, cv, rfl⟩ := ownsRow_slice hown
  have hb1 : l.length + 32 ≤ maxLen := by unfold maxLen; omega
  have hb2 : (l.length + 32) * 1 ≤ 140737488355328 := by omega
  go_enter Try.func38, Try.ntmps38
  go_wp2_with fail
  have hnews := news_new W (u8s bs) 45
  have hbx : W.heap.size < (W.alloc (.cells (u8s bs).toArray 45)).heap.size := by simp
  have hS2 := hS.ext (ext_alloc W (.cells (u8s bs).toArray 45))
  generalize W.alloc _ = W2 at *
  have c02 := hS2.rep.blk.cell 0
  have hown2 := hS2.rep.own
  simp only [List.getElem?_toArray, List.getElem?_cons_zero, List.getElem?_cons_succ] at c02
  have hsl := slice_sum
  have hne_ : Nonempty (Of (fun _ : World => True)) := (trueOf_ne (W := by assumption))
  refine region_order [0,1,2,3,5,4,6,7,8,9] [true,true,true,true,true,false,false,true,true,false] (fun w' => ∃ x : Of (fun _ : World => True), w' = x.val) (by kernel_rfl) (by kernel_rfl) (trueOf _) ?_
  simp only [List.filterMap_cons, List.filterMap_nil, List.getElem?_cons_zero, List.getElem?_cons_succ]
  refine walk_quiet 5 (by kernel_rfl) ?_
  simp only [List.take_succ_cons, List.take_zero, List.drop_succ_cons, List.drop_zero]
  repeat (go_big_quiet_step (fail))
  refine wpQuiet_nil ?_
  refine walk_want rfl (fun K hK => ?_)
  go_simp
  refine hK _ _ (trueOf _) ?_
  clear hK K
  refine walk_want rfl (fun K hK => ?_)
  refine wp_append_new _ _ 23 rfl 5 i0 (.int .u8 0) 1 1 Try.underlying23 hi0 hz0 hz1 hz2 rfl (by decide) _ _ _ rfl (World.ownsRow.drew hown2) (some ⟨W.heap.size, 0, none⟩) 32 32 (u8s bs) rfl (by rw [u8s_length, hl]) (fun h => nomatch h) hnews (u8s_one bs) hb1 hb2 ?_
  intro v' w3 hown3 hg3 hf3
  have hS4 : WSt F W W2.drew q _ l := hS2.ext (Ext.refl _).drew
  obtain ⟨pv, cv, rfl⟩ := ownsRow_slice hown3
  have hb3 := hS4.blk1 hg3
  have c03 := hb3.cell 0
  have f03 := hb3.frozen 0
  simp only [List.getElem?_toArray, List.getElem?_cons_zero, List.getElem?_cons_succ] at c03
  have hS3 := hS4.put (l' := l ++ bs) (n := l.length + 32) (by rw [u8s_append]; exact hown3) (by simp [hl]) hg3 hf3
  refine hK _ _ (trueOf _) ?_
  clear hK K hS hS2 hS4 hown hown2 hown3 hg3 hf3 hb3 c0 c02 h hnews
  simp only [Act.put, List.setIfInBounds_toArray, List.set_cons_succ, List.set_cons_zero]
  refine walk_quiet 2 (by kernel_rfl) ?_
  simp only [List.take_succ_cons, List.take_zero, List.drop_succ_cons, List.drop_zero]
  repeat (go_big_quiet_step (fail))
  refine wpQuiet_nil ?_
  refine walk_want rfl (fun K hK => ?_)
  go_simp
  refine hK _ _ (trueOf _) ?_
  clear hK K
  refine walk_nil ?_
  go_wp2_with fail
  go_end0
  exact ⟨rfl, hS3.next⟩
end Go.Proofs.Ytdaiondcaecklaa
