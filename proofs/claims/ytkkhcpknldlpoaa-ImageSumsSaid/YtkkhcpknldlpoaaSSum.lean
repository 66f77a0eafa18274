/- Sum: what a hash tells. -/
import Derived.Test.YtkkhcpknldlpoaaSAdd
namespace Go.Proofs.Ytkkhcpknldlpoaa
set_option maxRecDepth 4000
set_option linter.unusedVariables false
set_option linter.unusedSimpArgs false
open Go Go.RowKit
/-- bytes in a row of one's own -/
def tlA (v : Value) (l : List UInt8) : Asr := rowA 5 1 v l.length (u8s l)
theorem tlA_loc (v : Value) (l : List UInt8) : Loc (tlA v l) := rowA_loc _ _ _ _ _
theorem tl_next {W W2 W' : World} {F : Nat → Prop} {v v' : Value} {l l' : List UInt8} (h : tlA v l W F) (hE : Ext W W2) (hg : W2.grownBy W' v.ownBlock) (hf : Fresh W2 v v') (ho : W'.ownsRow 0 5 1 v' l'.length (u8s l')) : Next F W W' (tlA v' l') := by
  obtain ⟨h1, rfl⟩ := h
  refine ⟨_, ⟨ho, rfl⟩, (Tch.of_ext hE).trans (grownBy.tch hg) (fun _ h _ => h), fun k hk => ?_⟩
  rcases hf.1 k hk with h2 | h2
  · exact Or.inl h2
  · exact Or.inr (Nat.le_trans hE.le h2)
def stLen : Value → Nat
  | .string b => b.size
  | _ => 0
def slLen : Value → Nat
  | .slice _ n _ => n
  | _ => 0
def tailOf (h : HS) (j : Nat) : List UInt8 := h.rest ++ 0x80 :: zb j
theorem tailOf_succ (h : HS) (j : Nat) : tailOf h (j + 1) = tailOf h j ++ [0] := by simp [tailOf, zb, List.replicate_succ']
theorem tailOf_len (h : HS) (j : Nat) : (tailOf h j).length = h.rest.length + 1 + j := by simp [tailOf, zb]; omega
theorem len8_len (n : Nat) : (len8 n).length = 8 := rfl
theorem len8_get (n j : Nat) (hj : j < 8) : (len8 n).getD j 0 = UInt8.ofNat (n * 8 % 18446744073709551616 / 2 ^ (56 - 8 * j)) := by
  rcases cases8 hj with rfl | rfl | rfl | rfl | rfl | rfl | rfl | rfl <;> rfl
theorem len8_val (n j M : Nat) (hj : j < 8) (hM : n * 8 % 18446744073709551616 = M) : (M : Int) / (2 : Int) ^ (56 - 8 * j) % (256 : Int) = (((len8 n).getD j 0).toNat : Int) := by
  rw [len8_get n j hj, hM]
  have : (UInt8.ofNat (M / 2 ^ (56 - 8 * j))).toNat = M / 2 ^ (56 - 8 * j) % 256 := by simp
  rw [this]
  simp
theorem len8_snoc (n j : Nat) (hj : j < 8) : (len8 n).take (j + 1) = (len8 n).take j ++ [(len8 n).getD j 0] := by
  rw [List.take_succ_eq_append_getElem (show j < (len8 n).length by rw [len8_len]; exact hj), List.getD_eq_getElem?_getD, List.getElem?_eq_getElem (show j < (len8 n).length by rw [len8_len]; exact hj)]
  rfl
theorem str_take (l : List UInt8) (n : Nat) : (strOf l).extract 0 n = strOf (l.take n) := by
  apply ByteArray.ext
  simp [strOf, ByteArray.data_extract]
theorem str_drop (l : List UInt8) (n m : Nat) (hm : m = l.length) : (strOf l).extract n m = strOf (l.drop n) := by
  subst hm
  apply ByteArray.ext
  simp [strOf, ByteArray.data_extract]
  exact List.take_of_length_le (by simp)
def SuRel1 (w : World) (g r : Nat) (S0 : St) (h : HS) (v : Value) (wr : World) : Prop :=
  ∃ j, j ≤ zeros h.rest.length ∧ Has w wr [tlA v (tailOf h j), StA g S0.list, SmA r (zb 32)]
def SuRel2 (w : World) (g r : Nat) (S0 : St) (h : HS) (v k : Value) (wr : World) : Prop :=
  ∃ j : Nat, j ≤ 8 ∧ k = .int .i64 (56 - 8 * (j : Int)) ∧ Has w wr [tlA v (tailOf h (zeros h.rest.length) ++ (len8 h.n).take j), StA g S0.list, SmA r (zb 32)]
def SuRel3 (w : World) (g r : Nat) (t : St × List UInt8) (v b : Value) (wr : World) : Prop :=
  ∃ (s : St) (l : List UInt8), b = .string (strOf l) ∧ eat s l = t ∧ l.length % 64 = 0 ∧ l.length ≤ 1000 ∧ Has w wr [StA g s.list, SmA r (zb 32)]
theorem hld {W X : World} {q : Nat} {v : Value} {h : HS} (hR : HRep W q v h) (hE : Ext W X) : Blk X q 139 (hcs h.s h.any v h.n) := hR.blk.of_eq (hE.block _ hR.blk.lt)
set_option maxRecDepth 100000 in
set_option maxHeartbeats 4000000 in
theorem sum_any {W : World} {q : Nat} {h : HS} {F : Nat → Prop} (hh : hA q h W F) :
    Calls Try.prog 79 #[.pointer (some ⟨q, 0, none⟩)] W fun e W' => e = .returned (smV h.sum) ∧ Ext W W' := by
  obtain ⟨i0, hi0, hz0, hz1, hz2⟩ := info_parts u8Info'
  obtain ⟨v, hR, -⟩ := hh
  obtain ⟨pv, cv, rfl⟩ := ownsRow_slice hR.own
  have hb := hR.blk
  go_enter Try.func79, Try.ntmps79
  have k0 : ∀ o, (W.alloc o).cell? ⟨q, 0, none⟩ = some (.int .u32 (wv h.s.a)) := fun o => (hld hR (ext_alloc W o)).cell 0
  have k1 : ∀ o, (W.alloc o).cell? ⟨q, 1, none⟩ = some (.int .u32 (wv h.s.b)) := fun o => (hld hR (ext_alloc W o)).cell 1
  have k2 : ∀ o, (W.alloc o).cell? ⟨q, 2, none⟩ = some (.int .u32 (wv h.s.c)) := fun o => (hld hR (ext_alloc W o)).cell 2
  have k3 : ∀ o, (W.alloc o).cell? ⟨q, 3, none⟩ = some (.int .u32 (wv h.s.d)) := fun o => (hld hR (ext_alloc W o)).cell 3
  have k4 : ∀ o, (W.alloc o).cell? ⟨q, 4, none⟩ = some (.int .u32 (wv h.s.e)) := fun o => (hld hR (ext_alloc W o)).cell 4
  have k5 : ∀ o, (W.alloc o).cell? ⟨q, 5, none⟩ = some (.int .u32 (wv h.s.f)) := fun o => (hld hR (ext_alloc W o)).cell 5
  have k6 : ∀ o, (W.alloc o).cell? ⟨q, 6, none⟩ = some (.int .u32 (wv h.s.g)) := fun o => (hld hR (ext_alloc W o)).cell 6
  have k7 : ∀ o, (W.alloc o).cell? ⟨q, 7, none⟩ = some (.int .u32 (wv h.s.h)) := fun o => (hld hR (ext_alloc W o)).cell 7
  go_upto_region 2 with fail
  have hH : Has W ((W.alloc (.cells (u8s (zb 32)).toArray 66)).alloc (.cells (u32s h.s.list).toArray 137)) [StA (W.heap.size + 1) h.s.list, SmA W.heap.size (zb 32)] := by
    have h1 := (Has.nil (Ext.refl W)).add .nil (ext_alloc W (.cells (u8s (zb 32)).toArray 66)) (p := SmA W.heap.size (zb 32)) (F := fun k => k = W.heap.size) ⟨Blk.new _ _ _, rfl⟩ (fun k hk => by omega)
    have h2 := h1.add (.cons (SmA_loc _ _) .nil) (ext_alloc _ (.cells (u32s h.s.list).toArray 137)) (p := StA (W.heap.size + 1) h.s.list) (F := fun k => k = W.heap.size + 1) ⟨by have := Blk.new (W.alloc (.cells (u8s (zb 32)).toArray 66)) 137 (u32s h.s.list).toArray; simpa using this, rfl⟩ (fun k hk => by simp; omega)
    exact h2
  refine gen_world' (fun X => Has W X [StA (W.heap.size + 1) h.s.list, SmA W.heap.size (zb 32)]) hH ?_
  clear hH k0 k1 k2 k3 k4 k5 k6 k7
  intro X hH
  generalize W.heap.size + 1 = g at *
  generalize W.heap.size = r at *
  have c8 : X.cell? ⟨q, 8, none⟩ = some (.bool h.any) := (hld hR hH.base).cell 8
  by_cases ha : h.any = true
  · rw [ha] at c8
    have HQ := Lib.hid (show h.sum = (eat h.s (tailOf h (zeros h.rest.length) ++ len8 h.n)).1.bytes by unfold HS.sum tailOf; rw [if_pos ha]; simp)
    generalize h.s = S0 at hH HQ
    go_upto_region 4 with fail
    have hE0 := hH.base.trans (ext_alloc X (.cells #[] 5))
    have x9 : (X.alloc (.cells #[] 5)).cell? ⟨q, 9, none⟩ = some (.slice pv h.rest.length cv) := (hld hR hE0).cell 9
    have hown := ownsRow_ext hR.own hE0
    have hlit := World.ownsRow_made (base := 0) (e := 5) (size := 1) X #[] 0 (Nat.zero_le _) (by simp) rfl
    have hr64 := hR.small
    have hb1 : 0 + h.rest.length ≤ maxLen := by unfold maxLen; omega
    have hb2 : (0 + h.rest.length) * 1 ≤ 140737488355328 := by omega
    have hl1 : (u8s h.rest).length = h.rest.length * 1 := by rw [u8s_length, Nat.mul_one]
    go_wp2_with (at_builtin; refine wpList_append_new rfl _ _ 30 rfl 5 i0 (.int .u8 0) 1 1 Try.underlying30 hi0 hz0 hz1 hz2 rfl (by decide) (.slice (some ⟨Array.size (World.heap X), 0, none⟩) 0 0) 0 [] rfl hlit pv h.rest.length cv (u8s h.rest) rfl hl1 (row_nil hown) (row_news hown) (u8s_one _) hb1 hb2 ?_)
    intro v4 w4 hown4 hg4 hf4
    have hlb : ∀ k, (Value.slice (some ⟨Array.size (World.heap X), 0, none⟩) 0 0).ownBlock = some k → Array.size (World.heap X) ≤ k := fun k hk => Nat.le_of_eq (by simpa [Value.ownBlock] using hk)
    obtain ⟨hE4, hb4⟩ := fresh_ext (ext_alloc X (.cells #[] 5)) hlb hg4 hf4
    have hown4' : w4.ownsRow 0 5 1 v4 h.rest.length (u8s h.rest) := by simpa using hown4
    obtain ⟨pv4, cv4, rfl⟩ := ownsRow_slice hown4'
    have hH4 := hH.add (.cons (StA_loc _ _) (.cons (SmA_loc _ _) .nil)) hE4 (p := tlA (.slice pv4 h.rest.length cv4) h.rest) (F := fun k => (Value.slice pv4 h.rest.length cv4).ownBlock = some k) ⟨hown4', rfl⟩ hb4
    clear hown4 hg4 hf4 hE4 hb4 hown4' hlit hown x9 hE0 hH
    go_upto_region 5 with fail
    have hr65 : h.rest.length < 65 := by omega
    obtain ⟨Ft, hFt⟩ := (hH4).head
    have hown := hFt.1
    have hb1 : (h.rest).length + 1 ≤ maxLen := by unfold maxLen; omega
    have hb2 : ((h.rest).length + 1) * 1 ≤ 140737488355328 := by omega
    go_wp2_with (at_builtin; refine wpList_append_new rfl _ _ 30 rfl 5 i0 (.int .u8 0) 1 1 Try.underlying30 hi0 hz0 hz1 hz2 rfl (by decide) _ _ _ rfl (hown.alloc _) (some ⟨Array.size (World.heap w4), 0, none⟩) 1 1 [.int .u8 128] rfl rfl (fun h => nomatch h) (news_new _ _ _) (oneC1 _ _) hb1 hb2 ?_)
    intro v5 w5 hown5 hg5 hf5
    have hown5' : w5.ownsRow 0 5 1 v5 (h.rest ++ [0x80]).length (u8s (h.rest ++ [0x80])) := by rw [List.length_append, u8s_append]; exact hown5
    have hH5 := (hH4).next (.cons (StA_loc _ _) (.cons (SmA_loc _ _) .nil)) (fun F hF => tl_next hF (ext_alloc _ _) hg5 hf5 hown5')
    obtain ⟨pv5, cv5, rfl⟩ := ownsRow_slice hown5
    clear hown5 hown5' hg5 hf5 hown hFt
    go_wp2_with fail
    clear hH4
    go_loopw [4] (fun v wr => SuRel1 W g r S0 h v wr) (fun v _ => (100 + h.rest.length) - slLen v)
    case atStart => exact ⟨0, by omega, by simpa [tailOf, zb] using hH5⟩
    case round =>
      clear hH5
      obtain ⟨j, hj, hH⟩ := hrel
      have hzl := zeros_lt h.rest.length
      have hz := zeros_is h.rest.length j hj
      have hlen := tailOf_len h j
      obtain ⟨Fv, hFv⟩ := hH.head
      obtain ⟨pv6, cv6, rfl⟩ := ownsRow_slice hFv.1
      clear hFv
      by_cases hjz : j = zeros h.rest.length
      · have e1 : ((tailOf h j).length : Int) % 64 = 56 := by have := hz.2 hjz; omega
        have e3 : (((tailOf h j).length : Int) % 64 != 56) = false := by simpa using e1
        have hle : (tailOf h j).length ≤ 200 := by omega
        subst hjz
        have HL := Lib.hid hlen
        clear hz hlen
        go_wp2_with fail
        have E1 := Lib.hid e1
        clear e1 e3
        go_loopw [4, 5] (fun v k wr => SuRel2 W g r S0 h v k wr) (fun _ k _ => (intOf k + 8).toNat)
        case atStart => exact ⟨0, by omega, rfl, by simpa using hH⟩
        case round =>
          clear hH
          obtain ⟨j, hj, rfl, hH⟩ := hrel
          obtain ⟨Fv, hFv⟩ := hH.head
          have hll : (tailOf h (zeros h.rest.length) ++ (len8 h.n).take j).length ≤ 300 := by
            have := HL.out
            have h8 : ((len8 h.n).take j).length ≤ 8 := by simp [len8]; omega
            rw [List.length_append]; omega
          obtain ⟨pv6, cv6, rfl⟩ := ownsRow_slice hFv.1
          clear hFv
          have c10 : wr.cell? ⟨q, 10, none⟩ = some (.int .u64 (h.n : Int)) := (hld hR hH.base).cell 10
          by_cases gj : j < 8
          · have hx0 : (0 : Int) ≤ 56 - 8 * (j : Int) := by omega
            have hx1 : (56 - 8 * (j : Int)) ≤ 56 := by omega
            have hN8 : IntKind.u64.wrap ((h.n : Int) * (8 : Int)) = ((h.n * 8 % 18446744073709551616 : Nat) : Int) := by rw [IntKind.wrap_u64]; omega
            have hMlt : h.n * 8 % 18446744073709551616 < 18446744073709551616 := Nat.mod_lt _ (by omega)
            generalize hM : h.n * 8 % 18446744073709551616 = M at hN8 hMlt
            have hby := len8_val h.n j M gj hM
            have hsn : tailOf h (zeros h.rest.length) ++ (len8 h.n).take (j + 1) = (tailOf h (zeros h.rest.length) ++ (len8 h.n).take j) ++ [(len8 h.n).getD j 0] := by rw [len8_snoc h.n j gj, List.append_assoc]
            have HN := Lib.hid hsn
            clear hsn
            generalize (len8 h.n).getD j 0 = x at hby HN
            generalize tailOf h (zeros h.rest.length) ++ (len8 h.n).take j = Lt at *
            go_upto_region 11 with fail
            obtain ⟨Ft, hFt⟩ := (hH).head
            have hown := hFt.1
            have hb1 : (Lt).length + 1 ≤ maxLen := by unfold maxLen; omega
            have hb2 : ((Lt).length + 1) * 1 ≤ 140737488355328 := by omega
            go_wp2_with (at_builtin; refine wpList_append_new rfl _ _ 30 rfl 5 i0 (.int .u8 0) 1 1 Try.underlying30 hi0 hz0 hz1 hz2 rfl (by decide) _ _ _ rfl (hown.alloc _) (some ⟨Array.size (World.heap wr), 0, none⟩) 1 1 [.int .u8 (x.toNat : Int)] rfl rfl (fun h => nomatch h) (news_new _ _ _) (oneC1 _ _) hb1 hb2 ?_)
            intro v5 w5 hown5 hg5 hf5
            have hown5' : w5.ownsRow 0 5 1 v5 (Lt ++ [x]).length (u8s (Lt ++ [x])) := by rw [List.length_append, u8s_append]; exact hown5
            have hH7 := (hH).next (.cons (StA_loc _ _) (.cons (SmA_loc _ _) .nil)) (fun F hF => tl_next hF (ext_alloc _ _) hg5 hf5 hown5')
            obtain ⟨pv5, cv5, rfl⟩ := ownsRow_slice hown5
            clear hown5 hown5' hg5 hf5 hown hFt
            clear hby hN8 hMlt c10 hH
            generalize hkk : (56 : Int) - 8 * (j : Int) = kk at *
            have HKK := Lib.hid hkk
            clear hkk
            go_wp2_with fail
            refine ⟨⟨j + 1, by omega, ?_, by rw [HN.out]; exact hH7⟩, ?_⟩
            · have := HKK.out
              congr 1; omega
            · have := HKK.out
              simp [intOf]; omega
          · have hj8 : j = 8 := by omega
            subst hj8
            have h56 : (56 : Int) - 8 * ((8 : Nat) : Int) = -8 := by decide
            rw [h56]
            clear h56
            have ht8 : (len8 h.n).take 8 = len8 h.n := List.take_of_length_le (by rw [len8_len]; exact Nat.le_refl 8)
            simp only [ht8] at hH hll ⊢
            have hmod : (tailOf h (zeros h.rest.length) ++ len8 h.n).length % 64 = 0 := by
              have := E1.out
              rw [List.length_append, len8_len]
              omega
            have HQ2 := HQ
            clear ht8 HL HQ
            obtain ⟨Fv, hFv⟩ := hH.head
            have hpos : 0 < (tailOf h (zeros h.rest.length) ++ len8 h.n).length := by rw [List.length_append, len8_len]; omega
            generalize tailOf h (zeros h.rest.length) ++ len8 h.n = Lt at *
            obtain ⟨gb, rfl, -, hcells⟩ := row_big hFv.1 hpos
            have hcv := conv_str Try.underlying30 Try.underlying5 Try.underlying9 wr gb 0 cv6 Lt (fun i hi => by rw [Nat.zero_add]; exact hcells i hi)
            have hH8 := hH.drop
            clear hcells hFv hH c10
            go_wp2_with fail
            go_loopw [6] (fun b wr => SuRel3 W g r (eat S0 Lt) b b wr) (fun b _ => stLen b)
            case atStart => exact ⟨S0, Lt, rfl, rfl, hmod, by omega, hH8⟩
            case round =>
              clear hH8 hcv
              obtain ⟨s5, l5, rfl, heat, hl5, hl5b, hH⟩ := hrel
              have htl : (strOf l5).toList = l5 := ByteArray.toList_mk l5
              have hsz : (strOf l5).size = l5.length := rfl
              cases l5 with
              | nil =>
                rw [eat_small (by simp)] at heat
                have hsum : h.sum = s5.bytes := by rw [HQ2.out, ← heat]
                obtain ⟨Fg, hFg⟩ := hH.head
                have hB := hFg.1
                have hbt := bytes_any s5
                have hbl : s5.bytes.length = 32 := rfl
                generalize s5.bytes = bt at hsum hbt hbl
                have HSM := Lib.hid hsum
                clear hsum heat HQ2
                go_wp2_with (refine wpList_load_row rfl _ _ rfl g rfl _ _ _ _ hB Try.underlying137 rfl (stSize rfl) ?_)
                refine (hbt _).mono ?_
                rintro e w8 ⟨rfl, hE8⟩
                have hH9 := (hH.ext (.cons (StA_loc _ _) (.cons (SmA_loc _ _) .nil)) hE8).swap
                obtain ⟨Fr, hFr⟩ := hH9.head
                have hA := hFr.1
                have hH10 := BdA_row (l' := bt) hH9 (.cons (StA_loc _ _) .nil)
                go_wp2_with (refine wpList_store_row rfl _ _ _ rfl r (u8s bt).toArray rfl rfl _ _ hA (smSize hbl) (by simp [zb, u8s, hbl]) (u8s_oneAll _) ?_)
                obtain ⟨F3, hF3⟩ := hH10.head
                exact bodyPost_ret (v := smV bt) (results_cell_row Try.results79 _ _ _ _ _ _ _ rfl hF3.1 Try.underlying66 rfl (smSize hbl)) rfl ⟨by rw [HSM.out], hH10.base⟩
              | cons x5 t5 =>
                have h64 : 64 ≤ (x5 :: t5).length := by simp only [List.length_cons] at hl5 ⊢; omega
                generalize x5 :: t5 = l6 at *
                have hne : (l6 == []) = false := by
                  cases l6 with
                  | nil => simp at h64
                  | cons _ _ => rfl
                have hx1 := str_take l6 64
                have hx2 := str_drop l6 64 l6.length rfl
                have hx3 := str_drop l6 64 (strOf l6).size rfl
                go_upto_region 15 with fail
                have hne_ : Nonempty (Of (fun _ : World => True)) := trueOf_ne (W := by assumption)
                refine region_steps [1,2,0,3,4] [true,true,false,false,false] (fun _ : World => True) (by kernel_rfl) (by kernel_rfl) trivial ?_
                simp only [List.filterMap_cons, List.filterMap_nil, List.getElem?_cons_zero, List.getElem?_cons_succ]
                refine steps_quiet 2 (by kernel_rfl) ?_
                simp only [List.take_succ_cons, List.take_zero, List.drop_succ_cons, List.drop_zero]
                repeat (go_big_quiet_step (fail))
                refine wpQuiet_nil ?_
                have hHd := hH.ext (.cons (StA_loc _ _) (.cons (SmA_loc _ _) .nil)) (Ext.refl wr).drew
                clear hH
                generalize World.drew wr = wd at *
                obtain ⟨Fg, hFg⟩ := hHd.head
                have hB := hFg.1
                refine steps_want rfl (fun K hK => ?_)
                refine wp_load_row _ _ rfl g rfl _ _ _ _ hB Try.underlying137 rfl (stSize rfl) ?_
                refine hK _ _ (fun _ => True) trivial (fun _ _ => trivial) ?_
                clear hK K
                refine steps_want rfl (fun K hK => ?_)
                go_simp
                refine (block_any s5 (l6.take 64) (by rw [List.length_take]; omega) _).mono ?_
                rintro e w8 ⟨rfl, hE8⟩
                have hH8 := hHd.ext (.cons (StA_loc _ _) (.cons (SmA_loc _ _) .nil)) hE8
                clear hB hFg hHd
                refine hK _ _ (fun _ => True) trivial (fun _ _ => trivial) ?_
                clear hK K
                have hbk : eat s5 l6 = eat (s5.block (l6.take 64)) (l6.drop 64) := eat_big h64
                rw [hbk] at heat
                clear hbk
                generalize s5.block (l6.take 64) = s6 at *
                obtain ⟨Fg2, hFg2⟩ := hH8.head
                have hB2 := hFg2.1
                have hH9 := WdA_row (l' := s6.list) hH8 (.cons (SmA_loc _ _) .nil)
                refine steps_want rfl (fun K hK => ?_)
                refine wp_store_row _ _ _ rfl g (u32s s6.list).toArray rfl rfl _ _ hB2 (stSize rfl) rfl (u32s_one _) ?_
                generalize World.setRow w8 _ _ = w9 at *
                refine hK _ _ (fun _ => True) trivial (fun _ _ => trivial) ?_
                clear hK K
                refine steps_nil ?_
                simp only [Act.put]
                clear hB2 hFg2 hH8
                go_wp2_with fail
                refine ⟨⟨s6, l6.drop 64, rfl, heat, by rw [List.length_drop]; omega, by rw [List.length_drop]; omega, hH9⟩, ?_⟩
                show (strOf (l6.drop 64)).size < (strOf l6).size
                have : (strOf (l6.drop 64)).size = (l6.drop 64).length := rfl
                rw [this, hsz, List.length_drop]
                omega
      · have e1 : ¬ ((tailOf h j).length : Int) % 64 = 56 := fun e => hjz (hz.1 (by omega))
        have e2 : (((tailOf h j).length : Int) % 64 == 56) = false := by simpa using e1
        have e3 : (((tailOf h j).length : Int) % 64 != 56) = true := by simpa using e1
        have hle : (tailOf h j).length ≤ 200 := by omega
        have HL := Lib.hid hlen
        clear hz hlen
        go_upto_region 7 with fail
        obtain ⟨Ft, hFt⟩ := (hH).head
        have hown := hFt.1
        have hb1 : (tailOf h j).length + 1 ≤ maxLen := by unfold maxLen; omega
        have hb2 : ((tailOf h j).length + 1) * 1 ≤ 140737488355328 := by omega
        go_wp2_with (at_builtin; refine wpList_append_new rfl _ _ 30 rfl 5 i0 (.int .u8 0) 1 1 Try.underlying30 hi0 hz0 hz1 hz2 rfl (by decide) _ _ _ rfl (hown.alloc _) (some ⟨Array.size (World.heap wr), 0, none⟩) 1 1 [.int .u8 0] rfl rfl (fun h => nomatch h) (news_new _ _ _) (oneC1 _ _) hb1 hb2 ?_)
        intro v5 w5 hown5 hg5 hf5
        have hown5' : w5.ownsRow 0 5 1 v5 (tailOf h j ++ [0]).length (u8s (tailOf h j ++ [0])) := by rw [List.length_append, u8s_append]; exact hown5
        have hH7 := (hH).next (.cons (StA_loc _ _) (.cons (SmA_loc _ _) .nil)) (fun F hF => tl_next hF (ext_alloc _ _) hg5 hf5 hown5')
        obtain ⟨pv5, cv5, rfl⟩ := ownsRow_slice hown5
        clear hown5 hown5' hg5 hf5 hown hFt
        go_wp2_with fail
        have hl7 := HL.out
        refine ⟨⟨j + 1, by omega, by rw [tailOf_succ]; exact hH7⟩, ?_⟩
        simp [slLen]
        omega
  · have ha' : h.any = false := by simpa using ha
    rw [ha'] at c8
    have HQ := Lib.hid (show h.sum = (eat St.begin (tailOf h (zeros h.rest.length) ++ len8 h.n)).1.bytes by unfold HS.sum tailOf; rw [if_neg ha]; simp)
    have hbg := begin_any X
    generalize St.begin = S0 at HQ hbg
    go_wp2_with fail
    refine hbg.mono ?_
    rintro e w1 ⟨rfl, hE1⟩
    have hH1 := hH.ext (.cons (StA_loc _ _) (.cons (SmA_loc _ _) .nil)) hE1
    clear hH c8 hbg hE1
    obtain ⟨Fg, hFg⟩ := hH1.head
    have hbs := hFg.1
    have hH2 := WdA_row (l' := S0.list) hH1 (.cons (SmA_loc _ _) .nil)
    go_upto_region 4 with (refine wpList_store_row rfl _ _ _ rfl g (u32s S0.list).toArray rfl rfl _ _ hbs (stSize rfl) rfl (u32s_one _) ?_)
    clear hH1 hbs hFg
    generalize World.setRow w1 _ _ = X2 at *
    have hH := hH2
    clear hH2
    simp only [Act.put]
    have hE0 := hH.base.trans (ext_alloc X2 (.cells #[] 5))
    have x9 : (X2.alloc (.cells #[] 5)).cell? ⟨q, 9, none⟩ = some (.slice pv h.rest.length cv) := (hld hR hE0).cell 9
    have hown := ownsRow_ext hR.own hE0
    have hlit := World.ownsRow_made (base := 0) (e := 5) (size := 1) X2 #[] 0 (Nat.zero_le _) (by simp) rfl
    have hr64 := hR.small
    have hb1 : 0 + h.rest.length ≤ maxLen := by unfold maxLen; omega
    have hb2 : (0 + h.rest.length) * 1 ≤ 140737488355328 := by omega
    have hl1 : (u8s h.rest).length = h.rest.length * 1 := by rw [u8s_length, Nat.mul_one]
    go_wp2_with (at_builtin; refine wpList_append_new rfl _ _ 30 rfl 5 i0 (.int .u8 0) 1 1 Try.underlying30 hi0 hz0 hz1 hz2 rfl (by decide) (.slice (some ⟨Array.size (World.heap X2), 0, none⟩) 0 0) 0 [] rfl hlit pv h.rest.length cv (u8s h.rest) rfl hl1 (row_nil hown) (row_news hown) (u8s_one _) hb1 hb2 ?_)
    intro v4 w4 hown4 hg4 hf4
    have hlb : ∀ k, (Value.slice (some ⟨Array.size (World.heap X2), 0, none⟩) 0 0).ownBlock = some k → Array.size (World.heap X2) ≤ k := fun k hk => Nat.le_of_eq (by simpa [Value.ownBlock] using hk)
    obtain ⟨hE4, hb4⟩ := fresh_ext (ext_alloc X2 (.cells #[] 5)) hlb hg4 hf4
    have hown4' : w4.ownsRow 0 5 1 v4 h.rest.length (u8s h.rest) := by simpa using hown4
    obtain ⟨pv4, cv4, rfl⟩ := ownsRow_slice hown4'
    have hH4 := hH.add (.cons (StA_loc _ _) (.cons (SmA_loc _ _) .nil)) hE4 (p := tlA (.slice pv4 h.rest.length cv4) h.rest) (F := fun k => (Value.slice pv4 h.rest.length cv4).ownBlock = some k) ⟨hown4', rfl⟩ hb4
    clear hown4 hg4 hf4 hE4 hb4 hown4' hlit hown x9 hE0 hH
    go_upto_region 5 with fail
    have hr65 : h.rest.length < 65 := by omega
    obtain ⟨Ft, hFt⟩ := (hH4).head
    have hown := hFt.1
    have hb1 : (h.rest).length + 1 ≤ maxLen := by unfold maxLen; omega
    have hb2 : ((h.rest).length + 1) * 1 ≤ 140737488355328 := by omega
    go_wp2_with (at_builtin; refine wpList_append_new rfl _ _ 30 rfl 5 i0 (.int .u8 0) 1 1 Try.underlying30 hi0 hz0 hz1 hz2 rfl (by decide) _ _ _ rfl (hown.alloc _) (some ⟨Array.size (World.heap w4), 0, none⟩) 1 1 [.int .u8 128] rfl rfl (fun h => nomatch h) (news_new _ _ _) (oneC1 _ _) hb1 hb2 ?_)
    intro v5 w5 hown5 hg5 hf5
    have hown5' : w5.ownsRow 0 5 1 v5 (h.rest ++ [0x80]).length (u8s (h.rest ++ [0x80])) := by rw [List.length_append, u8s_append]; exact hown5
    have hH5 := (hH4).next (.cons (StA_loc _ _) (.cons (SmA_loc _ _) .nil)) (fun F hF => tl_next hF (ext_alloc _ _) hg5 hf5 hown5')
    obtain ⟨pv5, cv5, rfl⟩ := ownsRow_slice hown5
    clear hown5 hown5' hg5 hf5 hown hFt
    go_wp2_with fail
    clear hH4
    go_loopw [4] (fun v wr => SuRel1 W g r S0 h v wr) (fun v _ => (100 + h.rest.length) - slLen v)
    case atStart => exact ⟨0, by omega, by simpa [tailOf, zb] using hH5⟩
    case round =>
      clear hH5
      obtain ⟨j, hj, hH⟩ := hrel
      have hzl := zeros_lt h.rest.length
      have hz := zeros_is h.rest.length j hj
      have hlen := tailOf_len h j
      obtain ⟨Fv, hFv⟩ := hH.head
      obtain ⟨pv6, cv6, rfl⟩ := ownsRow_slice hFv.1
      clear hFv
      by_cases hjz : j = zeros h.rest.length
      · have e1 : ((tailOf h j).length : Int) % 64 = 56 := by have := hz.2 hjz; omega
        have e3 : (((tailOf h j).length : Int) % 64 != 56) = false := by simpa using e1
        have hle : (tailOf h j).length ≤ 200 := by omega
        subst hjz
        have HL := Lib.hid hlen
        clear hz hlen
        go_wp2_with fail
        have E1 := Lib.hid e1
        clear e1 e3
        go_loopw [4, 5] (fun v k wr => SuRel2 W g r S0 h v k wr) (fun _ k _ => (intOf k + 8).toNat)
        case atStart => exact ⟨0, by omega, rfl, by simpa using hH⟩
        case round =>
          clear hH
          obtain ⟨j, hj, rfl, hH⟩ := hrel
          obtain ⟨Fv, hFv⟩ := hH.head
          have hll : (tailOf h (zeros h.rest.length) ++ (len8 h.n).take j).length ≤ 300 := by
            have := HL.out
            have h8 : ((len8 h.n).take j).length ≤ 8 := by simp [len8]; omega
            rw [List.length_append]; omega
          obtain ⟨pv6, cv6, rfl⟩ := ownsRow_slice hFv.1
          clear hFv
          have c10 : wr.cell? ⟨q, 10, none⟩ = some (.int .u64 (h.n : Int)) := (hld hR hH.base).cell 10
          by_cases gj : j < 8
          · have hx0 : (0 : Int) ≤ 56 - 8 * (j : Int) := by omega
            have hx1 : (56 - 8 * (j : Int)) ≤ 56 := by omega
            have hN8 : IntKind.u64.wrap ((h.n : Int) * (8 : Int)) = ((h.n * 8 % 18446744073709551616 : Nat) : Int) := by rw [IntKind.wrap_u64]; omega
            have hMlt : h.n * 8 % 18446744073709551616 < 18446744073709551616 := Nat.mod_lt _ (by omega)
            generalize hM : h.n * 8 % 18446744073709551616 = M at hN8 hMlt
            have hby := len8_val h.n j M gj hM
            have hsn : tailOf h (zeros h.rest.length) ++ (len8 h.n).take (j + 1) = (tailOf h (zeros h.rest.length) ++ (len8 h.n).take j) ++ [(len8 h.n).getD j 0] := by rw [len8_snoc h.n j gj, List.append_assoc]
            have HN := Lib.hid hsn
            clear hsn
            generalize (len8 h.n).getD j 0 = x at hby HN
            generalize tailOf h (zeros h.rest.length) ++ (len8 h.n).take j = Lt at *
            go_upto_region 11 with fail
            obtain ⟨Ft, hFt⟩ := (hH).head
            have hown := hFt.1
            have hb1 : (Lt).length + 1 ≤ maxLen := by unfold maxLen; omega
            have hb2 : ((Lt).length + 1) * 1 ≤ 140737488355328 := by omega
            go_wp2_with (at_builtin; refine wpList_append_new rfl _ _ 30 rfl 5 i0 (.int .u8 0) 1 1 Try.underlying30 hi0 hz0 hz1 hz2 rfl (by decide) _ _ _ rfl (hown.alloc _) (some ⟨Array.size (World.heap wr), 0, none⟩) 1 1 [.int .u8 (x.toNat : Int)] rfl rfl (fun h => nomatch h) (news_new _ _ _) (oneC1 _ _) hb1 hb2 ?_)
            intro v5 w5 hown5 hg5 hf5
            have hown5' : w5.ownsRow 0 5 1 v5 (Lt ++ [x]).length (u8s (Lt ++ [x])) := by rw [List.length_append, u8s_append]; exact hown5
            have hH7 := (hH).next (.cons (StA_loc _ _) (.cons (SmA_loc _ _) .nil)) (fun F hF => tl_next hF (ext_alloc _ _) hg5 hf5 hown5')
            obtain ⟨pv5, cv5, rfl⟩ := ownsRow_slice hown5
            clear hown5 hown5' hg5 hf5 hown hFt
            clear hby hN8 hMlt c10 hH
            generalize hkk : (56 : Int) - 8 * (j : Int) = kk at *
            have HKK := Lib.hid hkk
            clear hkk
            go_wp2_with fail
            refine ⟨⟨j + 1, by omega, ?_, by rw [HN.out]; exact hH7⟩, ?_⟩
            · have := HKK.out
              congr 1; omega
            · have := HKK.out
              simp [intOf]; omega
          · have hj8 : j = 8 := by omega
            subst hj8
            have h56 : (56 : Int) - 8 * ((8 : Nat) : Int) = -8 := by decide
            rw [h56]
            clear h56
            have ht8 : (len8 h.n).take 8 = len8 h.n := List.take_of_length_le (by rw [len8_len]; exact Nat.le_refl 8)
            simp only [ht8] at hH hll ⊢
            have hmod : (tailOf h (zeros h.rest.length) ++ len8 h.n).length % 64 = 0 := by
              have := E1.out
              rw [List.length_append, len8_len]
              omega
            have HQ2 := HQ
            clear ht8 HL HQ
            obtain ⟨Fv, hFv⟩ := hH.head
            have hpos : 0 < (tailOf h (zeros h.rest.length) ++ len8 h.n).length := by rw [List.length_append, len8_len]; omega
            generalize tailOf h (zeros h.rest.length) ++ len8 h.n = Lt at *
            obtain ⟨gb, rfl, -, hcells⟩ := row_big hFv.1 hpos
            have hcv := conv_str Try.underlying30 Try.underlying5 Try.underlying9 wr gb 0 cv6 Lt (fun i hi => by rw [Nat.zero_add]; exact hcells i hi)
            have hH8 := hH.drop
            clear hcells hFv hH c10
            go_wp2_with fail
            go_loopw [6] (fun b wr => SuRel3 W g r (eat S0 Lt) b b wr) (fun b _ => stLen b)
            case atStart => exact ⟨S0, Lt, rfl, rfl, hmod, by omega, hH8⟩
            case round =>
              clear hH8 hcv
              obtain ⟨s5, l5, rfl, heat, hl5, hl5b, hH⟩ := hrel
              have htl : (strOf l5).toList = l5 := ByteArray.toList_mk l5
              have hsz : (strOf l5).size = l5.length := rfl
              cases l5 with
              | nil =>
                rw [eat_small (by simp)] at heat
                have hsum : h.sum = s5.bytes := by rw [HQ2.out, ← heat]
                obtain ⟨Fg, hFg⟩ := hH.head
                have hB := hFg.1
                have hbt := bytes_any s5
                have hbl : s5.bytes.length = 32 := rfl
                generalize s5.bytes = bt at hsum hbt hbl
                have HSM := Lib.hid hsum
                clear hsum heat HQ2
                go_wp2_with (refine wpList_load_row rfl _ _ rfl g rfl _ _ _ _ hB Try.underlying137 rfl (stSize rfl) ?_)
                refine (hbt _).mono ?_
                rintro e w8 ⟨rfl, hE8⟩
                have hH9 := (hH.ext (.cons (StA_loc _ _) (.cons (SmA_loc _ _) .nil)) hE8).swap
                obtain ⟨Fr, hFr⟩ := hH9.head
                have hA := hFr.1
                have hH10 := BdA_row (l' := bt) hH9 (.cons (StA_loc _ _) .nil)
                go_wp2_with (refine wpList_store_row rfl _ _ _ rfl r (u8s bt).toArray rfl rfl _ _ hA (smSize hbl) (by simp [zb, u8s, hbl]) (u8s_oneAll _) ?_)
                obtain ⟨F3, hF3⟩ := hH10.head
                exact bodyPost_ret (v := smV bt) (results_cell_row Try.results79 _ _ _ _ _ _ _ rfl hF3.1 Try.underlying66 rfl (smSize hbl)) rfl ⟨by rw [HSM.out], hH10.base⟩
              | cons x5 t5 =>
                have h64 : 64 ≤ (x5 :: t5).length := by simp only [List.length_cons] at hl5 ⊢; omega
                generalize x5 :: t5 = l6 at *
                have hne : (l6 == []) = false := by
                  cases l6 with
                  | nil => simp at h64
                  | cons _ _ => rfl
                have hx1 := str_take l6 64
                have hx2 := str_drop l6 64 l6.length rfl
                have hx3 := str_drop l6 64 (strOf l6).size rfl
                go_upto_region 15 with fail
                have hne_ : Nonempty (Of (fun _ : World => True)) := trueOf_ne (W := by assumption)
                refine region_steps [1,2,0,3,4] [true,true,false,false,false] (fun _ : World => True) (by kernel_rfl) (by kernel_rfl) trivial ?_
                simp only [List.filterMap_cons, List.filterMap_nil, List.getElem?_cons_zero, List.getElem?_cons_succ]
                refine steps_quiet 2 (by kernel_rfl) ?_
                simp only [List.take_succ_cons, List.take_zero, List.drop_succ_cons, List.drop_zero]
                repeat (go_big_quiet_step (fail))
                refine wpQuiet_nil ?_
                have hHd := hH.ext (.cons (StA_loc _ _) (.cons (SmA_loc _ _) .nil)) (Ext.refl wr).drew
                clear hH
                generalize World.drew wr = wd at *
                obtain ⟨Fg, hFg⟩ := hHd.head
                have hB := hFg.1
                refine steps_want rfl (fun K hK => ?_)
                refine wp_load_row _ _ rfl g rfl _ _ _ _ hB Try.underlying137 rfl (stSize rfl) ?_
                refine hK _ _ (fun _ => True) trivial (fun _ _ => trivial) ?_
                clear hK K
                refine steps_want rfl (fun K hK => ?_)
                go_simp
                refine (block_any s5 (l6.take 64) (by rw [List.length_take]; omega) _).mono ?_
                rintro e w8 ⟨rfl, hE8⟩
                have hH8 := hHd.ext (.cons (StA_loc _ _) (.cons (SmA_loc _ _) .nil)) hE8
                clear hB hFg hHd
                refine hK _ _ (fun _ => True) trivial (fun _ _ => trivial) ?_
                clear hK K
                have hbk : eat s5 l6 = eat (s5.block (l6.take 64)) (l6.drop 64) := eat_big h64
                rw [hbk] at heat
                clear hbk
                generalize s5.block (l6.take 64) = s6 at *
                obtain ⟨Fg2, hFg2⟩ := hH8.head
                have hB2 := hFg2.1
                have hH9 := WdA_row (l' := s6.list) hH8 (.cons (SmA_loc _ _) .nil)
                refine steps_want rfl (fun K hK => ?_)
                refine wp_store_row _ _ _ rfl g (u32s s6.list).toArray rfl rfl _ _ hB2 (stSize rfl) rfl (u32s_one _) ?_
                generalize World.setRow w8 _ _ = w9 at *
                refine hK _ _ (fun _ => True) trivial (fun _ _ => trivial) ?_
                clear hK K
                refine steps_nil ?_
                simp only [Act.put]
                clear hB2 hFg2 hH8
                go_wp2_with fail
                refine ⟨⟨s6, l6.drop 64, rfl, heat, by rw [List.length_drop]; omega, by rw [List.length_drop]; omega, hH9⟩, ?_⟩
                show (strOf (l6.drop 64)).size < (strOf l6).size
                have : (strOf (l6.drop 64)).size = (l6.drop 64).length := rfl
                rw [this, hsz, List.length_drop]
                omega
      · have e1 : ¬ ((tailOf h j).length : Int) % 64 = 56 := fun e => hjz (hz.1 (by omega))
        have e2 : (((tailOf h j).length : Int) % 64 == 56) = false := by simpa using e1
        have e3 : (((tailOf h j).length : Int) % 64 != 56) = true := by simpa using e1
        have hle : (tailOf h j).length ≤ 200 := by omega
        have HL := Lib.hid hlen
        clear hz hlen
        go_upto_region 7 with fail
        obtain ⟨Ft, hFt⟩ := (hH).head
        have hown := hFt.1
        have hb1 : (tailOf h j).length + 1 ≤ maxLen := by unfold maxLen; omega
        have hb2 : ((tailOf h j).length + 1) * 1 ≤ 140737488355328 := by omega
        go_wp2_with (at_builtin; refine wpList_append_new rfl _ _ 30 rfl 5 i0 (.int .u8 0) 1 1 Try.underlying30 hi0 hz0 hz1 hz2 rfl (by decide) _ _ _ rfl (hown.alloc _) (some ⟨Array.size (World.heap wr), 0, none⟩) 1 1 [.int .u8 0] rfl rfl (fun h => nomatch h) (news_new _ _ _) (oneC1 _ _) hb1 hb2 ?_)
        intro v5 w5 hown5 hg5 hf5
        have hown5' : w5.ownsRow 0 5 1 v5 (tailOf h j ++ [0]).length (u8s (tailOf h j ++ [0])) := by rw [List.length_append, u8s_append]; exact hown5
        have hH7 := (hH).next (.cons (StA_loc _ _) (.cons (SmA_loc _ _) .nil)) (fun F hF => tl_next hF (ext_alloc _ _) hg5 hf5 hown5')
        obtain ⟨pv5, cv5, rfl⟩ := ownsRow_slice hown5
        clear hown5 hown5' hg5 hf5 hown hFt
        go_wp2_with fail
        have hl7 := HL.out
        refine ⟨⟨j + 1, by omega, by rw [tailOf_succ]; exact hH7⟩, ?_⟩
        simp [slLen]
        omega
end Go.Proofs.Ytkkhcpknldlpoaa
