/- The document's CRC-32: the division, bit by bit. -/
import Derived.Test.YtiaepnlhedgicaaSRef1
import Derived.Test.YtiaepnlhedgicaaPoly
namespace Go.Proofs.Ytiaepnlhedgicaa
set_option linter.unusedVariables false
set_option linter.unusedSimpArgs false
open Go Go.RowKit
def bls (l : List Bool) : List Value := l.map Value.bool
theorem bls_append (a b : List Bool) : bls (a ++ b) = bls a ++ bls b := by simp [bls]
theorem bls_length (a : List Bool) : (bls a).length = a.length := by simp [bls]
theorem bls_get (l : List Bool) (i : Nat) (h : i < l.length) : (bls l)[i]? = some (.bool (l.getD i false)) := by
  rw [bls, List.getElem?_map, List.getElem?_eq_getElem h, List.getD_eq_getElem?_getD, List.getElem?_eq_getElem h]; rfl
theorem bls_set (l : List Bool) (i : Nat) (x : Bool) : (bls l).set i (.bool x) = bls (l.set i x) := by simp [bls, List.map_set]
abbrev LRow (v : Value) (l : List Bool) : Asr := rowA 4 1 v l.length (bls l)
theorem LRow_loc (v : Value) (l : List Bool) : Loc (LRow v l) := rowA_loc _ _ _ _ _
theorem boolInfo' : (Try.prog.info? 4).map (fun i => (i.zero, i.size, i.bytes)) = some (some (.bool false), 1, 1) := by kernel_rfl
theorem LRow.grow1 {w W W' : World} {v v' : Value} {l : List Bool} {b : Bool} {ps : List Asr} (h : Has w W (LRow v l :: ps)) (hl : Locs ps) (hown : W'.ownsRow 0 4 1 v' (l.length + 1) (bls l ++ [.bool b])) (hg : W.grownBy W' v.ownBlock) (hf : Fresh W v v') : Has w W' (LRow v' (l ++ [b]) :: ps) := by
  refine h.next hl fun F hF => ?_
  obtain ⟨_, rfl⟩ := hF
  refine Next.mk ⟨?_, rfl⟩ (grownBy.tch hg) hf.1
  rw [List.length_append, bls_append]
  exact hown
theorem LRow.put {w W : World} {g c n : Nat} {l : List Bool} {ps : List Asr} (h : Has w W (rowA 4 1 (.slice (some ⟨g, 0, none⟩) n c) n (bls l) :: ps)) (hl : Locs ps) (i : Nat) (x : Bool) : Has w (W.setCell ⟨g, i, none⟩ (.bool x)) (rowA 4 1 (.slice (some ⟨g, 0, none⟩) n c) n (bls (l.set i x)) :: ps) := by
  refine h.next hl fun F hF => ?_
  obtain ⟨ho, rfl⟩ := hF
  obtain ⟨h1, h2⟩ := ho.stored i (.bool x)
  rw [bls_set] at h1
  exact Next.mk ⟨h1, rfl⟩ (grownBy.tch (v := .slice (some ⟨g, 0, none⟩) n c) h2) (fun k hk => Or.inl hk)
theorem bits8_snoc (x : UInt8) (m : Nat) (h : m < 8) : (bits8 x).take (m + 1) = (bits8 x).take m ++ [decide (x.toNat / 2 ^ m % 2 = 1)] := by
  rw [List.take_succ_eq_append_getElem (by rw [bits8_len]; exact h)]
  congr 2
  have := bits8_get x m
  rw [List.getD_eq_getElem?_getD, List.getElem?_eq_getElem (by rw [bits8_len]; exact h)] at this
  rw [show (bits8 x)[m]'(by rw [bits8_len]; exact h) = x.toBitVec.getLsbD m from this]
  rw [← BitVec.testBit_toNat, Nat.testBit_eq_decide_div_mod_eq]
  rfl
def C1Rel (w : World) (l : List UInt8) (v k : Value) (wr : World) : Prop := ∃ i : Nat, i ≤ l.length ∧ k = .int .i64 i ∧ Has w wr [LRow v (bitsOf (l.take i))]
def C2Rel (w : World) (bs : List Bool) (x : UInt8) (v y k : Value) (wr : World) : Prop := ∃ m : Nat, m ≤ 8 ∧ k = .int .i64 m ∧ y = .int .u8 ((x.toNat / 2 ^ m : Nat) : Int) ∧ Has w wr [LRow v (bs ++ (bits8 x).take m)]
def C3Rel (w : World) (bs : List Bool) (v k : Value) (wr : World) : Prop := ∃ m : Nat, m ≤ 32 ∧ k = .int .i64 m ∧ Has w wr [LRow v (bs ++ List.replicate m false)]
abbrev FRow (g c n : Nat) (l : List Bool) : Asr := rowA 4 1 (.slice (some ⟨g, 0, none⟩) n c) n (bls l)
theorem FRow_loc (g c n : Nat) (l : List Bool) : Loc (FRow g c n l) := rowA_loc _ _ _ _ _
theorem FRow.cell {w W : World} {g c n : Nat} {l : List Bool} {ps : List Asr} (h : Has w W (FRow g c n l :: ps)) (i : Nat) (hi : i < n) : W.cell? ⟨g, i, none⟩ = some (.bool (l.getD i false)) ∧ W.frozen? ⟨g, i, none⟩ = false := by
  obtain ⟨F, hF⟩ := h.head
  have h1 := hF.1.1
  rw [bls_length, Nat.mul_one] at h1
  refine ⟨?_, hF.1.frozenAt i⟩
  rw [hF.1.cellAt i (by omega), bls_get l i (by omega)]
def C4Rel (w : World) (g c n : Nat) (bs : List Bool) (k : Value) (wr : World) : Prop := ∃ m : Nat, m ≤ 32 ∧ k = .int .i64 m ∧ Has w wr [FRow g c n (turned m bs)]
def powV : Array Value := #[.int .i64 26, .int .i64 23, .int .i64 22, .int .i64 16, .int .i64 12, .int .i64 11, .int .i64 10, .int .i64 8, .int .i64 7, .int .i64 5, .int .i64 4, .int .i64 2, .int .i64 1, .int .i64 0]
theorem powV_is : powV = (powersL.map fun n : Nat => Value.int .i64 (n : Int)).toArray := rfl
theorem powV_get (j : Nat) (h : j < 14) : powV[j]? = some (.int .i64 ((powersL.getD j 0 : Nat) : Int)) := by
  have h' : j < powersL.length := h
  rw [powV_is, List.getElem?_toArray, List.getElem?_map, List.getElem?_eq_getElem h', List.getD_eq_getElem?_getD, List.getElem?_eq_getElem h']; rfl
theorem divStep_len (l : List Bool) (k : Nat) : (divStep l k).length = l.length := by
  unfold divStep; split
  · rw [flips_len]; simp
  · rfl
theorem dividing_len (l : List Bool) (k : Nat) : (dividing k l).length = l.length := by
  induction k with
  | zero => rfl
  | succ k ih => rw [dividing_succ, divStep_len, ih]
def C5Rel (w : World) (g c n gp : Nat) (bs : List Bool) (top : Nat) (k : Value) (wr : World) : Prop := ∃ m : Nat, m ≤ top ∧ k = .int .i64 m ∧ Has w wr [FRow g c n (dividing m bs), blkA gp 3 powV]
def C6Rel (w : World) (g c n gp : Nat) (bs : List Bool) (k : Nat) (j : Value) (wr : World) : Prop := ∃ m : Nat, m ≤ 14 ∧ j = .int .i64 m ∧ Has w wr [FRow g c n (flips k (powersL.take m) bs), blkA gp 3 powV]
def C7Rel (w : World) (d : List Bool) (n : Nat) (c k : Value) (wr : World) : Prop := ∃ m : Nat, m ≤ 32 ∧ k = .int .i64 ((n : Int) - 1 - m) ∧ c = .int .u32 (wv (gather d n m)) ∧ wr = w
theorem flips_snoc (k j : Nat) (l : List Bool) (h : j < 14) : flips k (powersL.take (j + 1)) l = flipAt (flips k (powersL.take j) l) (k + 32 - powersL.getD j 0) := by
  rw [take_snoc powersL 0 j h]; unfold flips; rw [List.foldl_append]; rfl
theorem wv_two (x : W32) : IntKind.u32.wrap (wv x * 2) = wv (x * 2) := by
  have := wv_shl x 1
  rw [show (2 : Int) ^ 1 = 2 from rfl] at this
  rw [this]; congr 1
  apply BitVec.eq_of_toNat_eq
  rw [BitVec.toNat_shiftLeft, BitVec.toNat_mul, Nat.shiftLeft_eq]; rfl
set_option maxRecDepth 100000 in
set_option maxHeartbeats 4000000 in
theorem refcrc_any (w : World) (l : List UInt8) (hl : l.length ≤ 1000) : Calls Try.prog 12 #[.string (strOf l)] w fun e w' => e = .returned (.int .u32 (wv (crc l))) ∧ Ext w w' := by
  obtain ⟨i0, hi0, hz0, hz1, hz2⟩ := info_parts boolInfo'
  have hll : (l.length : Int) ≤ 1000 := by omega
  have hsz : (strOf l).size = l.length := rfl
  go_enter Try.func12, Try.ntmps12
  go_wp2_with fail
  have hH : Has w w [LRow (.slice none 0 0) []] := (Has.nil (Ext.refl w)).add .nil (Ext.refl w) (p := LRow (.slice none 0 0) []) (F := fun k => (Value.slice none 0 0).ownBlock = some k) ⟨World.ownsRow_nil _ _ _ _, rfl⟩ (fun k hk => by simp [Value.ownBlock] at hk)
  go_loopw [3, 4] (fun v k wr => C1Rel w l v k wr) (fun _ k _ => ((l.length : Int) + 1 - intOf k).toNat)
  case atStart => exact ⟨0, by omega, rfl, hH⟩
  case round =>
    clear hH
    obtain ⟨i, hi, rfl, hH⟩ := hrel
    by_cases gi : (i : Int) < l.length
    · have hx := fun W => index_str (W := W) l i i rfl (by omega)
      have hb8 : bitsOf (l.take (i + 1)) = bitsOf (l.take i) ++ bits8 (l.getD i 0) := by
        rw [take_snoc l 0 i (by omega)]; simp [bitsOf]
      have hbl : (bitsOf (l.take i)).length ≤ 8 * 1000 := by rw [bitsOf_len, List.length_take]; omega
      have HB := Lib.hid hb8
      clear hb8
      generalize bitsOf (l.take i) = bs at *
      generalize l.getD i 0 = x at *
      have hxb := u8_bd x
      go_wp2_with fail
      go_loopw [3, 5, 6] (fun v y k wr => C2Rel w bs x v y k wr) (fun _ _ k _ => (9 - intOf k).toNat)
      case atStart => exact ⟨0, by omega, rfl, by simp, by simpa using hH⟩
      case round =>
        clear hH hx
        obtain ⟨m, hm, rfl, rfl, hH⟩ := hrel
        by_cases gm : (m : Int) < 8
        · have hsn := bits8_snoc x m (by omega)
          have hdiv : x.toNat / 2 ^ (m + 1) = x.toNat / 2 ^ m / 2 := by rw [Nat.pow_succ, Nat.div_div_eq_div_mul]
          have hyl : x.toNat / 2 ^ m ≤ 255 := Nat.le_trans (Nat.div_le_self _ _) (by omega)
          have hbl2 : (bs ++ (bits8 x).take m).length ≤ 8 * 1000 + 8 := by rw [List.length_append, List.length_take, bits8_len]; omega
          have hap : bs ++ (bits8 x).take (m + 1) = (bs ++ (bits8 x).take m) ++ [decide (x.toNat / 2 ^ m % 2 = 1)] := by rw [hsn, List.append_assoc]
          have HD := Lib.hid hdiv
          clear hsn hdiv
          generalize bs ++ (bits8 x).take m = b1 at *
          obtain ⟨y, hy⟩ : ∃ y, y = x.toNat / 2 ^ m := ⟨_, rfl⟩
          rw [← hy] at hyl hap ⊢
          have HY := Lib.hid hy
          clear hy
          have hd1 : decide (y % 2 = 1) = ((y : Int) % (2 : Int) == 1) := by
            rw [Bool.eq_iff_iff]; simp; omega
          rw [hd1] at hap
          have HA := Lib.hid hap
          clear hap hd1
          have hy0 : (y : Int) ≤ 255 := by omega
          have hy1 : (0 : Int) ≤ (y : Int) := by omega
          generalize hbb : ((y : Int) % (2 : Int) == 1) = bb at *
          obtain ⟨F, hF⟩ := hH.head
          have hown := ownsRow_ext hF.1 (ext_alloc wr (.cells #[.bool bb] 4))
          have hH2 := hH.ext (.cons (LRow_loc _ _) .nil) (ext_alloc wr (.cells #[.bool bb] 4))
          have hnews := news_new wr [.bool bb] 4
          clear hxb
          go_wp2_with (at_builtin; refine wpList_append_new rfl _ _ 51 rfl 4 i0 (.bool false) 1 1 Try.underlying51 hi0 hz0 hz1 hz2 rfl (by decide) _ _ _ rfl hown _ 1 1 [.bool bb] rfl rfl (fun h => by cases h) hnews (by intro u hu; simp at hu; subst hu; rfl) (by unfold maxLen; omega) (by omega) ?_)
          intro v3 w3 hown3 hg3 hf3
          have hH3 := LRow.grow1 hH2 .nil hown3 hg3 hf3
          clear hF hown hown3 hg3 hf3 hH hH2 hnews
          go_wp2_with fail
          refine ⟨⟨m + 1, by omega, by go_num, ?_, by rw [HA.out]; exact hH3⟩, by simp [intOf]; omega⟩
          rw [HD.out, ← HY.out]; simp
        · have hm' : m = 8 := by omega
          subst hm'
          have h8 : (bits8 x).take 8 = bits8 x := List.take_of_length_le (by rw [bits8_len]; omega)
          rw [h8, ← HB.out] at hH
          generalize ((x.toNat / 2 ^ 8 : Nat) : Int) = y8 at *
          go_wp2_with fail
          exact ⟨⟨i + 1, by omega, by go_num, hH⟩, by simp [intOf]; omega⟩
    · have hi' : i = l.length := by omega
      subst hi'
      rw [List.take_length] at hH
      have hbl := bitsOf_len l
      have hpc := poly_crc l
      generalize bitsOf l = bs at *
      go_wp2_with fail
      go_loopw [3, 7] (fun v k wr => C3Rel w bs v k wr) (fun _ k _ => (33 - intOf k).toNat)
      case atStart => exact ⟨0, by omega, rfl, by simpa using hH⟩
      case round =>
        clear hH
        obtain ⟨m, hm, rfl, hH⟩ := hrel
        by_cases gm : (m : Int) < 32
        · have hrs : bs ++ List.replicate (m + 1) false = (bs ++ List.replicate m false) ++ [false] := by rw [List.replicate_succ', List.append_assoc]
          have hbl2 : (bs ++ List.replicate m false).length ≤ 9000 := by simp; omega
          have HA := Lib.hid hrs
          clear hrs
          generalize bs ++ List.replicate m false = b1 at *
          obtain ⟨F, hF⟩ := hH.head
          have hown := ownsRow_ext hF.1 (ext_alloc wr (.cells #[.bool false] 4))
          have hH2 := hH.ext (.cons (LRow_loc _ _) .nil) (ext_alloc wr (.cells #[.bool false] 4))
          have hnews := news_new wr [.bool false] 4
          go_wp2_with (at_builtin; refine wpList_append_new rfl _ _ 51 rfl 4 i0 (.bool false) 1 1 Try.underlying51 hi0 hz0 hz1 hz2 rfl (by decide) _ _ _ rfl hown _ 1 1 [.bool false] rfl rfl (fun h => by cases h) hnews (by intro u hu; simp at hu; subst hu; rfl) (by unfold maxLen; omega) (by omega) ?_)
          intro v3 w3 hown3 hg3 hf3
          have hH3 := LRow.grow1 hH2 .nil hown3 hg3 hf3
          clear hF hown hown3 hg3 hf3 hH hH2 hnews
          go_wp2_with fail
          exact ⟨⟨m + 1, by omega, by go_num, by rw [HA.out]; exact hH3⟩, by simp [intOf]; omega⟩
        · have hm' : m = 32 := by omega
          subst hm'
          rw [show bs ++ List.replicate 32 false = bits32 bs from rfl] at hH
          have hl32 : (bits32 bs).length = bs.length + 32 := by simp [bits32]
          obtain ⟨g, cg, rfl⟩ : ∃ g c, u3 = .slice (some ⟨g, 0, none⟩) (bs.length + 32) c := by
            obtain ⟨F, hF⟩ := hH.head
            rcases hF.1.2 with ⟨hv, h0⟩ | ⟨g, cap, cur, hv, _⟩
            · omega
            · exact ⟨g, cap, by rw [hv, hl32]⟩
          rw [LRow, hl32] at hH
          obtain ⟨N, hNe⟩ : ∃ N, N = bs.length + 32 := ⟨_, rfl⟩
          rw [← hNe] at hH hl32 hpc ⊢
          have htl := fun k => turned_len k (bits32 bs)
          have hNb : (N : Int) ≤ 9000 := by omega
          have hN1 : (bs.length : Int) + 32 ≤ N := by omega
          have hN2 : (N : Int) ≤ bs.length + 32 := by omega
          have HN := Lib.hid hNe
          clear hNe hbl
          generalize bits32 bs = B at *
          go_wp2_with fail
          go_loopw [8] (fun k wr => C4Rel w g cg N B k wr) (fun k _ => (33 - intOf k).toNat)
          case atStart => exact ⟨0, by omega, rfl, hH⟩
          case round =>
            clear hH
            obtain ⟨m, hm, rfl, hH⟩ := hrel
            by_cases gm : (m : Int) < 32
            · have hts : turned (m + 1) B = (turned m B).set m (!((turned m B).getD m false)) := rfl
              have HT := Lib.hid hts
              clear hts
              generalize turned m B = tb at *
              obtain ⟨hc, hf⟩ := FRow.cell hH m (by omega)
              have hH2 := LRow.put hH .nil m (!(tb.getD m false))
              generalize tb.getD m false = b at *
              clear hH
              go_wp2_with fail
              exact ⟨⟨m + 1, by omega, by go_num, by rw [HT.out]; exact hH2⟩, by simp [intOf]; omega⟩
            · have hm' : m = 32 := by omega
              subst hm'
              have hTl := htl 32
              generalize turned 32 B = T at *
              clear htl
              have hH2 : Has w (wr.alloc (.cells powV 3)) [FRow g cg N T, blkA wr.heap.size 3 powV] := (hH.add (.cons (FRow_loc _ _ _ _) .nil) (ext_alloc wr (.cells powV 3)) (p := blkA wr.heap.size 3 powV) (F := fun k => k = wr.heap.size) ⟨Blk.new _ _ _, rfl⟩ (fun k hk => by omega)).swap
              go_upto_region 20 with fail
              refine gen_world' (fun X => Has w X [FRow g cg N T, blkA wr.heap.size 3 powV]) hH2 ?_
              clear hH2 hH
              intro w5 hH
              generalize wr.heap.size = gp at *
              go_wp2_with fail
              go_loopw [10] (fun k wr => C5Rel w g cg N gp T bs.length k wr) (fun k _ => ((N : Int) - intOf k).toNat)
              case atStart => exact ⟨0, by omega, rfl, hH⟩
              case round =>
                clear hH
                obtain ⟨m, hm, rfl, hH⟩ := hrel
                by_cases gm : (m : Int) + 32 < N
                · have hds := dividing_succ m T
                  have hdl : (dividing m T).length = N := by rw [dividing_len]; omega
                  have HD := Lib.hid hds
                  clear hds
                  generalize dividing m T = D at *
                  obtain ⟨hc, hf⟩ := FRow.cell hH m (by omega)
                  by_cases hb : D.getD m false = true
                  · rw [hb] at hc
                    have hdv : divStep D m = flips m powersL (D.set m false) := if_pos hb
                    rw [hdv] at HD
                    have hH2 := LRow.put hH (.cons (blkA_loc _ _ _) .nil) m false
                    have hdl2 : (D.set m false).length = N := by simpa using hdl
                    clear hdv hb hH
                    generalize D.set m false = D1 at *
                    go_wp2_with fail
                    go_loopw [11] (fun k wr => C6Rel w g cg N gp D1 m k wr) (fun k _ => (15 - intOf k).toNat)
                    case atStart => exact ⟨0, by omega, rfl, hH2⟩
                    case round =>
                      clear hH2 hc hf
                      obtain ⟨j, hj, rfl, hH⟩ := hrel
                      by_cases gj : (j : Int) < 14
                      · have hfs := flips_snoc m j D1 (by omega)
                        have hpl : powersL.getD j 0 ≤ 31 := powers_le _ (getD_mem powersL 0 j (by show j < 14; omega))
                        obtain ⟨Fp, hFp⟩ := hH.swap.head
                        have hcp := hFp.1.cell j
                        rw [powV_get j (by omega)] at hcp
                        have hfl : (flips m (powersL.take j) D1).length = N := by rw [flips_len]; exact hdl2
                        have HF := Lib.hid hfs
                        clear hfs hFp
                        generalize flips m (powersL.take j) D1 = E at *
                        generalize powersL.getD j 0 = pj at *
                        obtain ⟨at_, hat⟩ : ∃ a, a = m + 32 - pj := ⟨_, rfl⟩
                        rw [← hat] at HF
                        have e1 : (m : Int) + 32 - (pj : Int) = (at_ : Int) := by omega
                        have hab : (at_ : Int) < N := by omega
                        obtain ⟨hc, hf⟩ := FRow.cell hH at_ (by omega)
                        have hdr : ∀ nq, Has w (wr.drewN nq) [FRow g cg N E, blkA gp 3 powV] := fun nq => hH.ext (.cons (FRow_loc _ _ _ _) (.cons (blkA_loc _ _ _) .nil)) ((Ext.refl wr).drewN nq)
                        have hput := fun nq => LRow.put (hdr nq) (.cons (blkA_loc _ _ _) .nil) at_ (!(E.getD at_ false))
                        have hcd := fun nq => FRow.cell (hdr nq) at_ (by omega)
                        have hfd : flipAt E at_ = E.set at_ (!(E.getD at_ false)) := rfl
                        rw [hfd] at HF
                        generalize E.getD at_ false = b at *
                        clear hfd hat
                        clear hH hdr
                        go_upto_region 28 with fail
                        refine region_drew_tail 20 (by kernel_rfl) (by kernel_rfl) ?_
                        simp only [List.take_succ_cons, List.take_zero, List.drop_succ_cons, List.drop_zero]
                        repeat (go_big_quiet_step (fail))
                        refine wpQuiet_nil ?_
                        intro _ hw'
                        obtain ⟨nq, hw''⟩ := hw'
                        subst hw''
                        have hH2 := hput nq
                        obtain ⟨hc2, hf2⟩ := hcd nq
                        clear hput hcd hc hf hcp
                        generalize wr.drewN nq = w6 at *
                        go_wp2_with fail
                        exact ⟨⟨j + 1, by omega, by go_num, by rw [HF.out]; exact hH2⟩, by simp [intOf]; omega⟩
                      · have hj' : j = 14 := by omega
                        subst hj'
                        have h14 : powersL.take 14 = powersL := rfl
                        rw [h14, ← HD.out] at hH
                        go_wp2_with fail
                        exact ⟨⟨m + 1, by omega, by go_num, hH⟩, by simp [intOf]; omega⟩
                  · have hb' : D.getD m false = false := by simpa using hb
                    rw [hb'] at hc
                    have hdv : divStep D m = D := if_neg hb
                    rw [hdv] at HD
                    clear hdv hb hb'
                    go_wp2_with fail
                    exact ⟨⟨m + 1, by omega, by go_num, by rw [HD.out]; exact hH⟩, by simp [intOf]; omega⟩
                · have hm' : m = bs.length := by omega
                  subst hm'
                  have hdl : (dividing bs.length T).length = N := by rw [dividing_len]; omega
                  generalize dividing bs.length T = D at *
                  have HP := Lib.hid hpc
                  clear hpc
                  go_wp2_with fail
                  go_loopw [12, 13] (fun c k wy => C7Rel wr D N c k wy) (fun _ k _ => (intOf k + 1).toNat)
                  case atStart => exact ⟨0, by omega, by go_num, rfl, rfl⟩
                  case round =>
                    obtain ⟨j, hj, rfl, rfl, rfl⟩ := hrel
                    by_cases gj : (j : Int) < 32
                    · have hgs : gather D N (j + 1) = gather D N j * 2 + bw (!(D.getD (N - 1 - j) false)) := rfl
                      obtain ⟨q, hq⟩ : ∃ q, q = N - 1 - j := ⟨_, rfl⟩
                      rw [← hq] at hgs
                      have hqi : (N : Int) - 1 - (j : Int) = (q : Int) := by omega
                      have hqN : (q : Int) < N := by omega
                      have hq1 : (N : Int) - 1 - ((j + 1 : Nat) : Int) = (q : Int) - 1 := by omega
                      have hq2 : (q : Int) ≥ (N : Int) - 32 := by omega
                      obtain ⟨hc, hf⟩ := FRow.cell hH q (by omega)
                      have hw2 := wv_two (gather D N j)
                      have hw1 := wv_add (gather D N j * 2) 1
                      rw [IntKind.wrap_u32'] at hw1 hw2
                      have hone : wv (1 : W32) = (1 : Int) := rfl
                      rw [hone] at hw1
                      generalize gather D N j = c0 at *
                      rw [hqi]
                      have HG := Lib.hid hgs
                      have HQ := Lib.hid hq1
                      have HW1 := Lib.hid hw1
                      have HW2 := Lib.hid hw2
                      clear hgs hq hq1 hone hqi
                      cases hbb : D.getD q false with
                      | true =>
                        rw [hbb] at hc HG
                        have hz : c0 * 2 + bw (!true) = c0 * 2 := by simp [bw]
                        rw [hz] at HG
                        clear hbb hz hw1
                        go_wp2_with fail
                        exact ⟨⟨j + 1, by omega, by rw [HQ.out], by rw [HG.out]; exact congrArg (Value.int .u32) HW2.out, rfl⟩, by simp only [intOf]; omega⟩
                      | false =>
                        rw [hbb] at hc HG
                        have hz : c0 * 2 + bw (!false) = c0 * 2 + 1 := by simp [bw]
                        rw [hz] at HG
                        clear hbb hz
                        go_wp2_with fail
                        exact ⟨⟨j + 1, by omega, by rw [HQ.out], by rw [HG.out]; exact congrArg (Value.int .u32) HW1.out, rfl⟩, by simp only [intOf]; omega⟩
                    · have hj' : j = 32 := by omega
                      subst hj'
                      rw [HP.out]
                      have hE := hH.base
                      go_wp2_with fail
                      go_ret
                      exact ⟨rfl, hE⟩
end Go.Proofs.Ytiaepnlhedgicaa
