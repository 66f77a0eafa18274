/- A log's frames. -/
import Derived.Test.YthghflfgldcmbaaWSub
namespace Go.Proofs.Ythghflfgldcmbaa
set_option maxRecDepth 4000
set_option linter.unusedVariables false
set_option linter.unusedSimpArgs false
open Go Go.RowKit
/-- frames that are told -/
def frC (fs : List Bw) : List Value := fs.flatMap fun x => [.int .i64 1, bwV x]
theorem frC_length (fs : List Bw) : (frC fs).length = fs.length * 2 := by
  unfold frC
  induction fs with
  | nil => rfl
  | cons x fs ih => rw [List.flatMap_cons, List.length_append, ih, List.length_cons, List.length_cons, List.length_cons, List.length_nil]; omega
def frL (p : Option Addr) (c : Nat) (fs : List Bw) (ps : List Asr) : List Asr := rowA 74 2 (.slice p fs.length c) fs.length (frC fs) :: (fs.map bwA ++ ps)
theorem frL_locs {p : Option Addr} {c : Nat} {fs : List Bw} {ps : List Asr} (h : Locs ps) : Locs (frL p c fs ps) := .cons (rowA_loc _ _ _ _ _) ((Locs.map _ bwA_loc fs).append h)
theorem frInfo : (Try.prog.info? 74).map (fun i => (i.zero, i.size, i.bytes)) = some (some (.agg #[.int .i64 0, .slice none 0 0]), 2, 32) := by kernel_rfl
theorem fr_build (X : World) (z : Int) (p : Option Addr) (n c : Nat) : (Instr.build 74 #[(0, .int .i64 z), (1, .slice p n c)]).run Try.prog X = .ok (.agg #[.int .i64 z, .slice p n c]) X := by kernel_rfl
/-- where a reader of frames stands -/
def atF (bs : List (List UInt8)) (k : Nat) (ph : Bool) : Nat := posP bs k + (if ph then padN (posP bs k) (bs.getD k []).length else 0)
def FrRel (w : World) (d : Nat) (s : DS) (bs : List (List UInt8)) (L : List Asr) (v4 v5 : Value) (wr : World) : Prop :=
  ∃ (k : Nat) (ph : Bool) (p : Option Addr) (c : Nat) (fs : List Bw), k ≤ bs.length ∧ (ph = true → k < bs.length) ∧ fs.map (·.2.2) = bs.take k ∧ v4 = .slice p fs.length c ∧ v5 = .int .u64 (atF bs k ph) ∧ dkH w wr d s (frL p c fs L)
def FrOut (w W' : World) (d : Nat) (s : DS) (bs : List (List UInt8)) (L : List Asr) (e : Ending) : Prop :=
  ∃ p c fs, fs.map (·.2.2) = bs ∧ e = .returned (.tuple #[.slice p fs.length c, .int .i64 0]) ∧ dkH w W' d s (frL p c fs L)
set_option maxHeartbeats 2000000 in
theorem frames_any {w W : World} {d : Nat} {s : DS} {L : List Asr} {lg rg T : Nat} {wv rv : Value} {fl : Bool} {bs : List (List UInt8)} (h : dkH w W d s L) (hl : Locs L) (hLm : logA lg d rg 0 T wv fl ∈ L) (hRm : ringA rg d T rv ∈ L) (hn : s.n = 194) (hdn : s.down = false)
    (hT : (layAll bs).length = T) (hT2 : T ≤ 24576) (hO : OnS s.readB (layAll bs)) (hs : ∀ b ∈ bs, b.length ≤ 300) (hbs : bs.length ≤ 64) :
    Calls Try.prog 17 #[.pointer (some ⟨lg, 0, none⟩)] W fun e W' => FrOut w W' d s bs L e := by
  obtain ⟨j0, hj0, jz0, jz1, jz2⟩ := info_parts frInfo
  have hlog : Lg W lg d rg 0 T wv fl := h.rest.blk hLm
  have k2 : World.cell? W ⟨lg, 2, none⟩ = some (.int .u64 0) := Blk.cell hlog 2
  have hfb := fr_build
  have h1 := h.with_ (fun hl h => h.rowNil hl 74 2) hl
  clear h hlog
  go_enter Try.func17, Try.ntmps17
  go_wp2_with fail
  clear k2
  go_loopw [4, 5] (fun v4 v5 wr => FrRel w d s bs L v4 v5 wr) (fun _ v5 _ => ((T : Int) + 1 - intOf v5).toNat)
  case atStart => exact ⟨0, false, none, 0, [], Nat.zero_le _, (fun h => by cases h), rfl, rfl, rfl, h1⟩
  case round =>
    clear h1
    obtain ⟨k, ph, p, c, fs, hk, hph, hfs, rfl, rfl, h1⟩ := hrel
    have LL : Locs (frL p c fs L) := frL_locs hl
    have hlog : Lg wr lg d rg 0 T wv fl := h1.rest.drop.dropA.blk hLm
    have k3 : World.cell? wr ⟨lg, 3, none⟩ = some (.int .u64 T) := Blk.cell hlog 3
    by_cases hkb : k < bs.length
    · have hb300 := hs bs[k] (List.getElem_mem hkb)
      have hsucc := posP_succ bs k hkb
      have hle := posP_le bs k hkb
      rw [hT, hsucc] at hle
      have hgd : bs.getD k [] = bs[k] := by rw [List.getD_eq_getElem?_getD, List.getElem?_eq_getElem hkb]; rfl
      obtain ⟨a, ha⟩ : ∃ a, atF bs k ph = a := ⟨_, rfl⟩
      have haT : a < T := by
        rw [← ha]
        unfold atF
        rw [hgd]
        split <;> omega
      rw [ha]
      have haT' : (a : Int) < T := by omega
      obtain ⟨r, hr⟩ : ∃ r, 2048 - a % 2048 = r := ⟨_, rfl⟩
      go_upto_region 4 with fail
      have d3 : ∀ x : Of (fun X => Lg X lg d rg 0 T wv fl), x.val.cell? ⟨lg, 3, none⟩ = some (.int .u64 T) := fun x => Blk.cell x.property 3
      have hFd := (show Lg wr.drew lg d rg 0 T wv fl from hlog)
      have hne_ : Nonempty (Of ((fun X => Lg X lg d rg 0 T wv fl))) := ⟨⟨_, hFd⟩⟩
      refine region_steps [0,3,4,5,6,7,8,1,2,9,10] [true,true,true,true,true,true,true,false,true,false,true] ((fun X => Lg X lg d rg 0 T wv fl)) (by kernel_rfl) (by kernel_rfl) hFd ?_
      simp only [List.filterMap_cons, List.filterMap_nil, List.getElem?_cons_zero, List.getElem?_cons_succ]
      have h2 := h1.ext LL (Ext.refl wr).drew
      refine steps_quiet 7 (by kernel_rfl) ?_
      simp only [List.take_succ_cons, List.take_zero, List.drop_succ_cons, List.drop_zero]
      repeat (go_big_quiet_step (fail))
      refine wpQuiet_nil ?_
      clear h1 hlog d3 k3
      generalize World.drew wr = w2 at *
      refine steps_want rfl (fun K hK => ?_)
      go_simp
      refine (room_any w2 a (by omega)).mono ?_
      rintro e _ ⟨rfl, rfl⟩
      rw [hr]
      refine hK _ _ (fun X => Lg X lg d rg 0 T wv fl) (h2.rest.drop.dropA.blk hLm) (fun _ h => h) ?_
      clear hK K
      (try simp only [Act.put, List.setIfInBounds_toArray, List.set_cons_succ, List.set_cons_zero])
      refine steps_quiet 1 (by kernel_rfl) ?_
      simp only [List.take_succ_cons, List.take_zero, List.drop_succ_cons, List.drop_zero]
      repeat (go_big_quiet_step (fail))
      refine wpQuiet_nil ?_
      obtain ⟨pn, hpn⟩ : ∃ pn, padN (posP bs k) bs[k].length = pn := ⟨_, rfl⟩
      obtain ⟨lf, hlf⟩ : ∃ lf, min r (T - a) = lf := ⟨_, rfl⟩
      have hmin : min (r : Int) ((T : Int) - a) = lf := by omega
      have hcase : (a = posP bs k ∧ 0 < pn ∧ lf = pn ∧ ph = false) ∨ (a = posP bs k + pn ∧ 9 + bs[k].length ≤ lf) := by
        have hpd : pn = if 2048 - posP bs k % 2048 < 9 + bs[k].length then 2048 - posP bs k % 2048 else 0 := by rw [← hpn]; rfl
        rw [hpn] at hle
        have ha2 : a = posP bs k + (if ph then pn else 0) := by rw [← ha]; unfold atF; rw [hgd, hpn]
        split at hpd
        · cases ph with
          | false =>
            have : a = posP bs k := by simpa using ha2
            exact Or.inl ⟨this, by omega, by omega, rfl⟩
          | true =>
            have : a = posP bs k + pn := by simpa using ha2
            exact Or.inr ⟨this, by omega⟩
        · have : a = posP bs k + pn := by
            rw [ha2, hpd]; cases ph <;> rfl
          exact Or.inr ⟨this, by omega⟩
      have HRS := Lib.hid (And.intro ha (And.intro hpn hgd))
      have HLF := Lib.hid hlf
      have HSUC := Lib.hid hsucc
      have HLE := Lib.hid hle
      have HHR := Lib.hid hr
      clear ha hlf hr hsucc hle
      refine steps_want rfl (fun K hK => ?_)
      go_simp
      refine hK _ _ (fun X => Lg X lg d rg 0 T wv fl) (h2.rest.drop.dropA.blk hLm) (fun _ h => h) ?_
      clear hK K hFd
      (try simp only [Act.put, List.setIfInBounds_toArray, List.set_cons_succ, List.set_cons_zero])
      clear hmin
      refine steps_quiet 1 (by kernel_rfl) ?_
      simp only [List.take_succ_cons, List.take_zero, List.drop_succ_cons, List.drop_zero]
      repeat (go_big_quiet_step (fail))
      refine wpQuiet_nil ?_
      refine steps_nil ?_
      rcases hcase with ⟨hap, hp0, hlp, rfl⟩ | ⟨haq, hlfb⟩
      · have HAP := Lib.hid (And.intro hap hlp)
        have hlf0 : 0 < lf := by omega
        clear hap hlp hp0
        by_cases h9 : (lf : Int) < 9
        · go_wp2_with fail
          refine ⟨⟨k, true, p, c, fs, hk, fun _ => hkb, hfs, rfl, ?_, h2⟩, ?_⟩
          · unfold atF
            rw [HRS.out.2.2, HRS.out.2.1, ← HAP.out.1, if_pos rfl, ← HAP.out.2]
            go_num
          · simp [intOf]; omega
        · have hlog2 : Lg w2 lg d rg 0 T wv fl := h2.rest.drop.dropA.blk hLm
          have k1 : World.cell? w2 ⟨lg, 1, none⟩ = some (.pointer (some ⟨rg, 0, none⟩)) := Blk.cell hlog2 1
          go_wp2_with fail
          have hmem : ringA rg d T rv ∈ frL p c fs L := List.mem_cons_of_mem _ (List.mem_append_right _ hRm)
          have ha9 : a + 9 ≤ T := by
            have h1 := HLE.out
            rw [HRS.out.2.1] at h1
            first | (have := HAP.out; have := HLF.out; omega) | (have := HAQ.out; omega)
          have hrd : Calls Try.prog 29 #[.pointer (some ⟨rg, 0, none⟩), .int .u64 a, .int .i64 9] w2 fun e W' => RiOut w W' d s (frL p c fs L) a 9 e := rread_any h2 LL hn hdn hmem hT2 a 9 ha9
          refine hrd.mono ?_
          clear hrd
          rintro e w3 ⟨p9, c9, rfl, h3⟩
          clear h2 hlog2 k1
          have hown := h3.rest.row0
          obtain ⟨gh, hc9, rfl⟩ : ∃ gh, 9 ≤ c9 ∧ p9 = some ⟨gh, 0, none⟩ := by
            rcases hown.2 with ⟨hv, h0⟩ | ⟨g1, cap, cur, hv, _, _, hn1, _⟩
            · cases h0
            · injection hv with e1 e2 e3
              exact ⟨g1, by omega, e1⟩
          obtain ⟨H, hH⟩ : ∃ H, s.rd a 9 = H := ⟨_, rfl⟩
          rw [hH] at h3 hown
          have hHl : H.length = 9 := by rw [← hH, DS.rd_length]
          have HH := Lib.hid hH
          have hBA := BytesAt.of_own hown
          clear hH hown
          have hsl : ∀ X, (Instr.sliceAt 36 (.slice (some ⟨gh, 0, none⟩) 9 c9) (some (.int .i64 4)) none none).run Try.prog X = .ok (.slice (some ⟨gh, 4, none⟩) 5 (c9 - 4)) X := fun X => slice_from X ⟨gh, 0, none⟩ 9 c9 4 4 rfl (by omega) (by omega)
          have LH : Locs (rowA 5 1 (.slice (some ⟨gh, 0, none⟩) 9 c9) 9 (u8s H) :: frL p c fs L) := .cons (rowA_loc _ _ _ _ _) LL
          go_upto_region 10 with fail
          have d8 : ∀ x : Of (fun X => BytesAt X gh 0 H), x.val.cell? ⟨gh, 8, none⟩ = some (.int .u8 ((H.getD 8 0).toNat : Int)) := fun x => by
            have := x.property.2 8 (by omega)
            rwa [Nat.zero_add] at this
          have hk8 := (H.getD 8 0).toNat_lt
          obtain ⟨kd, hkd⟩ : ∃ kd, (H.getD 8 0).toNat = kd := ⟨_, rfl⟩
          rw [hkd] at hk8
          simp only [hkd] at d8
          obtain ⟨N1, hN1⟩ : ∃ n, numU H 0 4 = n := ⟨_, rfl⟩
          obtain ⟨N2, hN2⟩ : ∃ n, numU (H.drop 4) 0 4 = n := ⟨_, rfl⟩
          have hN1b : N1 < 4294967296 := by rw [← hN1]; simpa using numU_lt H 0 4
          have hN2b : N2 < 4294967296 := by rw [← hN2]; simpa using numU_lt (H.drop 4) 0 4
          have HNS := Lib.hid (And.intro hN1 (And.intro hN2 hkd))
          have hFd := (show BytesAt w3.drew gh 0 H from hBA.ext (Ext.refl w3).drew)
          have hne_ : Nonempty (Of ((fun X => BytesAt X gh 0 H))) := ⟨⟨_, hFd⟩⟩
          refine region_steps [0,3,4,6,7,8,9,1,2,5,10,11,12] [true,true,true,true,true,true,true,false,true,false,true,true,true] ((fun X => BytesAt X gh 0 H)) (by kernel_rfl) (by kernel_rfl) hFd ?_
          simp only [List.filterMap_cons, List.filterMap_nil, List.getElem?_cons_zero, List.getElem?_cons_succ]
          have h4 := h3.ext LH (Ext.refl w3).drew
          refine steps_quiet 7 (by kernel_rfl) ?_
          simp only [List.take_succ_cons, List.take_zero, List.drop_succ_cons, List.drop_zero]
          repeat (go_big_quiet_step (fail))
          refine wpQuiet_nil ?_
          clear h3 hBA hsl d8
          generalize World.drew w3 = w4 at *
          refine steps_want rfl (fun K hK => ?_)
          go_simp
          refine (wnumber_any w4 gh 0 9 c9 H (by omega) (fun j hj => hFd.2 j (by omega))).mono ?_
          rintro e w5 ⟨rfl, hE5⟩
          rw [hN1]
          have hB5 := hFd.ext hE5
          have h5 := h4.ext LH hE5
          refine hK _ _ (fun X => BytesAt X gh 0 H) hB5 (fun _ h => h) ?_
          clear hK K h4 hE5 hFd
          (try simp only [Act.put, List.setIfInBounds_toArray, List.set_cons_succ, List.set_cons_zero])
          refine steps_quiet 1 (by kernel_rfl) ?_
          simp only [List.take_succ_cons, List.take_zero, List.drop_succ_cons, List.drop_zero]
          repeat (go_big_quiet_step (fail))
          refine wpQuiet_nil ?_
          refine steps_want rfl (fun K hK => ?_)
          go_simp
          refine (wnumber_any w5 gh 4 5 (c9 - 4) (H.drop 4) (by omega) (fun j hj => by
            have := hB5.2 (4 + j) (by omega)
            rw [Nat.zero_add] at this
            rw [this, List.getD_eq_getElem?_getD, List.getD_eq_getElem?_getD, List.getElem?_drop])).mono ?_
          rintro e w6 ⟨rfl, hE6⟩
          rw [hN2]
          have h6 := h5.ext LH hE6
          refine hK _ _ (fun X => BytesAt X gh 0 H) (hB5.ext hE6) (fun _ h => h) ?_
          clear hK K h5 hE6 hB5
          (try simp only [Act.put, List.setIfInBounds_toArray, List.set_cons_succ, List.set_cons_zero])
          refine steps_quiet 3 (by kernel_rfl) ?_
          simp only [List.take_succ_cons, List.take_zero, List.drop_succ_cons, List.drop_zero]
          repeat (go_big_quiet_step (fail))
          refine wpQuiet_nil ?_
          refine steps_nil ?_
          have h7 := h6.drop
          clear h6 LH hN1 hN2 hkd
          have hH0 : H = List.replicate 9 0 := by
            rw [← HH.out, HAP.out.1]
            exact frame_pad hO k hkb (by rw [HRS.out.2.1]; have := HAP.out.2; omega)
          have hN1 : N1 = 0 := by rw [← HNS.out.1, hH0]; rfl
          have hN2 : N2 = 0 := by rw [← HNS.out.2.1, hH0]; rfl
          have hkd : kd = 0 := by rw [← HNS.out.2.2, hH0]; rfl
          subst hN1 hN2 hkd
          have hal : (a : Int) + lf ≤ 24576 := by have := HLF.out; omega
          clear hH0
          go_wp2_with fail
          refine ⟨⟨k, true, p, c, fs, hk, fun _ => hkb, hfs, rfl, ?_, h7⟩, ?_⟩
          · unfold atF
            rw [HRS.out.2.2, HRS.out.2.1, ← HAP.out.1, if_pos rfl, ← HAP.out.2]
            go_num
          · simp [intOf]; omega
      · have h9 : ¬ (lf : Int) < 9 := by omega
        have HAQ := Lib.hid haq
        clear haq
        have hlog2 : Lg w2 lg d rg 0 T wv fl := h2.rest.drop.dropA.blk hLm
        have k1 : World.cell? w2 ⟨lg, 1, none⟩ = some (.pointer (some ⟨rg, 0, none⟩)) := Blk.cell hlog2 1
        go_wp2_with fail
        have hmem : ringA rg d T rv ∈ frL p c fs L := List.mem_cons_of_mem _ (List.mem_append_right _ hRm)
        have ha9 : a + 9 ≤ T := by
          have h1 := HLE.out
          rw [HRS.out.2.1] at h1
          first | (have := HAP.out; have := HLF.out; omega) | (have := HAQ.out; omega)
        have hrd : Calls Try.prog 29 #[.pointer (some ⟨rg, 0, none⟩), .int .u64 a, .int .i64 9] w2 fun e W' => RiOut w W' d s (frL p c fs L) a 9 e := rread_any h2 LL hn hdn hmem hT2 a 9 ha9
        refine hrd.mono ?_
        clear hrd
        rintro e w3 ⟨p9, c9, rfl, h3⟩
        clear h2 hlog2 k1
        have hown := h3.rest.row0
        obtain ⟨gh, hc9, rfl⟩ : ∃ gh, 9 ≤ c9 ∧ p9 = some ⟨gh, 0, none⟩ := by
          rcases hown.2 with ⟨hv, h0⟩ | ⟨g1, cap, cur, hv, _, _, hn1, _⟩
          · cases h0
          · injection hv with e1 e2 e3
            exact ⟨g1, by omega, e1⟩
        obtain ⟨H, hH⟩ : ∃ H, s.rd a 9 = H := ⟨_, rfl⟩
        rw [hH] at h3 hown
        have hHl : H.length = 9 := by rw [← hH, DS.rd_length]
        have HH := Lib.hid hH
        have hBA := BytesAt.of_own hown
        clear hH hown
        have hsl : ∀ X, (Instr.sliceAt 36 (.slice (some ⟨gh, 0, none⟩) 9 c9) (some (.int .i64 4)) none none).run Try.prog X = .ok (.slice (some ⟨gh, 4, none⟩) 5 (c9 - 4)) X := fun X => slice_from X ⟨gh, 0, none⟩ 9 c9 4 4 rfl (by omega) (by omega)
        have LH : Locs (rowA 5 1 (.slice (some ⟨gh, 0, none⟩) 9 c9) 9 (u8s H) :: frL p c fs L) := .cons (rowA_loc _ _ _ _ _) LL
        go_upto_region 10 with fail
        have d8 : ∀ x : Of (fun X => BytesAt X gh 0 H), x.val.cell? ⟨gh, 8, none⟩ = some (.int .u8 ((H.getD 8 0).toNat : Int)) := fun x => by
          have := x.property.2 8 (by omega)
          rwa [Nat.zero_add] at this
        have hk8 := (H.getD 8 0).toNat_lt
        obtain ⟨kd, hkd⟩ : ∃ kd, (H.getD 8 0).toNat = kd := ⟨_, rfl⟩
        rw [hkd] at hk8
        simp only [hkd] at d8
        obtain ⟨N1, hN1⟩ : ∃ n, numU H 0 4 = n := ⟨_, rfl⟩
        obtain ⟨N2, hN2⟩ : ∃ n, numU (H.drop 4) 0 4 = n := ⟨_, rfl⟩
        have hN1b : N1 < 4294967296 := by rw [← hN1]; simpa using numU_lt H 0 4
        have hN2b : N2 < 4294967296 := by rw [← hN2]; simpa using numU_lt (H.drop 4) 0 4
        have HNS := Lib.hid (And.intro hN1 (And.intro hN2 hkd))
        have hFd := (show BytesAt w3.drew gh 0 H from hBA.ext (Ext.refl w3).drew)
        have hne_ : Nonempty (Of ((fun X => BytesAt X gh 0 H))) := ⟨⟨_, hFd⟩⟩
        refine region_steps [0,3,4,6,7,8,9,1,2,5,10,11,12] [true,true,true,true,true,true,true,false,true,false,true,true,true] ((fun X => BytesAt X gh 0 H)) (by kernel_rfl) (by kernel_rfl) hFd ?_
        simp only [List.filterMap_cons, List.filterMap_nil, List.getElem?_cons_zero, List.getElem?_cons_succ]
        have h4 := h3.ext LH (Ext.refl w3).drew
        refine steps_quiet 7 (by kernel_rfl) ?_
        simp only [List.take_succ_cons, List.take_zero, List.drop_succ_cons, List.drop_zero]
        repeat (go_big_quiet_step (fail))
        refine wpQuiet_nil ?_
        clear h3 hBA hsl d8
        generalize World.drew w3 = w4 at *
        refine steps_want rfl (fun K hK => ?_)
        go_simp
        refine (wnumber_any w4 gh 0 9 c9 H (by omega) (fun j hj => hFd.2 j (by omega))).mono ?_
        rintro e w5 ⟨rfl, hE5⟩
        rw [hN1]
        have hB5 := hFd.ext hE5
        have h5 := h4.ext LH hE5
        refine hK _ _ (fun X => BytesAt X gh 0 H) hB5 (fun _ h => h) ?_
        clear hK K h4 hE5 hFd
        (try simp only [Act.put, List.setIfInBounds_toArray, List.set_cons_succ, List.set_cons_zero])
        refine steps_quiet 1 (by kernel_rfl) ?_
        simp only [List.take_succ_cons, List.take_zero, List.drop_succ_cons, List.drop_zero]
        repeat (go_big_quiet_step (fail))
        refine wpQuiet_nil ?_
        refine steps_want rfl (fun K hK => ?_)
        go_simp
        refine (wnumber_any w5 gh 4 5 (c9 - 4) (H.drop 4) (by omega) (fun j hj => by
          have := hB5.2 (4 + j) (by omega)
          rw [Nat.zero_add] at this
          rw [this, List.getD_eq_getElem?_getD, List.getD_eq_getElem?_getD, List.getElem?_drop])).mono ?_
        rintro e w6 ⟨rfl, hE6⟩
        rw [hN2]
        have h6 := h5.ext LH hE6
        refine hK _ _ (fun X => BytesAt X gh 0 H) (hB5.ext hE6) (fun _ h => h) ?_
        clear hK K h5 hE6 hB5
        (try simp only [Act.put, List.setIfInBounds_toArray, List.set_cons_succ, List.set_cons_zero])
        refine steps_quiet 3 (by kernel_rfl) ?_
        simp only [List.take_succ_cons, List.take_zero, List.drop_succ_cons, List.drop_zero]
        repeat (go_big_quiet_step (fail))
        refine wpQuiet_nil ?_
        refine steps_nil ?_
        have h7 := h6.drop
        clear h6 LH hN1 hN2 hkd
        have hHd : H = hdrB a bs[k] := by
          rw [← HH.out, HAQ.out, ← HRS.out.2.1]
          exact (frame_head hO k hkb).1
        have hN1 : N1 = bs[k].length := by rw [← HNS.out.1, hHd]; exact hdr_len _ _ (by omega)
        have hN2 : N2 = sealN a 1 bs[k] := by rw [← HNS.out.2.1, hHd]; exact hdr_seal _ _
        have hkd : kd = 1 := by rw [← HNS.out.2.2, hHd]; rfl
        subst hkd
        have hN1l : N1 + 9 ≤ lf := by omega
        have HN := Lib.hid (And.intro hN1 hN2)
        clear hHd hN1 hN2
        go_upto_region 11 with fail
        go_cut [69] (fun v wx => v = .bool false ∧ wx = w6)
        case first =>
          cases hq1 : ((N1 : Int) == 0) <;> cases hq2 : ((N2 : Int) == 0)
          all_goals
            go_wp2_with fail
            go_meet
            exact ⟨rfl, rfl⟩
        case rest =>
          obtain ⟨rfl, rfl⟩ := hcut
          have hlfu : (lf : Int) ≤ 24576 := by have := HLF.out; omega
          have hgt : decide ((lf : Int) - 9 < N1) = false := decide_eq_false (by omega)
          obtain ⟨B, hBk⟩ : ∃ B, bs[k] = B := ⟨_, rfl⟩
          have hNB : N1 = B.length := by rw [← hBk]; exact HN.out.1
          subst hNB
          have hSL : N2 = sealN a 1 B := by rw [← hBk]; exact HN.out.2
          have hrB : s.rd (a + 9) B.length = B := by
            have := (frame_head hO k hkb).2
            rw [HRS.out.2.1, ← HAQ.out, hBk] at this
            exact this
          have hB300 : B.length ≤ 300 := by rw [← hBk]; exact hb300
          have haB : a + 9 + B.length ≤ T := by
            have h1 := HLE.out
            rw [HRS.out.2.1, hBk] at h1
            have := HAQ.out
            omega
          have HBK := Lib.hid hBk
          have HSL := Lib.hid hSL
          have HRB := Lib.hid hrB
          clear hBk hSL hrB hb300 hlfb
          have hlog3 : Lg wc lg d rg 0 T wv fl := h7.rest.drop.dropA.blk hLm
          have k1 : World.cell? wc ⟨lg, 1, none⟩ = some (.pointer (some ⟨rg, 0, none⟩)) := Blk.cell hlog3 1
          have hmem : ringA rg d T rv ∈ frL p c fs L := List.mem_cons_of_mem _ (List.mem_append_right _ hRm)
          have hrd : Calls Try.prog 29 #[.pointer (some ⟨rg, 0, none⟩), .int .u64 ((a : Int) + 9), .int .i64 B.length] wc fun e W' => RiOut w W' d s (frL p c fs L) (a + 9) B.length e := by
            rw [show ((a : Int) + 9) = ((a + 9 : Nat) : Int) by omega]
            exact rread_any h7 LL hn hdn hmem hT2 (a + 9) B.length haB
          go_upto_region 15 with fail
          go_wp2_with fail
          refine hrd.mono ?_
          clear hrd
          rintro e w8 ⟨p12, c12, rfl, h8⟩
          rw [HRB.out] at h8
          clear h7 hlog3 k1 hgt
          go_upto_region 18 with fail
          have hV := View.of_row h8.rest.row0
          go_wp2_with fail
          refine (seal_any w8 a 1 (by omega) (by omega) p12 c12 B (by omega) hV).mono ?_
          rintro e w9 ⟨rfl, hE9⟩
          rw [← HSL.out]
          have LB : Locs (rowA 5 1 (.slice p12 B.length c12) B.length (u8s B) :: frL p c fs L) := .cons (rowA_loc _ _ _ _ _) LL
          have h9' := h8.ext LB hE9
          have h10 : dkH w w9 d s (viewA p12 c12 B :: frL p c fs L) := h9'.turn (fun hl h => h.viewRow hl) LL
          clear h8 h9' hV hE9
          go_upto_region 20 with fail
          have hown := h10.rest.drop.row0
          have hfl64 : fs.length ≤ 64 := by
            have := congrArg List.length hfs
            rw [List.length_map, List.length_take] at this
            omega
          have hE10 := ext_alloc w9 (.cells [Value.int .i64 1, Value.slice p12 B.length c12].toArray 74)
          have LV : Locs (viewA p12 c12 B :: frL p c fs L) := .cons (viewA_loc _ _ _) LL
          have h11 := h10.ext LV hE10
          have hownx := h11.rest.drop.row0
          have hnews := news_new w9 [Value.int .i64 1, Value.slice p12 B.length c12] 74
          go_wp2_with (at_builtin; go_loud (refine wpList_append_new rfl _ _ 28 rfl 74 j0 (.agg #[.int .i64 0, .slice none 0 0]) 2 32 Try.underlying28 hj0 jz0 jz1 jz2 rfl (by decide) _ fs.length (frC fs) rfl hownx (some ⟨w9.heap.size, 0, none⟩) 1 1 [Value.int .i64 1, Value.slice p12 B.length c12] rfl rfl (fun h => nomatch h) hnews (by intro u hu; simp at hu; rcases hu with rfl | rfl <;> rfl) (by unfold maxLen; omega) (by omega) ?_))
          intro v' w11 hown11 hg11 hf11
          obtain ⟨p13, c13, rfl⟩ := ownsRow_slice hown11
          have h12 : dkH w _ d s (rowA 74 2 (.slice p fs.length c) fs.length (frC fs) :: viewA p12 c12 B :: (fs.map bwA ++ L)) := h11.perm (List.Perm.swap _ _ _)
          have LX : Locs (viewA p12 c12 B :: (fs.map bwA ++ L)) := .cons (viewA_loc _ _ _) ((Locs.map _ bwA_loc fs).append hl)
          have h13 : dkH w w11 d s (rowA 74 2 (.slice p13 (fs.length + 1) c13) (fs.length + 1) (frC fs ++ [Value.int .i64 1, Value.slice p12 B.length c12]) :: viewA p12 c12 B :: (fs.map bwA ++ L)) := h12.turn (fun hl h => h.grow hl hown11 hg11 hf11) LX
          have h14 : dkH w w11 d s (frL p13 c13 (fs ++ [(p12, c12, B)]) L) := by
            refine h13.perm ?_
            unfold frL
            rw [List.map_append, List.length_append, show frC (fs ++ [(p12, c12, B)]) = frC fs ++ [Value.int .i64 1, Value.slice p12 B.length c12] by unfold frC; rw [List.flatMap_append]; rfl]
            refine List.Perm.cons _ ?_
            rw [List.append_assoc]
            exact List.perm_middle.symm
          clear h10 h11 h12 h13 hown hownx hnews hown11 hg11 hf11 hE10
          have haB2 : (a : Int) + (9 + B.length) ≤ 24576 := by omega
          go_wp2_with fail
          refine ⟨⟨k + 1, false, p13, c13, fs ++ [(p12, c12, B)], hkb, (fun h => by cases h), ?_, ?_, ?_, h14⟩, ?_⟩
          · rw [List.map_append, hfs, List.take_succ_eq_append_getElem hkb, HBK.out]; rfl
          · rw [List.length_append]; rfl
          · have hsu := HSUC.out
            rw [HRS.out.2.1, HBK.out] at hsu
            have e : atF bs (k + 1) false = a + (9 + B.length) := by
              unfold atF
              rw [hsu, HAQ.out]
              simp
              omega
            rw [e]
            go_num
          · simp [intOf]; omega
    · have hk2 : k = bs.length := by omega
      cases ph with
      | true => exact absurd (hph rfl) hkb
      | false =>
        have hat : atF bs k false = T := by unfold atF; rw [hk2, posP_all, hT]; rfl
        rw [hat]
        go_wp2_with fail
        go_ret2
        exact ⟨p, c, fs, by rw [hfs, hk2, List.take_length], rfl, h1⟩
end Go.Proofs.Ythghflfgldcmbaa
