/- A log's Commit. -/
import Derived.Test.YthghflfgldcmbaaWOpen
namespace Go.Proofs.Ythghflfgldcmbaa
set_option maxRecDepth 4000
set_option linter.unusedVariables false
set_option linter.unusedSimpArgs false
open Go Go.RowKit
theorem tailR_dropM (L Y : List UInt8) (k : Nat) (h : 128 * k ≤ L.length) : tailR (L.drop (128 * k)) = tailR L := by
  unfold tailR
  rw [List.drop_drop, List.length_drop]
  congr 1
  omega
theorem tailR_cat (L P : List UInt8) : tailR L ++ P = (L ++ P).drop (128 * (L.length / 128)) := by
  unfold tailR
  rw [Nat.mul_comm 128, List.drop_append_of_le_length (by omega)]
theorem tailR_next (L P : List UInt8) : tailR (tailR L ++ P) = tailR (L ++ P) := by
  rw [tailR_cat]
  exact tailR_dropM _ [] _ (by rw [List.length_append]; omega)
theorem tailR_length (L : List UInt8) : (tailR L).length = L.length % 128 := by unfold tailR; rw [List.length_drop]; omega
/-- a disk on which a group is being laid behind a log -/
structure Laid (s s0 : DS) (L LX : List UInt8) : Prop where
  n : s.n = 194
  sure : s.sure = s0.sure
  down : s.down = false
  keeps : Keeps s L
  on : OnS s.readB LX
theorem Laid.step {s s0 s' : DS} {L LX b : List UInt8} {z : Int} (h : Laid s s0 L LX) (hL : ∃ Y, LX = L ++ Y) (hX : (layB LX b).length ≤ 24576) (hc : s.chunks (LX.length / 128) (tailR LX ++ frameB LX.length b) = (s', z)) :
    (z = 0 → Laid s' s0 L (layB LX b)) ∧ s'.n = 194 ∧ s'.sure = s0.sure ∧ Keeps s' L ∧ (z = 0 ∨ z = 50) := by
  rw [tailR_cat] at hc
  obtain ⟨Y, hY⟩ := hL
  obtain ⟨r1, r2, r3, r4, r5⟩ := chunks_spec L (LX ++ frameB LX.length b) ⟨Y ++ frameB LX.length b, by rw [hY, List.append_assoc]⟩ hX (LX ++ frameB LX.length b).length s (LX.length / 128) (by omega) (by rw [List.length_append]; omega) h.n h.down h.keeps (fun p hp => by
    rw [h.on p (by omega), List.getElem?_append_left (by omega)]) s' z hc
  exact ⟨fun hz => ⟨r1, r2.trans h.sure, (r5 hz).1, r3, (r5 hz).2⟩, r1, r2.trans h.sure, r3, r4⟩
theorem LInv.laid {s : DS} {bs : List (List UInt8)} {B : Nat} (h : LInv s bs B) : Laid s s (layAll bs) (layAll bs) :=
  have hr : s.readB = s.sure := by funext i; unfold DS.readB; rw [h.pend]; rfl
  ⟨h.n, rfl, h.down, (fun i b hb => by rw [h.pend] at hb; cases hb), (by rw [hr]; exact h.on)⟩
def grOf (ws : List Bw) : List (List UInt8) := ws.map (·.2.2)
/-- what is told of a commit: how many, the error, and what is had behind a crash -/
def CmOut (w W' : World) (d : Nat) (bs : List (List UInt8)) (B : Nat) (ws : List Bw) (lg : Nat) (ps : List Asr) (e : Ending) : Prop :=
  ∃ (n z : Int) (sC : DS), e = .returned (.tuple #[.int .i64 n, .int .i64 z]) ∧ (z = 0 ∨ z = 50) ∧ (z = 0 → n = ws.length) ∧ dkH w W' d sC ps ∧
    ∀ (keep : List Int) (tear at_ : Int) (sD : DS), (sC.crashS keep tear at_).upS = sD → (LInv sD (bs ++ grOf ws) (B + 2) ∨ LInv sD bs (B + 2)) ∧ (z = 0 → LInv sD (bs ++ grOf ws) (B + 2))
def CmRel (w : World) (d : Nat) (s : DS) (bs : List (List UInt8)) (ws : List Bw) (rg : Nat) (ps' : List Asr) (v4 v5 v20 : Value) (wr : World) : Prop :=
  ∃ (i : Nat) (si : DS) (pr : Option Addr) (rc : Nat), i ≤ ws.length ∧ v4 = .int .i64 i ∧ v5 = .int .i64 0 ∧ v20 = .int .i64 i ∧ Laid si s (layAll bs) (layFrom (layAll bs) ((grOf ws).take i)) ∧ dkH w wr d si (rgL rg d (layFrom (layAll bs) ((grOf ws).take i)).length pr rc (tailR (layFrom (layAll bs) ((grOf ws).take i))) ps')
theorem slice_rest (X : World) (a : Addr) (n c : Nat) (hnc : n ≤ c) : ∃ a', (Instr.sliceAt 53 (.slice (some a) n c) (some (.int .i64 n)) none none).run Try.prog X = .ok (.slice (some a') 0 (c - n)) X := by
  have ht : Try.prog.underlying 53 = some (.slice (Try.prog.elem 53)) := by kernel_rfl
  have hs : (sizeOf (Try.prog.elem 53)).run Try.prog X = .ok 1 X := by kernel_rfl
  rw [run_sliceAt_slice (w := X) _ _ _ _ _ ht, run_slice_l (w := X) _ (some a) n c ht .i64 n (by omega) (by omega), hs]
  simp only [sliced, Result.andThen, Int.toNat_natCast, Nat.mul_one, Nat.sub_self]
  by_cases h : c = n
  · rw [if_pos h]; exact ⟨a, rfl⟩
  · rw [if_neg h]; exact ⟨_, rfl⟩
theorem grOf_length (ws : List Bw) : (grOf ws).length = ws.length := by unfold grOf; rw [List.length_map]
set_option maxHeartbeats 4000000 in
theorem commit_any {w W : World} {d : Nat} {s : DS} {ps : List Asr} {bs : List (List UInt8)} {B lg rg : Nat} {wp : Option Addr} {wcap : Nat} {ws : List Bw} {pr : Option Addr} {rc : Nat}
    (h : dkH w W d s (logA lg d rg 0 (layAll bs).length (.slice wp ws.length wcap) false :: wtL wp wcap ws (rgL rg d (layAll bs).length pr rc (tailR (layAll bs)) ps))) (hl : Locs ps) (hI : LInv s bs B) (hB : B + 2 < 256)
    (hs : ∀ b ∈ bs, b.length ≤ 300) (hs2 : ∀ b ∈ grOf ws, b.length ≤ 300) (hk : bs.length + ws.length ≤ 64) :
    Calls Try.prog 9 #[.pointer (some ⟨lg, 0, none⟩)] W fun e W' => CmOut w W' d bs B ws lg ps e := by
  obtain ⟨L, hL⟩ : ∃ L, layAll bs = L := ⟨_, rfl⟩
  obtain ⟨T, hT⟩ : ∃ T, L.length = T := ⟨_, rfl⟩
  have hroom : Roomy T bs.length := by
    have := Roomy.all bs [] 0 Roomy.zero hs
    rw [Nat.zero_add] at this
    rw [← hT, ← hL]; exact this
  have h0 : dkH w W d s (rgL rg d T pr rc (tailR L) (logA lg d rg 0 T (.slice wp ws.length wcap) false :: wtL wp wcap ws ps)) := by
    rw [hL, hT] at h
    refine h.perm ?_
    unfold wtL rgL
    have e : ∀ (x y a b : Asr) (m q : List Asr), (x :: y :: (m ++ a :: b :: q)).Perm (a :: b :: x :: y :: (m ++ q)) := by
      intro x y a b m q
      have h1 : (x :: y :: (m ++ a :: b :: q)) = (x :: y :: m) ++ (a :: b :: q) := by simp
      have h2 : (a :: b :: x :: y :: (m ++ q)) = [a, b] ++ ((x :: y :: m) ++ q) := by simp
      rw [h1, h2, show (a :: b :: q) = [a, b] ++ q from rfl, ← List.append_assoc, ← List.append_assoc]
      exact List.Perm.append_right q List.perm_append_comm
    exact e _ _ _ _ _ _
  have LW : Locs (logA lg d rg 0 T (.slice wp ws.length wcap) false :: wtL wp wcap ws ps) := .cons (logA_loc _ _ _ _ _ _ _) (wtL_locs hl)
  have hlog : Lg W lg d rg 0 T (.slice wp ws.length wcap) false := h0.rest.drop.drop.blk0
  have k5 : World.cell? W ⟨lg, 5, none⟩ = some (.bool false) := Blk.cell hlog 5
  have k4 : World.cell? W ⟨lg, 4, none⟩ = some (.slice wp ws.length wcap) := Blk.cell hlog 4
  have hfb := fr_build
  have hla := hI.laid
  rw [hL] at hla
  clear h
  go_enter Try.func9, Try.ntmps9
  go_wp2_with fail
  clear k4 k5 hlog
  go_loopw [4, 5, 20] (fun v4 v5 v20 wr => CmRel w d s bs ws rg (logA lg d rg 0 T (.slice wp ws.length wcap) false :: wtL wp wcap ws ps) v4 v5 v20 wr) (fun _ _ v20 _ => ((ws.length : Int) + 1 - intOf v20).toNat)
  case atStart =>
    refine ⟨0, s, pr, rc, Nat.zero_le _, rfl, rfl, rfl, ?_, ?_⟩
    · rw [hL]; exact hla
    · rw [List.take_zero, hL]
      show dkH w W d s (rgL rg d L.length pr rc (tailR L) _)
      rw [hT]; exact h0
  case round =>
    clear h0 hla
    obtain ⟨i, si, pr, rc, hi, rfl, rfl, rfl, hla, h1⟩ := hrel
    rw [hL] at hla h1
    obtain ⟨Li, hLi⟩ : ∃ Li, layFrom L ((grOf ws).take i) = Li := ⟨_, rfl⟩
    rw [hLi] at hla h1
    have hpre : ∃ Y, Li = L ++ Y := by rw [← hLi]; exact layFrom_prefix _ _
    have hri : Roomy Li.length (bs.length + i) := by
      have := Roomy.all ((grOf ws).take i) L bs.length (by rw [hT]; exact hroom) (fun b hb => hs2 b (List.mem_of_mem_take hb))
      rw [hLi, List.length_take, grOf_length, Nat.min_eq_left hi] at this
      exact this
    have hLI := Lib.hid hLi
    clear hLi
    by_cases gi : (i : Int) < ws.length
    · have hiw : i < ws.length := by omega
      have hig : i < (grOf ws).length := by rw [grOf_length]; exact hiw
      have hrow := h1.rest.drop.drop.drop.row0
      obtain ⟨gw, rfl, hcw⟩ := row_at hrow (i := i) (x := bwV ws[i]) (by rw [List.getElem?_map, List.getElem?_eq_getElem hiw]; rfl)
      have hgi : (grOf ws)[i] = ws[i].2.2 := by simp [grOf]
      have hb3 := hs2 _ (List.getElem_mem hig)
      have hnx : layFrom L ((grOf ws).take (i + 1)) = layB Li ws[i].2.2 := by
        rw [List.take_succ_eq_append_getElem hig, layFrom_append, hLI.out, hgi]; rfl
      have hmw : bwA ws[i] ∈ ws.map bwA ++ ps := List.mem_append_left _ (List.mem_map.2 ⟨_, List.getElem_mem hiw, rfl⟩)
      rw [hgi] at hb3
      have HNX := Lib.hid hnx
      clear hgi hnx hrow
      unfold bwV at hcw
      have hV : ∀ X, Has w X (logA lg d rg 0 T (.slice (some ⟨gw, 0, none⟩) ws.length wcap) false :: wtL (some ⟨gw, 0, none⟩) wcap ws ps) → View X ws[i].1 ws[i].2.1 ws[i].2.2 := fun X hX => by
        obtain ⟨F, hF, _⟩ := Has.memlo hX.drop.drop hmw
        exact hF.1
      have hfit := hri.fits (n := ws[i].2.2.length) (by omega) hb3
      have hly := lay_any h1 LW (.head _) hla.n (tailR_length Li) ws[i].1 ws[i].2.1 ws[i].2.2 hV hb3 hfit
      generalize ws[i] = x at *
      obtain ⟨q, cq, b⟩ := x
      go_upto_region 7 with fail
      go_wp2_with fail
      refine hly.mono ?_
      clear hly hcw
      rintro e w2 ⟨s', z, a, hch, rfl, hz1, hz0⟩
      obtain ⟨r1, r2, r3, r4, r5⟩ := hla.step hpre (by rw [show (layB Li b).length = Li.length + (padN Li.length b.length + (9 + b.length)) by unfold layB; rw [List.length_append, frameB_length]]; exact hfit) hch
      rcases r5 with rfl | rfl
      · obtain ⟨p', c', h2⟩ := hz0 rfl
        have hla2 := r1 rfl
        clear hz1 hz0 r1
        go_wp2_with fail
        refine ⟨⟨i + 1, s', p', c', hiw, by go_num, rfl, by go_num, ?_, ?_⟩, by simp [intOf]; omega⟩
        · rw [hL, HNX.out]; exact hla2
        · rw [hL, HNX.out]
          rw [tailR_next] at h2
          rw [show (layB Li b).length = Li.length + (frameB Li.length b).length by unfold layB; rw [List.length_append]]
          exact h2
      · have h2 := hz1 (by decide)
        clear hz1 hz0 r1
        have h3 : dkH w w2 d s' (logA lg d rg 0 T (.slice (some ⟨gw, 0, none⟩) ws.length wcap) false :: ringA rg d Li.length (.slice pr (tailR Li).length rc) :: viewA pr rc (tailR Li) :: wtL (some ⟨gw, 0, none⟩) wcap ws ps) := dkH.pick (l := [ringA rg d Li.length (.slice pr (tailR Li).length rc), viewA pr rc (tailR Li), logA lg d rg 0 T (.slice (some ⟨gw, 0, none⟩) ws.length wcap) false]) h2 [2, 0, 1] (by rfl)
        have hfl := fail_any h3 (.cons (ringA_loc _ _ _ _) (.cons (viewA_loc _ _ _) (wtL_locs hl))) 50
        clear h2 h3 h1
        go_wp2_with fail
        refine hfl.mono ?_
        clear hfl
        rintro e w3 ⟨rfl, h4⟩
        go_wp2_with fail
        go_ret2
        refine ⟨0, 50, s', rfl, Or.inr rfl, fun h => absurd h (by decide), h4.drop.drop.drop.drop.dropA, fun keep tear at_ sD hD => ⟨Or.inr ?_, fun h => absurd h (by decide)⟩⟩
        exact (lost_crash hI (by rw [hL, hT]; obtain ⟨q, c, k1, k2, k3, k4⟩ := hroom; omega) r2 r3 (by rw [hL]; exact r4) keep tear at_ hD).mono (by omega)
    · have hiw : i = ws.length := by omega
      subst hiw
      have hLX : Li = layAll (bs ++ grOf ws) := by
        rw [← hLI.out, ← grOf_length, List.take_length, ← hL]
        unfold layAll
        rw [layFrom_append]
      have hT2 : Li.length ≤ 24576 := by obtain ⟨q, c, k1, k2, k3, k4⟩ := hri; omega
      have hLT : (layAll bs).length ≤ 24576 := by rw [hL, hT]; obtain ⟨q, c, k1, k2, k3, k4⟩ := hroom; omega
      by_cases hw0 : ws.length = 0
      · go_wp2_with fail
        go_ret2
        have hws : ws = [] := List.eq_nil_of_length_eq_zero hw0
        subst hws
        refine ⟨0, 0, si, rfl, Or.inl rfl, fun _ => rfl, h1.drop.drop.drop.drop.dropA, fun keep tear at_ sD hD => ?_⟩
        have hD2 := (lost_crash hI hLT hla.n hla.sure (by rw [hL]; exact hla.keeps) keep tear at_ hD).mono (B' := B + 2) (by omega)
        exact ⟨Or.inr hD2, fun _ => by simpa [grOf] using hD2⟩
      · have hw0' : ((ws.length : Int) == 0) = false := by
          have : ¬ (ws.length : Int) = 0 := by omega
          simpa using this
        have h2 : dkH w wr d si (logA lg d rg 0 T (.slice wp ws.length wcap) false :: ringA rg d Li.length (.slice pr (tailR Li).length rc) :: viewA pr rc (tailR Li) :: wtL wp wcap ws ps) := dkH.pick (l := [ringA rg d Li.length (.slice pr (tailR Li).length rc), viewA pr rc (tailR Li), logA lg d rg 0 T (.slice wp ws.length wcap) false]) h1 [2, 0, 1] (by rfl)
        have hkL : Keeps si (layAll bs) := by rw [hL]; exact hla.keeps
        have hfsp := fun h0 => flushed_spec hI hla.n hla.sure hkL hla.on h0
        have hlk : si.flushE = 0 → si.flushS.looked = s.looked := fun h0 => by
          obtain ⟨_, _, f3, _, f5, _⟩ := hfsp h0
          rw [looked_lk f3, looked_lk hI.pend]
          exact lk_congr f5
        have hfn : si.flushS.n = 194 := by
          by_cases h0 : si.flushE = 0
          · exact (hfsp h0).1
          · rcases (DS.flushE_ne h0).2 with h | h <;> rw [h]
            · exact hla.n
            · rw [DS.burnt_n]; exact hla.n
        have hlogr : Lg wr lg d rg 0 T (.slice wp ws.length wcap) false := h2.rest.blk0
        have k2 : World.cell? wr ⟨lg, 2, none⟩ = some (.int .u64 0) := Blk.cell hlogr 2
        have hst := settle_any h2 (.cons (ringA_loc _ _ _ _) (.cons (viewA_loc _ _ _) (wtL_locs hl))) (.head _) (by rw [hla.n]; omega) (fun h0 => (hfsp h0).2.1) (by rw [hfn]; omega) hT2 (fun h0 => by rw [hlk h0]; have := hI.top; omega)
        clear h1 h2
        go_upto_region 16 with fail
        go_wp2_with fail
        refine hst.mono ?_
        clear hst hlogr k2
        rintro e w4 (⟨hfe, rfl, lc, h3⟩ | ⟨hf0, rfl, lc, h3, hlc⟩)
        · obtain ⟨h50, hfS⟩ := DS.flushE_ne hfe
          rw [h50]
          go_wp2_with fail
          go_ret2
          refine ⟨0, 50, si.flushS, rfl, Or.inr rfl, fun h => absurd h (by decide), h3.drop.drop.drop.drop.dropA, fun keep tear at_ sD hD => ⟨Or.inr ?_, fun h => absurd h (by decide)⟩⟩
          refine (lost_crash hI hLT hfn ?_ ?_ keep tear at_ hD).mono (by omega)
          · rcases hfS with h | h <;> rw [h]
            · exact hla.sure
            · rw [DS.burnt_sure]; exact hla.sure
          · rcases hfS with h | h <;> rw [h]
            · exact hkL
            · exact hkL.same (DS.burnt_pend _)
        · obtain ⟨f1, f2, f3, f4, f5, f6⟩ := hfsp hf0
          rw [hLX] at f6 h3 hlc
          have hnc := fun keep tear at_ sD hD => noted_crash (gr := grOf ws) (sD := sD) hI hB (by rw [← hLX]; exact hT2) f1 f3 f4 f5 f6 keep tear at_ hD
          rw [hLX]
          obtain ⟨pe, hpe⟩ : ∃ pe, (si.flushS.putR [0, (layAll (bs ++ grOf ws)).length]).1.2 = pe := ⟨_, rfl⟩
          obtain ⟨s3, hs3⟩ : ∃ s3, (si.flushS.putR [0, (layAll (bs ++ grOf ws)).length]).2 = s3 := ⟨_, rfl⟩
          have h50 : pe = 0 ∨ pe = 50 := by
            rw [← hpe]
            exact (put_crash f1 f3 f4 (T := B) (by rw [hlk hf0]; exact hI.top) hB [0, (layAll (bs ++ grOf ws)).length] (by
              intro x hx
              rw [hLX] at hT2
              simp at hx
              rcases hx with rfl | rfl <;> omega) [] 0 0 _ rfl).2.2.2.2.2.2.2.2
          rw [hpe] at hnc hlc ⊢
          rw [hs3] at hnc h3
          have HNC := Lib.hid hnc
          clear hnc hpe hs3
          rcases h50 with rfl | rfl
          · have hlc2 := hlc rfl
            subst hlc2
            have HN0 : Hid (∀ keep tear at_ sD, (s3.crashS keep tear at_).upS = sD → LInv sD (bs ++ grOf ws) (B + 2)) := Lib.hid fun keep tear at_ sD hD => (HNC.out keep tear at_ sD hD).2 rfl
            have hN0 := HN0.out
            obtain ⟨s0, hs0, sz0, sz1, sz2⟩ := info_parts secInfo
            have hrow := h3.rest.drop.drop.drop.row0
            obtain ⟨gw, hwp, hcap⟩ : ∃ gw, wp = some ⟨gw, 0, none⟩ ∧ ws.length ≤ wcap := by
              rcases hrow.2 with ⟨hv, hv0⟩ | ⟨g1, cap, cur, hv, _, _, hn1, _⟩
              · exact absurd hv0 hw0
              · injection hv with e1 e2 e3
                exact ⟨g1, e1, by omega⟩
            subst hwp
            have hlog4 : Lg w4 lg d rg 0 (layAll (bs ++ grOf ws)).length (.slice (some ⟨gw, 0, none⟩) ws.length wcap) false := h3.rest.blk0
            obtain ⟨a', hsl⟩ := slice_rest (w4.alloc (.cells #[] 36)) ⟨gw, 0, none⟩ ws.length wcap hcap
            have L3 : ∀ {z1 : Nat} {z2 : Value} {z3 : List UInt8}, Locs (ringA rg d z1 z2 :: viewA pr rc z3 :: wtL (some ⟨gw, 0, none⟩) wcap ws ps) := .cons (ringA_loc _ _ _ _) (.cons (viewA_loc _ _ _) (wtL_locs hl))
            have k4 : World.cell? (w4.alloc (.cells #[] 36)) ⟨lg, 4, none⟩ = some (.slice (some ⟨gw, 0, none⟩) ws.length wcap) := ((ext_alloc w4 (.cells #[] 36)).cell lg 4 hlog4.lt).trans (Blk.cell hlog4 4)
            have hlit := World.ownsRow_made (base := 0) (e := 36) (size := 1) w4 #[] 0 (Nat.zero_le _) (by simp) rfl
            clear hrow
            go_upto_region 19 with fail
            go_wp2_with (at_builtin; go_loud (refine wpList_append_new rfl _ _ 53 rfl 36 s0 (.slice none 0 0) 1 24 Try.underlying53 hs0 sz0 sz1 sz2 rfl (by decide) _ 0 [] rfl hlit (some a') 0 (wcap - ws.length) [] rfl rfl (fun h => nomatch h) (fun _ _ j u hj => by simp at hj) (fun u hu => by simp at hu) (by unfold maxLen; omega) (by omega) ?_))
            intro v' w5 hown5 hg5 hf5
            obtain ⟨p5, c5, rfl⟩ := ownsRow_slice hown5
            obtain ⟨hE5, hown6⟩ := fresh_grown hown5 hg5 hf5
            have h4 := h3.ext (.cons (blkA_loc _ _ _) L3) hE5
            have hlog5 : Lg w5 lg d rg 0 (layAll (bs ++ grOf ws)).length (.slice (some ⟨gw, 0, none⟩) ws.length wcap) false := h4.rest.blk0
            have f4 := Blk.frozen hlog5 4
            have c4 := Blk.cell hlog5 4
            have h5 := h4.turn (fun hl h => h.set hl 4 (.slice p5 0 c5)) L3
            clear hown5 hg5 hf5 hlit k4 hlog4 hlog5 hown6 hE5 h3 h4 hsl
            go_wp2_with fail
            go_ret2
            exact ⟨ws.length, 0, s3, rfl, Or.inl rfl, fun _ => rfl, h5.drop.drop.drop.drop.dropA, fun keep tear at_ sD hD => ⟨(HNC.out keep tear at_ sD hD).1, fun _ => (hN0 keep tear at_ sD hD)⟩⟩
          · clear hlc
            go_wp2_with fail
            go_ret2
            exact ⟨0, 50, s3, rfl, Or.inr rfl, fun h => absurd h (by decide), h3.drop.drop.drop.drop.dropA, fun keep tear at_ sD hD => ⟨(HNC.out keep tear at_ sD hD).1, fun h => absurd h (by decide)⟩⟩
end Go.Proofs.Ythghflfgldcmbaa
