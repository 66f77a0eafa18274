/- A disk's Write, Read, Up. -/
import Derived.Test.YthghflfgldcmbaaDCall
import Derived.Test.YthghflfgldcmbaaSteps
import Derived.Deep.DeepCutAuto
import Derived.Laws.Unary
import Derived.Deep.CutBlock
namespace Go.Proofs.Ythghflfgldcmbaa
set_option maxRecDepth 4000
set_option linter.unusedVariables false
set_option linter.unusedSimpArgs false
open Go Go.RowKit Go.MapKept Go.ChangeMaps
section
variable {w W W' : World} {d : Nat} {s : DS} {r : DR} {ps : List Asr}
theorem putP_split {P : List Pe} {n : Int} {v : Value} {b : List UInt8} {c : Nat} {p : Pe} (hn : (P.map (·.k)).Nodup) (h : lookP P n = some p) : ∃ A B, P = A ++ p :: B ∧ putP P n v b c = A ++ { p with v := v, l := b } :: B := by
  obtain ⟨hm, hk⟩ := lookP_some h
  obtain ⟨A, B, rfl⟩ := List.append_of_mem hm
  refine ⟨A, B, rfl, ?_⟩
  rw [List.map_append, List.map_cons, List.nodup_append, List.nodup_cons] at hn
  obtain ⟨_, ⟨h3, _⟩, h4⟩ := hn
  unfold putP
  rw [h]
  simp only [Option.isSome_some, if_true, List.map_append, List.map_cons, hk]
  congr 1
  · conv => rhs; rw [← List.map_id A]
    refine List.map_congr_left fun q hq => ?_
    rw [if_neg (fun e => h4 _ (List.mem_map.2 ⟨q, hq, rfl⟩) p.k (by simp) (e.trans hk.symm))]; rfl
  · congr 1
    conv => rhs; rw [← List.map_id B]
    refine List.map_congr_left fun q hq => ?_
    rw [if_neg (fun e => h3 (List.mem_map.2 ⟨q, hq, e.trans hk.symm⟩))]; rfl
theorem put_has {P : List Pe} {n : Int} {v : Value} {b : List UInt8} {c : Nat} (hn : (P.map (·.k)).Nodup) {Z : List Asr} (h : Has w W (secA (v, b) :: (Z ++ (secsA P ++ ps)))) : Has w W (Z ++ (secsA (putP P n v b c) ++ ps)) := by
  cases hl : lookP P n with
  | none =>
    have e : putP P n v b c = P ++ [⟨n, v, b, c⟩] := by unfold putP; rw [hl]; rfl
    rw [e]
    have e2 : secsA (P ++ [⟨n, v, b, c⟩]) = secsA P ++ [secA (v, b)] := by simp [secsA]
    rw [e2]
    refine h.perm ?_
    have h1 : (secA (v, b) :: (Z ++ (secsA P ++ ps))).Perm (Z ++ secA (v, b) :: (secsA P ++ ps)) := List.perm_middle.symm
    refine h1.trans (List.Perm.append_left Z ?_)
    rw [List.append_assoc]
    exact List.perm_middle.symm
  | some p =>
    obtain ⟨A, B, rfl, e⟩ := putP_split (v := v) (b := b) (c := c) hn hl
    rw [e]
    have e1 : secsA (A ++ p :: B) = secsA A ++ secA (p.v, p.l) :: secsA B := by simp [secsA]
    have e2 : secsA (A ++ { p with v := v, l := b } :: B) = secsA A ++ secA (v, b) :: secsA B := by simp [secsA]
    rw [e1] at h
    rw [e2]
    have h2 : Has w W (secA (p.v, p.l) :: (secA (v, b) :: (Z ++ (secsA A ++ (secsA B ++ ps))))) := by
      refine h.perm ?_
      have : (secA (v, b) :: (Z ++ ((secsA A ++ secA (p.v, p.l) :: secsA B) ++ ps))) = (secA (v, b) :: (Z ++ secsA A)) ++ secA (p.v, p.l) :: (secsA B ++ ps) := by simp
      rw [this]
      refine List.perm_middle.trans (List.Perm.of_eq (by simp))
    refine h2.drop.perm ?_
    have : (Z ++ ((secsA A ++ secA (v, b) :: secsA B) ++ ps)) = (Z ++ secsA A) ++ secA (v, b) :: (secsA B ++ ps) := by simp
    rw [this]
    exact (List.Perm.of_eq (by simp)).trans List.perm_middle.symm
theorem things_eq (d : Nat) (r : DR) (s : DS) (ps : List Asr) : r.things d s ++ ps = r.head d s :: r.rowS s.n :: r.mapS :: ((r.X.map secA) ++ (secsA r.P ++ ps)) := by simp [DR.things, DR.rest]
/-- the map turns -/
theorem map_turn (h : Has w W (r.things d s ++ ps)) (hl : Locs ps) (o : Obj) : Has w (setBlock W r.mb o) (r.head d s :: r.rowS s.n :: objA r.mb o :: ((r.X.map secA) ++ (secsA r.P ++ ps))) := by
  rw [things_eq] at h
  have hl2 : Locs ((r.X.map secA) ++ (secsA r.P ++ ps)) := (Locs.map _ secA_loc _).append ((Locs.map (fun p : Pe => secA (p.v, p.l)) (fun p => secA_loc (p.v, p.l)) r.P).append hl)
  have h2 := h.third.setObj (.cons (blkA_loc _ _ _) (.cons (rowA_loc _ _ _ _ _) hl2)) o (Or.inl rfl)
  have h3 := h2.perm (List.Perm.swap _ _ _)
  exact h3.perm (List.Perm.cons _ (List.Perm.swap _ _ _))
theorem lookP_put (P : List Pe) (n : Int) (v : Value) (b : List UInt8) (c : Nat) (i : Int) : (lookP (putP P n v b c) i).map (·.l) = if i = n then some b else (lookP P i).map (·.l) := by
  unfold putP
  split
  · rename_i hs
    by_cases hi : i = n
    · subst hi
      rw [if_pos rfl]
      obtain ⟨p, hp⟩ := Option.isSome_iff_exists.1 hs
      unfold lookP at hp ⊢
      rw [List.find?_map]
      have : ((fun x : Pe => x.k == i) ∘ fun p : Pe => if p.k = i then { p with v := v, l := b } else p) = fun x => x.k == i := by funext x; simp only [Function.comp]; split <;> rfl
      rw [this, hp]
      have hk := List.find?_some hp
      have hk2 : p.k = i := by simpa using hk
      simp [hk2]
    · rw [if_neg hi]
      unfold lookP
      rw [List.find?_map]
      have : ((fun x : Pe => x.k == i) ∘ fun p : Pe => if p.k = n then { p with v := v, l := b } else p) = fun x => x.k == i := by funext x; simp only [Function.comp]; split <;> rfl
      rw [this, Option.map_map]
      cases hf : P.find? (fun x => x.k == i) with
      | none => rfl
      | some p =>
        have hk := List.find?_some hf
        have hk2 : p.k = i := by simpa using hk
        simp only [Option.map_some, Function.comp]
        rw [if_neg (by rw [hk2]; exact hi)]
  · rename_i hs
    have hnone : lookP P n = none := by simpa using hs
    unfold lookP
    rw [List.find?_append]
    by_cases hi : i = n
    · subst hi
      have : P.find? (fun x => x.k == i) = none := hnone
      rw [this]; simp
    · rw [if_neg hi]
      have hne : (n == i) = false := by simpa using fun h => hi h.symm
      simp [hne]
theorem putP_key {P : List Pe} {n : Int} {v : Value} {b : List UInt8} {c : Nat} {p : Pe} (h : p ∈ putP P n v b c) : p.k = n ∨ ∃ q ∈ P, q.k = p.k := by
  unfold putP at h
  split at h
  · obtain ⟨q, hq, rfl⟩ := List.mem_map.1 h
    right
    exact ⟨q, hq, by split <;> rfl⟩
  · rcases List.mem_append.1 h with h | h
    · exact Or.inr ⟨p, h, rfl⟩
    · left
      have : p = ⟨n, v, b, c⟩ := by simpa using h
      rw [this]
end
def DS.put (s : DS) (n : Nat) (b : List UInt8) : DS := { s with pend := fun i => if i = n then some b else s.pend i }
def DS.writeE (s : DS) : Int := if s.down = true then 50 else if s.burns = true then 0 else 50
def DS.writeS (s : DS) (n : Nat) (b : List UInt8) : DS := if s.down = true then s else if s.burns = true then s.burnt.put n b else s.burnt
/-- the map of a disk, and a new entry put into it -/
theorem put_dk {w W : World} {v : Value} {b : List UInt8} {d : Nat} {s : DS} {r : DR} {ps : List Asr} (h0 : s.Ok) (h1 : r.Fits s) (h2 : Has w W (r.things d s ++ (secA (v, b) :: ps))) (hl : Locs ps) (n : Nat) (hn : n < s.n) {c' : Nat}
    (ho : PeOk r.P r.clock → PeOk (putP r.P n v b r.clock) c') : dkH w (setBlock W r.mb (.map (ents (putP r.P n v b r.clock)) c')) d (s.put n b) ps := by
  have h3 := map_turn h2 (.cons (secA_loc _) hl) (.map (ents (putP r.P n v b r.clock)) c')
  refine ⟨⟨h0.n, h0.f1, h0.f2⟩, { r with P := putP r.P n v b r.clock, clock := c' }, ⟨h1.n, h1.sure, ho h1.ok, fun p hp => ?_, fun i => ?_⟩, ?_⟩
  · rcases putP_key hp with hk | ⟨q, hq, hk⟩
    · show 0 ≤ p.k ∧ p.k < s.n
      rw [hk]; omega
    · rw [← hk]; exact h1.key q hq
  · show (if i = n then some b else s.pend i) = _
    rw [lookP_put, h1.pend i]
    by_cases hi : i = n
    · subst hi; simp
    · rw [if_neg hi, if_neg (by omega)]
  · rw [things_eq]
    have h4 : Has w (setBlock W r.mb (.map (ents (putP r.P n v b r.clock)) c')) (secA (v, b) :: ((r.head d s :: r.rowS s.n :: objA r.mb (.map (ents (putP r.P n v b r.clock)) c') :: (r.X.map secA)) ++ (secsA r.P ++ ps))) := by
      refine h3.perm ?_
      have e : (r.head d s :: r.rowS s.n :: objA r.mb (.map (ents (putP r.P n v b r.clock)) c') :: ((r.X.map secA) ++ (secsA r.P ++ (secA (v, b) :: ps)))) = (r.head d s :: r.rowS s.n :: objA r.mb (.map (ents (putP r.P n v b r.clock)) c') :: ((r.X.map secA) ++ secsA r.P)) ++ secA (v, b) :: ps := by simp
      rw [e]
      exact List.perm_middle.trans (List.Perm.of_eq (by simp))
    exact put_has h1.ok.keys h4
theorem DS.burnt_n (s : DS) : s.burnt.n = s.n := by unfold DS.burnt; split; rfl; split <;> rfl
def DCell (d : Nat) (mb : Nat) : World → Prop := fun X => X.cell? ⟨d, 3, none⟩ = some (.map (some mb))
def SomeI (w W' : World) (d : Nat) (s : DS) (ps : List Asr) (e : Ending) : Prop := ∃ z, e = .returned (.int .i64 z) ∧ dkH w W' d s ps
theorem count0_dk {w W : World} {d : Nat} {s : DS} {ps : List Asr} (h : dkH w W d s ps) (hl : Locs ps) :
    Calls Try.prog 48 #[.pointer (some ⟨d, 0, none⟩), .int .i64 1] W fun e W' => SomeI w W' d s ps e := by
  obtain ⟨h0, r, h1, h2⟩ := h
  have hb := h2.blk0
  have c0 := hb.cell 0
  have f0 := hb.frozen 0
  simp only [DR.cells, List.getElem?_toArray, List.getElem?_cons_zero] at c0
  refine (count_any c0 f0).mono ?_
  rintro e W' ⟨rfl, rfl⟩
  exact ⟨_, rfl, dkH.head_ (wrap64 (r.wr + 1)) r.fl s.down s.fuse h0 h1 (h2.set ((r.rest_locs _).append hl) 0 _)⟩
theorem count1_dk {w W : World} {d : Nat} {s : DS} {ps : List Asr} (h : dkH w W d s ps) (hl : Locs ps) :
    Calls Try.prog 48 #[.pointer (some ⟨d, 1, none⟩), .int .i64 1] W fun e W' => SomeI w W' d s ps e := by
  obtain ⟨h0, r, h1, h2⟩ := h
  have hb := h2.blk0
  have c0 := hb.cell 1
  have f0 := hb.frozen 1
  simp only [DR.cells, List.getElem?_toArray, List.getElem?_cons_zero, List.getElem?_cons_succ] at c0
  refine (count_any c0 f0).mono ?_
  rintro e W' ⟨rfl, rfl⟩
  exact ⟨_, rfl, dkH.head_ r.wr (wrap64 (r.fl + 1)) s.down s.fuse h0 h1 (h2.set ((r.rest_locs _).append hl) 1 _)⟩
/-- a row of bytes of one's own: its cells -/
theorem own_read {W : World} {a : Addr} {n c : Nat} {xs : List Value} (h : W.ownsRow 0 5 1 (.slice (some a) n c) n xs) : (∀ j u, xs[j]? = some u → W.cell? (a.add j) = some u) ∧ a.block < W.heap.size := by
  refine ⟨row_news h a rfl, ?_⟩
  rcases h.2 with ⟨hv, _⟩ | ⟨g, cap, cur, hv, _, hg, _⟩
  · cases hv
  · injection hv with hv _ _
    injection hv with hv
    rw [hv]; exact (Array.getElem?_eq_some_iff.1 hg).1
theorem write_any {w W : World} {d : Nat} {s : DS} {ps : List Asr} (h : dkH w W d s ps) (hl : Locs ps) (n : Nat) (hn : n < s.n) {a : Addr} {c : Nat} {b : List UInt8} (hb : b.length = 128) (hin : rowA 5 1 (.slice (some a) 128 c) 128 (u8s b) ∈ ps) :
    Calls Try.prog 46 #[.pointer (some ⟨d, 0, none⟩), .int .i64 n, .slice (some a) 128 c] W fun e W' => e = .returned (.int .i64 s.writeE) ∧ dkH w W' d (s.writeS n b) ps := by
  have hh := h
  obtain ⟨h0, r, h1, h2⟩ := h
  have hb0 := h2.blk0
  have c0 := Blk.cell hb0 0
  have c1 := Blk.cell hb0 1
  have c2 := Blk.cell hb0 2
  have c3 := Blk.cell hb0 3
  have c4 := Blk.cell hb0 4
  have c5 := Blk.cell hb0 5
  have f0 := Blk.frozen hb0 0
  have f1 := Blk.frozen hb0 1
  have f4 := Blk.frozen hb0 4
  have f5 := Blk.frozen hb0 5
  have hdl := Blk.lt hb0
  simp only [DR.cells, List.getElem?_toArray, List.getElem?_cons_zero, List.getElem?_cons_succ] at c0 c1 c2 c3 c4 c5
  have hr := (h2.owned (e := 36) (size := 1) (v := r.sv) (n := s.n) (xs := r.X.map (·.1)) (by simp [DR.things, DR.rest, DR.rowS])).1
  obtain ⟨p, c1, hsv⟩ := ownsRow_slice hr
  rw [hsv] at c2
  unfold DS.writeE DS.writeS
  have hn0 : (n : Int) < s.n := by omega
  have hdd : decide (s.n ≤ n) = false := decide_eq_false (by omega)
  have hnn : decide ((n : Int) < 0) = false := decide_eq_false (by omega)
  cases hdn : s.down with
  | true =>
    rw [hdn] at c4
    simp only [if_true]
    go_enter Try.func46, Try.ntmps46
    go_wp2_with fail
    go_ret
    exact ⟨rfl, hh⟩
  | false =>
    rw [hdn] at c4
    simp only [Bool.false_eq_true, if_false]
    clear hr h2 hb0
    have H := Lib.hid hh
    clear hh hdn
    have hh := H
    go_enter Try.func46, Try.ntmps46
    go_upto_region 9 with fail
    go_wp2_with fail
    have hh := H.out
    refine (burn_any hh hl).mono ?_
    rintro e w1 ⟨rfl, hD⟩
    clear H hh
    cases hbs : s.burns with
    | false =>
      simp only [Bool.false_eq_true, if_false]
      go_wp2_with fail
      all_goals
        go_ret
        exact ⟨rfl, hD⟩
    | true =>
      simp only [if_true]
      clear c0 c2 c3 c4 c5 f0 f1 f4 f5
      have hbn := s.burnt_n
      obtain ⟨s1, hs1⟩ : ∃ s1, s.burnt = s1 := ⟨_, rfl⟩
      rw [hs1] at hD hbn
      have HS := Lib.hid hs1
      clear hs1
      go_wp2_with fail
      refine (count0_dk hD hl).mono ?_
      rintro e w2 ⟨z, rfl, hD3⟩
      clear hD
      obtain ⟨k0, r3, k1, k2⟩ := hD3
      have hb2 := k2.blk0
      have c3 : w2.cell? ⟨d, 3, none⟩ = some (.map (some r3.mb)) := hb2.cell 3
      obtain ⟨hown, hbl⟩ := Has.owned k2 (e := 5) (size := 1) (v := .slice (some a) 128 c) (n := 128) (xs := u8s b) (by simp [hin])
      go_upto_region 12 with fail
      have d0 : ∀ x : Of (DCell d r3.mb), x.val.cell? ⟨d, 3, none⟩ = some (.map (some r3.mb)) := fun x => x.property
      have hFd := (show World.cell? w2.drew ⟨d, 3, none⟩ = _ from c3)
      have hne_ : Nonempty (Of ((DCell d r3.mb))) := ⟨⟨_, hFd⟩⟩
      refine region_steps [0,1,2,3,4,5,6,7] [true,true,true,true,true,true,false,false] ((DCell d r3.mb)) (by kernel_rfl) (by kernel_rfl) hFd ?_
      simp only [List.filterMap_cons, List.filterMap_nil, List.getElem?_cons_zero, List.getElem?_cons_succ]
      refine steps_quiet 6 (by kernel_rfl) ?_
      simp only [List.take_succ_cons, List.take_zero, List.drop_succ_cons, List.drop_zero]
      repeat (go_big_quiet_step (fail))
      refine wpQuiet_nil ?_
      have k4 := k2.ext ((r3.things_locs d _).append hl) (Ext.refl w2).drew
      have hown2 := ownsRow_ext hown (Ext.refl w2).drew
      clear c3 d0 hFd k2 hbl hb2 hown
      generalize World.drew w2 = w3 at *
      refine steps_want rfl (fun K hK => ?_)
      go_simp
      obtain ⟨hN2, hab2⟩ := own_read hown2
      have hcl := clone_any (W := w3) (a := a) (c := c) (l := b) hN2 hab2 (by omega)
      rw [hb] at hcl
      refine hcl.mono ?_
      clear hcl hN2 hab2 hown2
      rintro e w4 ⟨q, cq, rfl, hown4, hE4, -⟩
      rw [hb] at hown4 ⊢
      have k5 := k4.fresh ((r3.things_locs d _).append hl) hE4 hown4
      clear k4 hown4 hE4
      have hmap : w4.heap[r3.mb]? = some (.map (ents r3.P) r3.clock) := Has.obj k5 (by simp [DR.things, DR.rest, DR.mapS])
      obtain ⟨c', -, hrun, hok⟩ := run_putP (P := Try.prog) (w := w4) hmap k1.ok.keys Try.underlying45 Try.underlying3 n (.slice q 128 cq) b
      have k6 := put_dk k0 k1 k5.back hl n (by omega) hok
      have hb4 : w4.cell? ⟨d, 3, none⟩ = some (.map (some r3.mb)) := k5.drop.blk0.cell 3
      have hb5 : (setBlock w4 r3.mb (.map (ents (putP r3.P n (.slice q 128 cq) b r3.clock)) c')).cell? ⟨d, 3, none⟩ = some (.map (some r3.mb)) := (map_turn k5.back (.cons (secA_loc (.slice q 128 cq, b)) hl) _).blk0.cell 3
      clear hok k5 hmap k1 k0
      generalize hW5 : setBlock w4 _ _ = w5 at *
      clear hW5
      have hFn := hb4
      have hnx_ : Nonempty (Of ((DCell d r3.mb))) := ⟨⟨_, hFn⟩⟩
      refine hK _ _ ((DCell d r3.mb)) hFn (fun _ h => h) ?_
      clear hK K hFn
      try simp only [Act.put, List.setIfInBounds_toArray, List.set_cons_succ, List.set_cons_zero]
      refine steps_want rfl (fun K hK => ?_)
      go_simp
      have hFn := hb5
      have hnx_ : Nonempty (Of ((DCell d r3.mb))) := ⟨⟨_, hFn⟩⟩
      refine hK _ _ ((DCell d r3.mb)) hFn (fun _ h => h) ?_
      clear hK K hFn
      try simp only [Act.put, List.setIfInBounds_toArray, List.set_cons_succ, List.set_cons_zero]
      refine steps_nil ?_
      go_wp2_with fail
      go_ret
      exact ⟨rfl, by rw [HS.out]; exact k6⟩
theorem sec_zero (w : World) : (zeroValue 36).run Try.prog w = .ok (.slice none 0 0) w := by
  obtain ⟨i, h1, h2⟩ : ∃ i, Try.prog.info? 36 = some i ∧ i.zero = some (.slice none 0 0) := by
    have h : (Try.prog.info? 36).bind (·.zero) = some (.slice none 0 0) := by kernel_rfl
    exact Option.bind_eq_some_iff.1 h
  simp [zeroValue, typeInfo, h1, h2]
def DS.readB (s : DS) (n : Nat) : List UInt8 := (s.pend n).getD (s.sure n)
theorem sec_len {W : World} {v : Value} {l : List UInt8} (h : W.ownsRow 0 5 1 v 128 (u8s l)) : l.length = 128 := by
  have := h.1
  rw [u8s_length] at this
  omega
/-- what a read finds -/
theorem dk_find {w W : World} {d : Nat} {s : DS} {r : DR} {ps : List Asr} (h1 : r.Fits s) (h2 : Has w W (r.things d s ++ ps)) (n : Nat) (hn : n < s.n) :
    ∃ p a c, lookP r.P n = some p ∧ p.v = .slice (some a) 128 c ∧ W.ownsRow 0 5 1 p.v 128 (u8s (s.readB n)) ∨
      lookP r.P n = none ∧ r.X[n]?.map (·.1) = some (.slice (some a) 128 c) ∧ W.ownsRow 0 5 1 (.slice (some a) 128 c) 128 (u8s (s.readB n)) := by
  cases hl : lookP r.P n with
  | some p =>
    obtain ⟨hm, hk⟩ := lookP_some hl
    have ho := (h2.owned (e := 5) (size := 1) (v := p.v) (n := 128) (xs := u8s p.l) (List.mem_append_left _ (by
      simp only [DR.things, DR.rest, List.mem_cons, List.mem_append]
      exact Or.inr (Or.inr (Or.inr (Or.inr (List.mem_map.2 ⟨p, hm, rfl⟩))))))).1
    obtain ⟨a, c, hv⟩ := ownsRow_slice ho
    have hr : s.readB n = p.l := by unfold DS.readB; rw [h1.pend n, hl]; rfl
    cases a with
    | none => have := (row_nil (hv ▸ ho) rfl).1; omega
    | some a => exact ⟨p, a, c, Or.inl ⟨rfl, hv, hr ▸ ho⟩⟩
  | none =>
    have hs := h1.sure n hn
    cases hx : r.X[n]? with
    | none => rw [hx] at hs; cases hs
    | some x =>
      rw [hx] at hs
      have ho := (h2.owned (e := 5) (size := 1) (v := x.1) (n := 128) (xs := u8s x.2) (List.mem_append_left _ (by
        simp only [DR.things, DR.rest, List.mem_cons, List.mem_append]
        exact Or.inr (Or.inr (Or.inr (Or.inl (List.mem_map.2 ⟨x, List.mem_of_getElem? hx, rfl⟩))))))).1
      obtain ⟨a, c, hv⟩ := ownsRow_slice ho
      have hr : s.readB n = x.2 := by
        unfold DS.readB
        rw [h1.pend n, hl]
        exact (Option.some.inj hs).symm
      cases a with
      | none => have := (row_nil (hv ▸ ho) rfl).1; omega
      | some a => exact ⟨⟨0, x.1, [], 0⟩, a, c, Or.inr ⟨rfl, by rw [Option.map_some, hv], by rw [hr, ← hv]; exact ho⟩⟩
def ReadOut (w W' : World) (d : Nat) (s : DS) (b : List UInt8) (ps : List Asr) (e : Ending) : Prop :=
  ∃ a c, e = .returned (.tuple #[.slice (some a) 128 c, .int .i64 0]) ∧ dkH w W' d s (rowA 5 1 (.slice (some a) 128 c) 128 (u8s b) :: ps)
theorem read_any {w W : World} {d : Nat} {s : DS} {ps : List Asr} (h : dkH w W d s ps) (hl : Locs ps) (n : Nat) (hn : n < s.n) (hdn : s.down = false) :
    Calls Try.prog 26 #[.pointer (some ⟨d, 0, none⟩), .int .i64 n] W fun e W' => ReadOut w W' d s (s.readB n) ps e := by
  have hh := h
  obtain ⟨h0, r, h1, h2⟩ := h
  have hb0 := h2.blk0
  have c0 := Blk.cell hb0 0
  have c1 := Blk.cell hb0 1
  have c2 := Blk.cell hb0 2
  have c3 := Blk.cell hb0 3
  have c4 := Blk.cell hb0 4
  have c5 := Blk.cell hb0 5
  have f0 := Blk.frozen hb0 0
  have f1 := Blk.frozen hb0 1
  have f4 := Blk.frozen hb0 4
  have f5 := Blk.frozen hb0 5
  have hdl := Blk.lt hb0
  simp only [DR.cells, List.getElem?_toArray, List.getElem?_cons_zero, List.getElem?_cons_succ] at c0 c1 c2 c3 c4 c5
  have hr := (h2.owned (e := 36) (size := 1) (v := r.sv) (n := s.n) (xs := r.X.map (·.1)) (by simp [DR.things, DR.rest, DR.rowS])).1
  obtain ⟨p1, c1, hsv⟩ := ownsRow_slice hr
  have HSV := Lib.hid hsv
  rw [hsv] at c2 hr
  clear hsv
  rw [hdn] at c4
  have hdd : decide (s.n ≤ n) = false := decide_eq_false (by omega)
  have hnn : decide ((n : Int) < 0) = false := decide_eq_false (by omega)
  have hmap : W.heap[r.mb]? = some (.map (ents r.P) r.clock) := Has.obj h2 (by simp [DR.things, DR.rest, DR.mapS])
  have hlk := run_lookP (P := Try.prog) hmap Try.underlying45 Try.underlying3 (sec_zero W) n
  clear hb0 hmap
  obtain ⟨p, a, c, ⟨hlp, hv, ho⟩ | ⟨hlp, hx, ho⟩⟩ := dk_find h1 h2 n hn
  · rw [hlp] at hlk
    simp only [Option.map_some, Option.getD_some, Option.isSome_some, hv] at hlk
    rw [hv] at ho
    have h128 := Lib.hid (sec_len ho)
    obtain ⟨hN, hab⟩ := own_read ho
    have hcl := clone_any (W := W) (a := a) (c := c) (l := s.readB n) hN hab (by rw [h128.out]; omega)
    rw [h128.out] at hcl
    have H := Lib.hid hh
    clear hv hlp hh hN hab ho hdn
    go_enter Try.func26, Try.ntmps26
    go_upto_region 7 with fail
    go_wp2_with fail
    refine hcl.mono ?_
    rintro e w4 ⟨q, cq, rfl, hown4, hE4, hq⟩
    have hlen := h128.out
    rw [hlen] at hown4 ⊢
    clear hlen
    have hh := H.out
    have k5 := (hh.ext hl (Ext.refl _)).fresh hl hE4 hown4
    obtain ⟨q, rfl⟩ : ∃ q', q = some q' := by cases q with | none => exact absurd rfl hq | some q => exact ⟨q, rfl⟩
    clear hh hown4 hE4 hq hcl hlk
    go_wp2_with fail
    go_ret2
    exact ⟨q, cq, rfl, k5⟩
  · rw [hlp] at hlk
    simp only [Option.map_none, Option.getD_none, Option.isSome_none] at hlk
    have h128 := Lib.hid (sec_len ho)
    obtain ⟨hN, hab⟩ := own_read ho
    have hcl := clone_any (W := W) (a := a) (c := c) (l := s.readB n) hN hab (by rw [h128.out]; omega)
    rw [h128.out] at hcl
    have hx2 : (r.X.map (·.1))[n]? = some (.slice (some a) 128 c) := by rw [List.getElem?_map]; exact hx
    obtain ⟨g, rfl, hcell⟩ := row_at hr hx2
    have hnn2 : (n : Int) < s.n := by omega
    have H := Lib.hid hh
    clear hx hx2 hlp hh hN hab ho hdn hr
    go_enter Try.func26, Try.ntmps26
    go_upto_region 8 with fail
    go_wp2_with fail
    refine hcl.mono ?_
    rintro e w4 ⟨q, cq, rfl, hown4, hE4, hq⟩
    have hlen := h128.out
    rw [hlen] at hown4 ⊢
    clear hlen
    have hh := H.out
    have k5 := (hh.ext hl (Ext.refl _)).fresh hl hE4 hown4
    obtain ⟨q, rfl⟩ : ∃ q', q = some q' := by cases q with | none => exact absurd rfl hq | some q => exact ⟨q, rfl⟩
    clear hh hown4 hE4 hq hcl hlk
    go_wp2_with fail
    go_ret2
    exact ⟨q, cq, rfl, k5⟩
end Go.Proofs.Ythghflfgldcmbaa
