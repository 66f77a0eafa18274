/- A disk's Pending: the sectors that were written and aren't sure, rising. -/
import Derived.Test.YthghflfgldcmbaaDFlush
import Derived.Test.YthghflfgldcmbaaShelfS
namespace Go.Proofs.Ythghflfgldcmbaa
set_option maxRecDepth 4000
set_option linter.unusedVariables false
set_option linter.unusedSimpArgs false
open Go Go.RowKit Go.MapKept Go.ChangeMaps Go.Sort
def ints (zs : List Int) : List Value := zs.map (Value.int .i64)
theorem ints_length (zs : List Int) : (ints zs).length = zs.length := by simp [ints]
theorem intInfo : (Try.prog.info? 3).map (fun i => (i.zero, i.size, i.bytes)) = some (some (.int .i64 0), 1, 8) := by kernel_rfl
def srt (zs : List Int) : List Int := zs.mergeSort fun x y => decide (x ≤ y)
def Sorted (W : World) (v : Value) (n : Nat) (zs : List Int) (e : Ending) (W' : World) : Prop := e = .returned (.tuple #[]) ∧ W'.ownsRow 0 3 1 v n (ints (srt zs)) ∧ W.grownBy W' v.ownBlock
theorem sort_row {W : World} {v : Value} {zs : List Int} (h : W.ownsRow 0 3 1 v zs.length (ints zs)) (hz : zs.length < 4611686018427387904) :
    Calls Try.prog 22 #[v] W fun e W' => Sorted W v zs.length zs e W' := by
  rcases h.2 with ⟨rfl, hn⟩ | ⟨g, cap, cur, rfl, h0, hg, hnc, hcm, hcz, htk⟩
  · have : zs = [] := List.eq_nil_of_length_eq_zero hn
    subst this
    refine (Try.slices_Sort_int_none none 0 W).mono ?_
    rintro e W' ⟨rfl, rfl⟩
    exact ⟨rfl, (by rw [show srt [] = [] by simp [srt]]; exact World.ownsRow_nil _ _ _ _), ⟨rfl, rfl, rfl, Nat.le_refl _, fun _ _ _ => rfl⟩⟩
  · have hgl : g < W.heap.size := (Array.getElem?_eq_some_iff.1 hg).1
    have hH : Holds (Value.int .i64) W g 0 zs.toArray := by
      intro j hj
      have hj' : j < zs.length := by simpa using hj
      refine ⟨?_, ?_⟩
      · rw [Nat.zero_add, h.cellAt j (by omega)]
        simp [ints, List.getElem?_map, hj']
      · rw [Nat.zero_add]; exact h.frozenAt j
    refine (Try.slices_Sort_int g 0 cap zs W hH hgl hz).mono ?_
    rintro e W' ⟨rfl, q, os, rfl⟩
    have hlen : (srt zs).length = zs.length := List.length_mergeSort _
    have hb : (grow (putRow (Value.int .i64) (Sort.ahead W q) g 0 (srt zs).toArray) os).heap[g]? = some (.cells (putCells (Value.int .i64) 0 (srt zs).toArray cur) 3 (0, 0)) := by
      have hs : g < (W.heap.modify g (onCells (putCells (Value.int .i64) 0 (srt zs).toArray))).size := by simpa using hgl
      show ((W.heap.modify g (onCells (putCells (Value.int .i64) 0 (srt zs).toArray))) ++ os)[g]? = _
      rw [Array.getElem?_append_left hs, Array.getElem?_modify, if_pos rfl, hg]
      rfl
    refine ⟨rfl, ⟨by rw [ints_length, hlen, Nat.mul_one], .inr ⟨g, cap, _, rfl, h0, hb, hnc, hcm, ?_, ?_⟩⟩, ?_⟩
    · simp [putCells, hcz]
    · apply List.ext_getElem?
      intro k
      rw [Nat.mul_one, List.getElem?_take]
      by_cases hk : k < zs.length
      · rw [if_pos hk]
        have hkc : k < cur.size := by omega
        simp only [putCells, Array.getElem?_toList, Array.getElem?_mapIdx, Array.getElem?_eq_getElem hkc, Option.map_some, Nat.zero_le, true_and, Nat.zero_add, List.size_toArray, hlen, hk, if_true, Nat.sub_zero]
        rw [ints, List.getElem?_map, List.getElem?_eq_getElem (by omega)]
        simp [hlen, hk]
      · rw [if_neg hk, List.getElem?_eq_none (by rw [ints_length]; omega)]
    · refine ⟨rfl, rfl, rfl, ?_, fun k hk hne => ?_⟩
      · show W.heap.size ≤ ((W.heap.modify g _) ++ os).size
        simp
      · show ((W.heap.modify g (onCells (putCells (Value.int .i64) 0 (srt zs).toArray))) ++ os)[k]? = _
        rw [Array.getElem?_append_left (by simpa using hk), Array.getElem?_modify, if_neg (fun e => hne (by rw [← e]; rfl))]
theorem sorted_ext : ∀ {l m : List Int}, l.Pairwise (· < ·) → m.Pairwise (· < ·) → (∀ x, x ∈ l ↔ x ∈ m) → l = m
  | [], [], _, _, _ => rfl
  | [], y :: m, _, _, h => by have := (h y).2 (by simp); cases this
  | x :: l, [], _, _, h => by have := (h x).1 (by simp); cases this
  | x :: l, y :: m, hl, hm, h => by
    rw [List.pairwise_cons] at hl hm
    have hxy : x = y := by
      have h1 := (h x).1 (by simp)
      have h2 := (h y).2 (by simp)
      rcases List.mem_cons.1 h1 with h1 | h1
      · exact h1
      · rcases List.mem_cons.1 h2 with h2 | h2
        · exact h2.symm
        · have := hm.1 x h1
          have := hl.1 y h2
          omega
    subst hxy
    congr 1
    refine sorted_ext hl.2 hm.2 fun z => ⟨fun hz => ?_, fun hz => ?_⟩
    · rcases List.mem_cons.1 ((h z).1 (by simp [hz])) with e | e
      · have := hl.1 z hz; omega
      · exact e
    · rcases List.mem_cons.1 ((h z).2 (by simp [hz])) with e | e
      · have := hm.1 z hz; omega
      · exact e
theorem nodup_range : ∀ (n : Nat) {l : List Int}, l.Nodup → (∀ x ∈ l, 0 ≤ x ∧ x < n) → l.length ≤ n
  | 0, l, _, h => by
    cases l with
    | nil => simp
    | cons x l => have := h x (by simp); omega
  | n + 1, l, hn, h => by
    have h1 : (l.erase (n : Int)).length ≤ n := nodup_range n (hn.erase _) fun x hx => by
      have hm := List.mem_of_mem_erase hx
      have := h x hm
      have hne : x ≠ (n : Int) := fun e => by
        rw [e] at hx
        exact (List.Nodup.not_mem_erase hn) hx
      omega
    have := List.length_erase (a := (n : Int)) (l := l)
    split at this <;> omega
/-- the sectors that are pending, rising -/
def DS.pendL (s : DS) : List Int := ((List.range s.n).filter fun i => (s.pend i).isSome).map fun i : Nat => (i : Int)
theorem DR.Fits.pendL {r : DR} {s : DS} (h : r.Fits s) {zs : List Int} (hz : zs.Perm (r.P.map (·.k))) : srt zs = s.pendL := by
  refine sorted_ext ?_ ?_ fun x => ?_
  · have h1 : (srt zs).Pairwise (fun a b => decide (a ≤ b) = true) := List.pairwise_mergeSort (fun a b c h1 h2 => by simp at *; omega) (fun a b => by simp; omega) zs
    have h2 : (srt zs).Nodup := (List.mergeSort_perm zs _).nodup_iff.2 (hz.nodup_iff.2 h.ok.keys)
    refine (List.pairwise_and_iff.2 ⟨h1, h2⟩).imp fun {a b} hab => ?_
    have := hab.1
    have h3 := hab.2
    simp at this
    omega
  · unfold DS.pendL
    rw [List.pairwise_map]
    refine (List.pairwise_lt_range.filter _).imp fun {a b} hab => ?_
    omega
  · have e1 : x ∈ srt zs ↔ x ∈ r.P.map (·.k) := ((List.mergeSort_perm zs _).mem_iff).trans hz.mem_iff
    rw [e1]
    unfold DS.pendL
    simp only [List.mem_map, List.mem_filter, List.mem_range]
    constructor
    · rintro ⟨p, hp, rfl⟩
      obtain ⟨h1, h2⟩ := h.key p hp
      refine ⟨p.k.toNat, ⟨by omega, ?_⟩, by omega⟩
      rw [h.pend, show ((p.k.toNat : Nat) : Int) = p.k by omega, lookP_mem h.ok.keys hp]; rfl
    · rintro ⟨i, ⟨hi, hs⟩, rfl⟩
      rw [h.pend] at hs
      cases hl : lookP r.P (i : Int) with
      | none => rw [hl] at hs; cases hs
      | some p =>
        obtain ⟨hm, hk⟩ := lookP_some hl
        exact ⟨p, hm, hk⟩
def PdRel (w : World) (d : Nat) (s : DS) (r : DR) (it : Nat) (ps : List Asr) (v : Value) (wr : World) : Prop :=
  ∃ seen zs, (zs ++ (leftP r.P seen).map (·.k)).Perm (r.P.map (·.k)) ∧ TM w wr d s.down s.fuse s.n r it seen r.X r.P (rowA 3 1 v zs.length (ints zs) :: ps)
def Pended (w W' : World) (d : Nat) (s : DS) (ps : List Asr) (e : Ending) : Prop := ∃ p c, e = .returned (.slice p s.pendL.length c) ∧ dkH w W' d s (rowA 3 1 (.slice p s.pendL.length c) s.pendL.length (ints s.pendL) :: ps)
theorem TM.dk {w wr : World} {d it : Nat} {s : DS} {r : DR} {seen : Array Nat} {ps : List Asr} (h : TM w wr d s.down s.fuse s.n r it seen r.X r.P ps) (h0 : s.Ok) (h1 : r.Fits s) : dkH w wr d s ps := by
  refine ⟨h0, r, h1, ?_⟩
  rw [things_eq]
  have h2 : Has w wr (objA it (.mapIter (some r.mb) r.clock seen r.clock) :: r.head d s :: r.rowS s.n :: r.mapS :: (r.X.map secA ++ (secsA r.P ++ ps))) :=
    Has.perm ((List.Perm.cons _ ((List.Perm.cons _ (List.Perm.swap _ _ _)).trans (List.Perm.swap _ _ _))).trans (List.Perm.swap _ _ _)) h
  exact h2.drop
theorem TM.lastrow {w wr W' : World} {d it n : Nat} {dn : Bool} {fu : Int} {r : DR} {seen : Array Nat} {X : List (Value × List UInt8)} {L : List Pe} {p q : Asr} {ps : List Asr} (h : TM w wr d dn fu n r it seen X L (p :: ps)) (hf : ∀ {qs : List Asr}, Locs qs → Has w wr (p :: qs) → Has w W' (q :: qs)) (hl : Locs ps) : TM w W' d dn fu n r it seen X L (q :: ps) := by
  have e : ∀ y : Asr, (blkA d 55 (r.cells dn fu) :: rowA 36 1 r.sv n (X.map (·.1)) :: r.mapS :: objA it (.mapIter (some r.mb) r.clock seen r.clock) :: (X.map secA ++ (secsA L ++ y :: ps))) = (blkA d 55 (r.cells dn fu) :: rowA 36 1 r.sv n (X.map (·.1)) :: r.mapS :: objA it (.mapIter (some r.mb) r.clock seen r.clock) :: (X.map secA ++ secsA L)) ++ y :: ps := by intro y; simp
  unfold TM at h ⊢
  rw [e] at h ⊢
  refine Has.back (hf ?_ h.front)
  have := Locs.cons (blkA_loc d 55 (r.cells dn fu)) (.cons (rowA_loc 36 1 r.sv n (X.map (·.1))) (.cons (objA_loc r.mb (.map (ents r.P) r.clock)) (.cons (objA_loc it (.mapIter (some r.mb) r.clock seen r.clock)) (secs2_locs X L hl))))
  simpa [DR.mapS] using this
set_option maxHeartbeats 1000000 in
theorem pending_any {w W : World} {d : Nat} {s : DS} {ps : List Asr} (h : dkH w W d s ps) (hl : Locs ps) :
    Calls Try.prog 10 #[.pointer (some ⟨d, 0, none⟩)] W fun e W' => Pended w W' d s ps e := by
  obtain ⟨k0, r, k1, k2⟩ := h
  obtain ⟨i0, hi0, hz0, hz1, hz2⟩ := info_parts intInfo
  have c3 := k2.blk0.cell 3
  simp only [DR.cells, List.getElem?_toArray, List.getElem?_cons_zero, List.getElem?_cons_succ] at c3
  have hmap : W.heap[r.mb]? = some (.map (ents r.P) r.clock) := Has.obj k2 (by simp [DR.things, DR.rest, DR.mapS])
  have hrg := run_range_map (P := Try.prog) W 45 3 36 r.mb (ents r.P) r.clock Try.underlying45 hmap
  have k3 : Has w W (r.things d s ++ (rowA 3 1 (.slice none 0 0) 0 (ints []) :: ps)) := (k2.rowNil ((r.things_locs d s).append hl) 3 1).back
  have hT := TM.start k3 (.cons (rowA_loc _ _ _ _ _) hl)
  have hPl : r.P.length ≤ 4096 := by
    have := nodup_range s.n k1.ok.keys (fun x hx => by obtain ⟨p, hp, rfl⟩ := List.mem_map.1 hx; exact k1.key p hp)
    rw [List.length_map] at this
    have := k0.n
    omega
  have HPL := Lib.hid hPl
  clear hmap k2 k3 hPl
  go_enter Try.func10, Try.ntmps10
  go_upto_block 0 with fail
  clear hrg c3
  generalize World.alloc W _ = w3 at *
  generalize W.heap.size = it at *
  go_wp2_with fail
  go_loopw [3] (fun v wr => PdRel w d s r it ps v wr) (fun _ wr => wr.rangeLeft r.mb it)
  case atStart => exact ⟨#[], [], by rw [leftP_nil]; exact List.Perm.refl _, hT⟩
  case round =>
    clear hT
    obtain ⟨seen, zs, hzs, hT⟩ := hrel
    rcases run_nextP (P := Try.prog) it seen hT.iter hT.map k1.ok 0 with ⟨hL, hrun⟩ | ⟨q, hp, w4, hw4, hrun⟩
    · rw [hL] at hzs
      have hzs' : zs.Perm (r.P.map (·.k)) := by simpa using hzs
      have HE := Lib.hid (k1.pendL hzs')
      have hzl : zs.length ≤ 4096 := by have := hzs'.length_eq; rw [List.length_map] at this; have := HPL.out; omega
      have hdk := hT.dk k0 k1
      obtain ⟨_, r4, _, h4⟩ := id hdk
      have hrow := (Has.owned h4 (e := 3) (size := 1) (v := u3) (n := zs.length) (xs := ints zs) (by simp)).1
      have hs := sort_row hrow (by omega)
      clear hrow h4 hT hzs hzs' hL
      go_wp2_with fail
      refine hs.mono ?_
      rintro e w6 ⟨rfl, hown, hg⟩
      have hd6 : dkH w w6 d s (rowA 3 1 u3 zs.length (ints (srt zs)) :: ps) := hdk.turn (fun hl h => h.next hl fun F hF => by
        obtain ⟨_, rfl⟩ := hF
        exact Next.mk ⟨hown, rfl⟩ (grownBy.tch hg) (fun k hk => Or.inl hk)) hl
      clear hs hdk
      have hlen : zs.length = s.pendL.length := by rw [← HE.out]; exact (List.length_mergeSort _).symm
      obtain ⟨p, c, hv⟩ := ownsRow_slice hown
      rw [HE.out] at hd6
      rw [hlen] at hd6 hv
      clear hlen hown hg
      subst hv
      go_wp2_with fail
      go_ret
      exact ⟨p, c, rfl, hd6⟩
    · obtain ⟨A, B, hAB⟩ := List.append_of_mem hp
      have hml := Lib.hid hT.left_eq
      have hL' := leftP_push k1.ok.borns hAB
      have hpm : q ∈ r.P := (List.mem_filter.1 hp).1
      have hT2 := hT.next (.cons (rowA_loc _ _ _ _ _) hl) (seen.push q.born) hw4
      have hent := run_entryP (P := Try.prog) it seen hT2.iter hT2.map k1.ok hpm
      have hperm : ((zs ++ [q.k]) ++ (leftP r.P (seen.push q.born)).map (·.k)).Perm (r.P.map (·.k)) := by
        rw [hL']
        refine List.Perm.trans ?_ hzs
        rw [hAB, List.append_assoc, List.map_append, List.map_append, List.map_cons]
        exact List.Perm.append_left zs (show (q.k :: (A.map (·.k) ++ B.map (·.k))).Perm _ from List.perm_middle.symm)
      have hzl : zs.length + 1 ≤ 4096 := by
        have := hperm.length_eq
        simp only [List.length_append, List.length_map, List.length_cons, List.length_nil] at this
        have := HPL.out
        omega
      have hb1 : zs.length + 1 ≤ maxLen := by unfold maxLen; omega
      have hb2 : (zs.length + 1) * 8 ≤ 140737488355328 := by omega
      have HL := Lib.hid hL'
      have HA := Lib.hid hAB
      have HP := Lib.hid hperm
      clear hL' hAB hpm hp hT hperm hzs
      generalize setBlock w4 it _ = w5 at *
      have hown : w5.ownsRow 0 3 1 u3 zs.length (ints zs) := (Has.owned hT2 (e := 3) (size := 1) (v := u3) (n := zs.length) (xs := ints zs) (by simp)).1
      generalize q.k = qk at *
      go_wp2_with (at_builtin; refine wpList_append_new rfl _ _ 40 rfl 3 i0 (.int .i64 0) 1 8 Try.underlying40 hi0 hz0 hz1 hz2 rfl (by decide) _ zs.length (ints zs) rfl (hown.alloc _) (some ⟨w5.heap.size, 0, none⟩) 1 1 [.int .i64 qk] rfl rfl (fun h => nomatch h) (news_new _ _ _) (oneC1 _ _) hb1 hb2 ?_)
      intro v' w6 hown6 hg6 hf6
      have hT3 := (hT2.ext (.cons (rowA_loc _ _ _ _ _) hl) (ext_alloc w5 (.cells [Value.int .i64 qk].toArray 3))).lastrow (W' := w6) (q := rowA 3 1 v' (zs.length + 1) (ints zs ++ [.int .i64 qk])) (fun hl h => h.grow hl hown6 hg6 hf6) hl
      clear hT2 hown hown6 hg6 hf6 hrun hent
      go_wp2_with fail
      refine ⟨⟨seen.push q.born, zs ++ [qk], HP.out, ?_⟩, ?_⟩
      · have e : ints (zs ++ [qk]) = ints zs ++ [.int .i64 qk] := by simp [ints]
        have e2 : (zs ++ [qk]).length = zs.length + 1 := by simp
        rw [e, e2]
        exact hT3
      · rw [hT3.left_eq, HL.out, hml.out, HA.out]
        simp
end Go.Proofs.Ythghflfgldcmbaa
