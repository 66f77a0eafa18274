/- A range over a disk's pending sectors: what stands behind each round, whatever order they come in. -/
import Derived.Test.YthghflfgldcmbaaDOps
import Derived.Laws.CopyRow
import Derived.Maps.Range
namespace Go.Proofs.Ythghflfgldcmbaa
set_option maxRecDepth 4000
set_option linter.unusedVariables false
set_option linter.unusedSimpArgs false
open Go Go.RowKit Go.MapKept Go.ChangeMaps
/-- in the middle of a range: the entries of L are still to come -/
def TM (w wr : World) (d : Nat) (dn : Bool) (fu : Int) (n : Nat) (r : DR) (it : Nat) (seen : Array Nat) (X : List (Value × List UInt8)) (L : List Pe) (ps : List Asr) : Prop :=
  Has w wr (blkA d 55 (r.cells dn fu) :: rowA 36 1 r.sv n (X.map (·.1)) :: r.mapS :: objA it (.mapIter (some r.mb) r.clock seen r.clock) :: (X.map secA ++ (secsA L ++ ps)))
theorem secs2_locs {ps : List Asr} (X : List (Value × List UInt8)) (L : List Pe) (hl : Locs ps) : Locs (X.map secA ++ (secsA L ++ ps)) := (Locs.map _ secA_loc X).append ((Locs.map (fun p : Pe => secA (p.v, p.l)) (fun p => secA_loc (p.v, p.l)) L).append hl)
section
variable {w wr w1 : World} {d n it : Nat} {dn : Bool} {fu : Int} {r : DR} {seen : Array Nat} {X : List (Value × List UInt8)} {L A B : List Pe} {p : Pe} {ps : List Asr}
theorem TM.start {s : DS} (h : Has w wr (r.things d s ++ ps)) (hl : Locs ps) : TM w (wr.alloc (.mapIter (some r.mb) r.clock #[] r.clock)) d s.down s.fuse s.n r wr.heap.size #[] r.X r.P ps := by
  rw [things_eq] at h
  have h2 := h.newObj (.cons (blkA_loc _ _ _) (.cons (rowA_loc _ _ _ _ _) (.cons (objA_loc _ _) (secs2_locs r.X r.P hl)))) (.mapIter (some r.mb) r.clock #[] r.clock)
  exact h2.perm ((List.Perm.swap _ _ _).trans (List.Perm.cons _ ((List.Perm.swap _ _ _).trans (List.Perm.cons _ (List.Perm.swap _ _ _)))))
theorem TM.next (h : TM w wr d dn fu n r it seen X L ps) (hl : Locs ps) (seen' : Array Nat) (h1 : w1 = wr ∨ w1 = wr.drew) : TM w (setBlock w1 it (.mapIter (some r.mb) r.clock seen' r.clock)) d dn fu n r it seen' X L ps := by
  have h2 : Has w wr (objA it (.mapIter (some r.mb) r.clock seen r.clock) :: blkA d 55 (r.cells dn fu) :: rowA 36 1 r.sv n (X.map (·.1)) :: r.mapS :: (X.map secA ++ (secsA L ++ ps))) :=
    h.perm ((List.Perm.cons _ ((List.Perm.cons _ (List.Perm.swap _ _ _)).trans (List.Perm.swap _ _ _))).trans (List.Perm.swap _ _ _))
  have h3 := h2.setObj (.cons (blkA_loc _ _ _) (.cons (rowA_loc _ _ _ _ _) (.cons (objA_loc _ _) (secs2_locs X L hl)))) (.mapIter (some r.mb) r.clock seen' r.clock) h1
  exact h3.perm ((List.Perm.swap _ _ _).trans (List.Perm.cons _ ((List.Perm.swap _ _ _).trans (List.Perm.cons _ (List.Perm.swap _ _ _)))))
theorem TM.ext (h : TM w wr d dn fu n r it seen X L ps) (hl : Locs ps) (hE : Ext wr w1) : TM w w1 d dn fu n r it seen X L ps :=
  Has.ext h (.cons (blkA_loc _ _ _) (.cons (rowA_loc _ _ _ _ _) (.cons (objA_loc _ _) (.cons (objA_loc _ _) (secs2_locs X L hl))))) hE
theorem TM.blk (h : TM w wr d dn fu n r it seen X L ps) : Blk wr d 55 (r.cells dn fu) := Has.blk0 h
theorem TM.map (h : TM w wr d dn fu n r it seen X L ps) : wr.heap[r.mb]? = some (.map (ents r.P) r.clock) := Has.obj h (by simp [DR.mapS])
theorem TM.iter (h : TM w wr d dn fu n r it seen X L ps) : wr.heap[it]? = some (.mapIter (some r.mb) r.clock seen r.clock) := Has.obj h (by simp)
theorem TM.row (h : TM w wr d dn fu n r it seen X L ps) : wr.ownsRow 0 36 1 r.sv n (X.map (·.1)) := (Has.owned h (by simp)).1
theorem TM.sec (h : TM w wr d dn fu n r it seen X L ps) {x : Value × List UInt8} (hx : x ∈ X) : wr.ownsRow 0 5 1 x.1 128 (u8s x.2) := (Has.owned h (e := 5) (size := 1) (v := x.1) (n := 128) (xs := u8s x.2) (by
  simp only [List.mem_cons, List.mem_append]
  exact Or.inr (Or.inr (Or.inr (Or.inr (Or.inl (List.mem_map.2 ⟨x, hx, rfl⟩))))))).1
theorem TM.left (h : TM w wr d dn fu n r it seen X L ps) (hp : p ∈ L) : wr.ownsRow 0 5 1 p.v 128 (u8s p.l) := (Has.owned h (e := 5) (size := 1) (v := p.v) (n := 128) (xs := u8s p.l) (by
  simp only [List.mem_cons, List.mem_append]
  exact Or.inr (Or.inr (Or.inr (Or.inr (Or.inr (Or.inl (List.mem_map.2 ⟨p, hp, rfl⟩)))))))).1
/-- the entry in the middle comes first -/
theorem TM.pick (h : TM w wr d dn fu n r it seen X (A ++ p :: B) ps) : Has w wr (secA (p.v, p.l) :: blkA d 55 (r.cells dn fu) :: rowA 36 1 r.sv n (X.map (·.1)) :: r.mapS :: objA it (.mapIter (some r.mb) r.clock seen r.clock) :: (X.map secA ++ (secsA (A ++ B) ++ ps))) := by
  refine Has.perm ?_ h
  have e : secsA (A ++ p :: B) = secsA A ++ secA (p.v, p.l) :: secsA B := by simp [secsA]
  have e2 : secsA (A ++ B) = secsA A ++ secsA B := by simp [secsA]
  rw [e, e2]
  have : ∀ (a b c i : Asr), (a :: b :: c :: i :: (X.map secA ++ ((secsA A ++ secA (p.v, p.l) :: secsA B) ++ ps))) = (a :: b :: c :: i :: (X.map secA ++ secsA A)) ++ secA (p.v, p.l) :: (secsA B ++ ps) := by intros; simp
  rw [this]
  exact List.perm_middle.trans (List.Perm.of_eq (by simp))
/-- an entry goes for nothing -/
theorem TM.skip (h : TM w wr d dn fu n r it seen X (A ++ p :: B) ps) : TM w wr d dn fu n r it seen X (A ++ B) ps := h.pick.drop
/-- a sector's row is another -/
theorem TM.put {X1 X2 : List (Value × List UInt8)} {x : Value × List UInt8} {g c : Nat} (h : TM w wr d dn fu n r it seen (X1 ++ x :: X2) (A ++ p :: B) ps) (hl : Locs ps) (hsv : r.sv = .slice (some ⟨g, 0, none⟩) n c) :
    TM w (wr.setCell ⟨g, X1.length, none⟩ p.v) d dn fu n r it seen (X1 ++ (p.v, p.l) :: X2) (A ++ B) ps := by
  have h1 := h.pick
  rw [hsv] at h1
  have h2 : Has w wr (rowA 36 1 (.slice (some ⟨g, 0, none⟩) n c) n ((X1 ++ x :: X2).map (·.1)) :: secA x :: (secA (p.v, p.l) :: blkA d 55 (r.cells dn fu) :: r.mapS :: objA it (.mapIter (some r.mb) r.clock seen r.clock) :: (X1.map secA ++ (X2.map secA ++ (secsA (A ++ B) ++ ps))))) := by
    refine h1.perm ?_
    simp only [List.map_append, List.map_cons]
    have : ∀ (a b c i j : Asr), (a :: b :: c :: i :: j :: ((X1.map secA ++ secA x :: X2.map secA) ++ (secsA (A ++ B) ++ ps))) = (a :: b :: c :: i :: j :: X1.map secA) ++ secA x :: (X2.map secA ++ (secsA (A ++ B) ++ ps)) := by intros; simp
    rw [this]
    refine List.perm_middle.trans ?_
    refine (List.Perm.cons _ ?_).trans (List.Perm.swap _ _ _)
    simp only [List.cons_append]
    exact (List.Perm.cons _ (List.Perm.swap _ _ _)).trans (List.Perm.swap _ _ _)
  have hl2 : Locs (secA (p.v, p.l) :: blkA d 55 (r.cells dn fu) :: r.mapS :: objA it (.mapIter (some r.mb) r.clock seen r.clock) :: (X1.map secA ++ (X2.map secA ++ (secsA (A ++ B) ++ ps)))) :=
    .cons (secA_loc _) (.cons (blkA_loc _ _ _) (.cons (objA_loc _ _) (.cons (objA_loc _ _) ((Locs.map _ secA_loc X1).append (secs2_locs X2 (A ++ B) hl)))))
  have h3 : Has w (wr.setCell ⟨g, X1.length, none⟩ p.v) (rowA 36 1 (.slice (some ⟨g, 0, none⟩) n c) n ((X1 ++ (p.v, p.l) :: X2).map (·.1)) :: secA x :: (secA (p.v, p.l) :: blkA d 55 (r.cells dn fu) :: r.mapS :: objA it (.mapIter (some r.mb) r.clock seen r.clock) :: (X1.map secA ++ (X2.map secA ++ (secsA (A ++ B) ++ ps))))) := by
    refine h2.next (.cons (secA_loc _) hl2) fun F hF => ?_
    obtain ⟨ho, rfl⟩ := hF
    obtain ⟨h4, h5⟩ := ho.stored X1.length p.v
    have e : ((X1 ++ x :: X2).map (·.1)).set X1.length p.v = (X1 ++ (p.v, p.l) :: X2).map (·.1) := by
      rw [List.map_append, List.map_append, List.map_cons, List.map_cons]
      have : X1.length = (X1.map (·.1)).length := by simp
      rw [this, List.set_append_right _ _ (Nat.le_refl _)]
      simp
    rw [e] at h4
    exact Next.mk ⟨h4, rfl⟩ (grownBy.tch (v := .slice (some ⟨g, 0, none⟩) n c) h5) (fun k hk => Or.inl hk)
  unfold TM
  rw [hsv]
  refine (h3.swap.drop).perm ?_
  rw [List.map_append (f := secA), List.map_cons]
  have : ∀ (a b c i : Asr), (a :: b :: c :: i :: ((X1.map secA ++ secA (p.v, p.l) :: X2.map secA) ++ (secsA (A ++ B) ++ ps))) = (a :: b :: c :: i :: X1.map secA) ++ secA (p.v, p.l) :: (X2.map secA ++ (secsA (A ++ B) ++ ps)) := by intros; simp
  rw [this]
  refine List.Perm.trans ?_ List.perm_middle.symm
  refine (List.Perm.swap _ _ _).trans (List.Perm.cons _ ?_)
  simp only [List.cons_append]
  exact List.Perm.swap _ _ _
/-- a sector's first bytes are others -/
theorem TM.tear {X1 X2 : List (Value × List UInt8)} {x : Value × List UInt8} {l' : List UInt8} (h : TM w wr d dn fu n r it seen (X1 ++ x :: X2) (A ++ p :: B) ps) (hl : Locs ps)
    (ho : w1.ownsRow 0 5 1 x.1 128 (u8s l')) (hg : wr.grownBy w1 x.1.ownBlock) : TM w w1 d dn fu n r it seen (X1 ++ (x.1, l') :: X2) (A ++ B) ps := by
  have h1 := h.skip
  unfold TM at h1 ⊢
  rw [List.map_append, List.map_cons] at h1 ⊢
  rw [List.map_append (f := secA), List.map_cons] at h1 ⊢
  have : ∀ (a b c i y : Asr), (a :: b :: c :: i :: ((X1.map secA ++ y :: X2.map secA) ++ (secsA (A ++ B) ++ ps))) = (a :: b :: c :: i :: X1.map secA) ++ y :: (X2.map secA ++ (secsA (A ++ B) ++ ps)) := by intros; simp
  rw [this] at h1 ⊢
  have h2 := h1.front
  refine Has.back (h2.next ?_ fun F hF => ?_)
  · exact ((Locs.cons (blkA_loc _ _ _) (.cons (rowA_loc _ _ _ _ _) (.cons (objA_loc _ _) (.cons (objA_loc _ _) (Locs.map _ secA_loc X1))))).append (secs2_locs X2 (A ++ B) hl))
  · obtain ⟨_, rfl⟩ := hF
    exact Next.mk ⟨ho, rfl⟩ (grownBy.tch hg) (fun k hk => Or.inl hk)
/-- the range is over: the map is cleared -/
theorem TM.done {s : DS} (h : TM w wr d dn fu n r it seen X [] ps) (hl : Locs ps) (ho : s.Ok) (hdn : s.down = dn) (hfu : s.fuse = fu) (hn : s.n = n) (hX : X.length = n) (hs : ∀ i, i < n → X[i]?.map (·.2) = some (s.sure i)) (hp : s.pend = fun _ => none) :
    dkH w (setBlock wr r.mb (.map (ents []) r.clock)) d s ps := by
  subst hdn hfu hn
  have h1 : Has w wr (objA r.mb (.map (ents r.P) r.clock) :: blkA d 55 (r.cells s.down s.fuse) :: rowA 36 1 r.sv s.n (X.map (·.1)) :: objA it (.mapIter (some r.mb) r.clock seen r.clock) :: (X.map secA ++ ps)) :=
    Has.perm ((List.Perm.cons _ (List.Perm.swap _ _ _)).trans (List.Perm.swap _ _ _)) h
  have h2 := h1.setObj (.cons (blkA_loc _ _ _) (.cons (rowA_loc _ _ _ _ _) (.cons (objA_loc _ _) ((Locs.map _ secA_loc X).append hl)))) (.map (ents []) r.clock) (Or.inl rfl)
  refine ⟨ho, { r with X := X, P := [] }, ⟨hX, hs, PeOk.nil _, (fun p hp => by cases hp), (fun i => by rw [hp]; rfl)⟩, ?_⟩
  rw [things_eq]
  have h3 : Has w (setBlock wr r.mb (.map (ents []) r.clock)) (objA it (.mapIter (some r.mb) r.clock seen r.clock) :: blkA d 55 (r.cells s.down s.fuse) :: rowA 36 1 r.sv s.n (X.map (·.1)) :: objA r.mb (.map (ents []) r.clock) :: (X.map secA ++ ps)) :=
    h2.perm ((List.Perm.cons _ ((List.Perm.cons _ (List.Perm.swap _ _ _)).trans (List.Perm.swap _ _ _))).trans (List.Perm.swap _ _ _) |>.trans (List.Perm.cons _ ((List.Perm.swap _ _ _).trans (List.Perm.cons _ (List.Perm.swap _ _ _)))))
  exact h3.drop
end
/-! ### what the sectors hold in the middle of a range -/
def curB (res : Int → List UInt8 → List UInt8 → List UInt8) (s : DS) (P : List Pe) (seen : Array Nat) (i : Nat) : List UInt8 :=
  match lookP P i with
  | none => s.sure i
  | some p => if seen.contains p.born then res p.k p.l (s.sure i) else s.sure i
structure XOk (res : Int → List UInt8 → List UInt8 → List UInt8) (s : DS) (P : List Pe) (seen : Array Nat) (X : List (Value × List UInt8)) : Prop where
  len : X.length = s.n
  cur : ∀ i, i < s.n → X[i]?.map (·.2) = some (curB res s P seen i)
/-- a disk behind a range -/
def DS.turned (s : DS) (res : Int → List UInt8 → List UInt8 → List UInt8) : DS := { s with sure := fun i => match s.pend i with | none => s.sure i | some b => res i b (s.sure i), pend := fun _ => none }
section
variable {res : Int → List UInt8 → List UInt8 → List UInt8} {s : DS} {r : DR} {P : List Pe} {seen : Array Nat} {X : List (Value × List UInt8)} {A B : List Pe} {p : Pe}
theorem XOk.start (h : r.Fits s) : XOk res s r.P #[] r.X := ⟨h.n, fun i hi => by
  rw [h.sure i hi]
  unfold curB
  split
  · rfl
  · simp⟩
theorem XOk.end_ (h : XOk res s r.P seen X) (hf : r.Fits s) (hL : leftP r.P seen = []) : ∀ i, i < s.n → X[i]?.map (·.2) = some ((s.turned res).sure i) := by
  intro i hi
  rw [h.cur i hi]
  unfold curB DS.turned
  simp only [hf.pend i]
  cases hl : lookP r.P i with
  | none => rfl
  | some p =>
    obtain ⟨hm, hk⟩ := lookP_some hl
    have hc : seen.contains p.born = true := by
      cases hc : seen.contains p.born with
      | true => rfl
      | false =>
        have : p ∈ leftP r.P seen := List.mem_filter.2 ⟨hm, by rw [hc]; rfl⟩
        rw [hL] at this; cases this
    simp only [hc, if_true, Option.map_some, hk]
/-- a round: where the entry's sector lies, and what it held -/
theorem XOk.round {c : Nat} (h : XOk res s P seen X) (ho : PeOk P c) (hkey : ∀ p ∈ P, 0 ≤ p.k ∧ p.k < s.n) (hL : leftP P seen = A ++ p :: B) :
    ∃ X1 x X2, X = X1 ++ x :: X2 ∧ p.k = (X1.length : Int) ∧ X1.length < s.n ∧ x.2 = s.sure X1.length ∧ leftP P (seen.push p.born) = A ++ B ∧ ∀ v, XOk res s P (seen.push p.born) (X1 ++ (v, res p.k p.l (s.sure X1.length)) :: X2) := by
  have hpm : p ∈ leftP P seen := by rw [hL]; simp
  obtain ⟨hm, hns⟩ := List.mem_filter.1 hpm
  have hns2 : seen.contains p.born = false := by simpa using hns
  obtain ⟨hk1, hk2⟩ := hkey p hm
  obtain ⟨i, hi⟩ : ∃ i : Nat, p.k = i := ⟨p.k.toNat, by omega⟩
  have hin : i < s.n := by omega
  have hlt : i < X.length := by rw [h.len]; exact hin
  have hlk : lookP P i = some p := by rw [← hi]; exact lookP_mem ho.keys hm
  have hsplit : X = X.take i ++ X[i] :: X.drop (i + 1) := by rw [List.getElem_cons_drop, List.take_append_drop]
  have hlen : (X.take i).length = i := by simp; omega
  have hcur := h.cur i hin
  rw [List.getElem?_eq_getElem hlt] at hcur
  have hx2 : X[i].2 = s.sure i := by
    have h9 : X[i].2 = curB res s P seen i := Option.some.inj hcur
    rw [h9]
    unfold curB
    rw [hlk]
    simp only [hns2, Bool.false_eq_true, if_false]
  refine ⟨X.take i, X[i], X.drop (i + 1), hsplit, by rw [hlen]; exact hi, by rw [hlen]; exact hin, by rw [hlen]; exact hx2, leftP_push ho.borns hL, fun v => ⟨?_, fun j hj => ?_⟩⟩
  · have := congrArg List.length hsplit
    rw [List.length_append, List.length_cons] at this ⊢
    rw [← this]; exact h.len
  · rw [hlen]
    by_cases hji : j = i
    · subst hji
      rw [List.getElem?_append_right (by omega), hlen, Nat.sub_self, List.getElem?_cons_zero]
      unfold curB
      rw [hlk]
      have : (seen.push p.born).contains p.born = true := by simp [Array.contains_push]
      simp only [this, if_true, Option.map_some]
    · have hc := h.cur j hj
      have e1 : (X.take i ++ (v, res p.k p.l (s.sure i)) :: X.drop (i + 1))[j]? = X[j]? := by
        conv => rhs; rw [hsplit]
        rcases Nat.lt_or_ge j i with hji' | hji'
        · rw [List.getElem?_append_left (by omega), List.getElem?_append_left (by omega)]
        · rw [List.getElem?_append_right (by omega), List.getElem?_append_right (by omega), hlen]
          obtain ⟨k, hk⟩ : ∃ k, j - i = k + 1 := ⟨j - i - 1, by omega⟩
          rw [hk, List.getElem?_cons_succ, List.getElem?_cons_succ]
      rw [e1, hc]
      congr 1
      unfold curB
      cases hq : lookP P j with
      | none => rfl
      | some q =>
        obtain ⟨hqm, hqk⟩ := lookP_some hq
        have hne : q.born ≠ p.born := by
          intro e
          have : q = p := by
            obtain ⟨a, ha, hqa⟩ := List.mem_iff_getElem.1 hqm
            obtain ⟨b, hb, hpb⟩ := List.mem_iff_getElem.1 hm
            have := (List.getElem_inj (h₀ := by simpa using ha) (h₁ := by simpa using hb) ho.borns (xs := P.map (·.born)) (i := a) (j := b)).1 (by simp only [List.getElem_map]; rw [hqa, hpb, e])
            subst this
            rw [← hqa, hpb]
          rw [this, hi] at hqk
          omega
        have : (seen.push p.born).contains q.born = seen.contains q.born := by
          simp [Array.contains_push, hne]
        simp only [this]
end
end Go.Proofs.Ythghflfgldcmbaa
