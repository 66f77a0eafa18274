/- Matches of a law's own: a new one; each call beside other things. -/
import Derived.Test.YtadmfoglajhdcaaMDrop
import Derived.Test.YtadmfoglajhdcaaMExpire
import Derived.Test.YtadmfoglajhdcaaMGet
namespace Go.Proofs.Ytadmfoglajhdcaa
set_option maxRecDepth 4000
set_option linter.unusedVariables false
set_option linter.unusedSimpArgs false
open Go Go.RowKit Go.Maps Go.ChangeMaps Go.MapKept
/-- the cells of a match that is new -/
structure MZero (cs : Array Value) : Prop where
  c0 : cs[0]? = some (.int .u64 0)
  q : ∀ k, k < 65 → cs[1 + k * 3]? = some (.pointer none) ∧ cs[1 + k * 3 + 1]? = some (.pointer none) ∧ cs[1 + k * 3 + 2]? = some (.map none)
  l : cs[196]? = some (.slice none 0 0)
def isU0 : Option Value → Bool
  | some (.int .u64 n) => decide (n = 0)
  | _ => false
def isPN : Option Value → Bool
  | some (.pointer none) => true
  | _ => false
def isMN : Option Value → Bool
  | some (.map none) => true
  | _ => false
def isSN : Option Value → Bool
  | some (.slice none a b) => decide (a = 0 ∧ b = 0)
  | _ => false
theorem isU0_eq {v : Option Value} (h : isU0 v = true) : v = some (.int .u64 0) := by
  unfold isU0 at h
  split at h
  · obtain rfl := of_decide_eq_true h; rfl
  · cases h
theorem isPN_eq {v : Option Value} (h : isPN v = true) : v = some (.pointer none) := by
  unfold isPN at h
  split at h
  · rfl
  · cases h
theorem isMN_eq {v : Option Value} (h : isMN v = true) : v = some (.map none) := by
  unfold isMN at h
  split at h
  · rfl
  · cases h
theorem isSN_eq {v : Option Value} (h : isSN v = true) : v = some (.slice none 0 0) := by
  unfold isSN at h
  split at h
  · obtain ⟨rfl, rfl⟩ := of_decide_eq_true h; rfl
  · cases h
def mzeroB (cs : Array Value) : Bool :=
  isU0 cs[0]? && ((List.range 65).all fun k => isPN cs[1 + k * 3]? && isPN cs[1 + k * 3 + 1]? && isMN cs[1 + k * 3 + 2]?) && isSN cs[196]?
theorem mzero_of {cs : Array Value} (h : mzeroB cs = true) : MZero cs := by
  unfold mzeroB at h
  simp only [Bool.and_eq_true, List.all_eq_true, List.mem_range] at h
  obtain ⟨⟨h1, h2⟩, h3⟩ := h
  exact ⟨isU0_eq h1, fun k hk => ⟨isPN_eq (h2 k hk).1.1, isPN_eq (h2 k hk).1.2, isMN_eq (h2 k hk).2⟩, isSN_eq h3⟩
def zeroMS : MS := ⟨0, fun _ => [], []⟩
theorem MZero.new {W : World} {g : Nat} {T : TypeId} {cs : Array Value} (h : MZero cs) (hb : Blk W g T cs) (h1 : T ≠ 87) (h2 : T ≠ 56) : mP g zeroMS W (fun k => k = g) := by
  refine ⟨fun _ _ => False, .slice none 0 0, ⟨⟨cs, T, hb, h1, h2, h.c0, h.l⟩, fun k hk => ?_, fun _ _ _ _ _ _ h => h.elim, World.ownsRow_nil _ _ _ _, fun b hb => by simp [Value.ownBlock] at hb, by simp [zeroMS], fun k hk => by simp [zeroMS]⟩, ?_⟩
  · obtain ⟨a, b, c⟩ := h.q k hk
    exact QP.new hb h1 a b c
  · funext k
    simp [MFoot, Value.ownBlock]
/-- a match's zero -/
noncomputable def mcells : Array Value := match (Try.prog.info? 41).bind (·.zero) with
  | some (.agg cs) => cs
  | _ => #[]
theorem mcells_zero (w : World) : (zeroValue 41).run Try.prog w = .ok (.agg mcells) w := by
  have h : (match (Try.prog.info? 41).bind (·.zero) with | some (.agg _) => true | _ => false) = true := by kernel_rfl
  unfold mcells
  split at h
  · rename_i cs hc
    obtain ⟨i, h1, h2⟩ := Option.bind_eq_some_iff.1 hc
    simp [zeroValue, typeInfo, h1, h2]
  · cases h
theorem mcells_new : MZero mcells := mzero_of (by kernel_rfl)
section
variable {w W : World} {m : Nat} {s : MS} {ps : List Asr}
theorem Has.mem : ∀ {ps : List Asr} {X : Nat → Prop}, Side w W ps X → ∀ {p : Asr}, p ∈ ps → ∃ F, p W F
  | [], _, _, _, h => by simp at h
  | q :: ps, _, ⟨F, h1, _, h3⟩, p, h => by
    rcases List.mem_cons.1 h with rfl | h
    · exact ⟨F, h1⟩
    · exact Has.mem h3 h
theorem Has.blk (h : Has w W ps) {g : Nat} {T : TypeId} {cs : Array Value} (hp : blkA g T cs ∈ ps) : Blk W g T cs := by
  obtain ⟨F, h1⟩ := Has.mem h hp
  exact h1.1
theorem Has.match_ (h : Has w W ps) (hp : mP m s ∈ ps) : ∃ F, mP m s W F := Has.mem h hp
/-- a new match -/
theorem hm_new (h : Has w W ps) (hl : Locs ps) : Has w (W.alloc (.cells mcells 41)) (mP W.heap.size zeroMS :: ps) :=
  h.add hl (ext_alloc W _) (mcells_new.new (Blk.new W 41 mcells) (by decide) (by decide)) (fun k hk => by omega)
theorem hm_blk (h : Has w W ps) (hl : Locs ps) (T : TypeId) (cs : Array Value) : Has w (W.alloc (.cells cs T)) (blkA W.heap.size T cs :: ps) :=
  h.add hl (ext_alloc W _) (F := fun k => k = W.heap.size) ⟨Blk.new W T cs, rfl⟩ (fun k hk => by omega)
theorem hm_add (h : Has w W (mP m s :: ps)) (hl : Locs ps) (r k i z now : Int) (hok : It.Ok ⟨r, k, i, now⟩) :
    Calls Try.prog 5 #[.pointer (some ⟨m, 0, none⟩), taskV r k i, .int .i64 z, .int .i64 now] W fun e W' => e = .returned (.int .i64 (maddE s r k i z)) ∧ Has w W' (mP m (madd s r k i z now) :: ps) :=
  h.act hl fun F hF => (add_any W m s F r k i z now hF hok).mono fun e W' ⟨h1, h2⟩ => ⟨h1, h2.next⟩
theorem hm_poll (h : Has w W (mP m s :: ps)) (hl : Locs ps) (z kind now : Int) (ht : 0 ≤ s.tok) (ht2 : s.tok < 18446744073709551615) (hn1 : -9223372036854775808 ≤ now) (hn2 : now ≤ 9223372036854775787) :
    Calls Try.prog 8 #[.pointer (some ⟨m, 0, none⟩), .int .i64 z, .int .i64 kind, .int .i64 now] W fun e W' => e = .returned (.tuple #[lsV (pollL s z kind now), .int .i64 (pollE s z kind)]) ∧ Has w W' (mP m (pollS s z kind now) :: ps) :=
  h.act hl fun F hF => (poll_any W m s F z kind now hF ht ht2 hn1 hn2).mono fun e W' ⟨h1, h2⟩ => ⟨h1, h2.next⟩
theorem hm_get (h : Has w W (mP m s :: ps)) (hl : Locs (mP m s :: ps)) (tok now : Int) :
    Calls Try.prog 27 #[.pointer (some ⟨m, 0, none⟩), .int .u64 tok, .int .i64 now] W fun e W' => e = .returned (.tuple #[lsV (getL s tok now), .int .i64 (getE s tok now)]) ∧ Has w W' (mP m s :: ps) ∧ Ext W W' :=
  h.keeps hl (R := fun e _ => e = .returned (.tuple #[lsV (getL s tok now), .int .i64 (getE s tok now)])) fun F hF => get_any W m s F tok now hF
theorem hm_where (h : Has w W (mP m s :: ps)) (hl : Locs (mP m s :: ps)) (r k i : Int) (hok : TaskOk r k i) :
    Calls Try.prog 17 #[.pointer (some ⟨m, 0, none⟩), taskV r k i] W fun e W' => e = .returned (whereV (s.where_ r k i)) ∧ Has w W' (mP m s :: ps) ∧ Ext W W' :=
  h.keeps hl (R := fun e _ => e = .returned (whereV (s.where_ r k i))) fun F hF => where_any W m s F r k i hF hok
theorem hm_done (h : Has w W (mP m s :: ps)) (hl : Locs ps) (t : Int) :
    Calls Try.prog 28 #[.pointer (some ⟨m, 0, none⟩), .int .u64 t] W fun e W' => e = .returned (.bool (decide ((s.done t).ls.length < s.ls.length))) ∧ Has w W' (mP m (s.done t) :: ps) :=
  h.act hl fun F hF => (done_any W m s F t hF).mono fun e W' ⟨h1, h2⟩ => ⟨h1, h2.next⟩
theorem hm_drop (h : Has w W (mP m s :: ps)) (hl : Locs ps) (run : Int) :
    Calls Try.prog 7 #[.pointer (some ⟨m, 0, none⟩), .int .i64 run] W fun e W' => e = .returned (.int .i64 (s.dropped run)) ∧ Has w W' (mP m (s.drop run) :: ps) :=
  h.act hl fun F hF => (drop_match W m s F run hF).mono fun e W' ⟨h1, h2⟩ => ⟨h1, h2.next⟩
def Handed (w : World) (m : Nat) (s' : MS) (ps : List Asr) (out : List Ls) (e : Ending) (W' : World) : Prop :=
  ∃ v, e = .returned v ∧ Has w W' (rowA 56 6 v out.length (flatL out) :: mP m s' :: ps)
theorem hm_out {P : Program} {f : FuncId} {args : Array Value} {s' : MS} {out : List Ls} (h : Has w W (mP m s :: ps)) (hl : Locs ps) (hc : ∀ F, mP m s W F → Calls P f args W fun e W' => Out W m F s' out e W') :
    Calls P f args W fun e W' => Handed w m s' ps out e W' := by
  obtain ⟨F, h1, h2, h3⟩ := h
  refine (hc F h1).mono ?_
  rintro e W' ⟨v, F', rfl, HM, hown, hnew⟩
  have hE0 : Ext w W := Side.base h3
  have hE : Ext w W' := ((Tch.of_ext (S := fun k => w.heap.size ≤ k) hE0).trans HM.t (fun i hi _ => (h2 i hi).1)).ext (fun _ h => h)
  refine ⟨v, rfl, _, ⟨hown, rfl⟩, fun k hk => ⟨Nat.le_trans hE0.le (hnew k hk).1, id⟩, F', HM.p, fun k hk => ⟨?_, ?_⟩, Side.step hl h3 (HM.t.mono fun _ h _ => Or.inr h) hE ?_⟩
  · rcases HM.f k hk with h | h
    · exact (h2 k h).1
    · exact Nat.le_trans hE0.le h
  · rintro (h | h)
    · exact h
    · exact (hnew k h).2 hk
  · rintro k ((h | h) | h)
    · exact h.elim
    · exact Or.inr (hnew k h).1
    · exact (HM.f k h).imp Or.inr id
def MS.expire (s : MS) (now : Int) : MS := { expS s now 64 with ls := keepL (fun l => decide (l.until_ ≤ now)) s.ls }
def MS.late (s : MS) (now : Int) : List Ls := s.ls.filter fun l => decide (l.until_ ≤ now)
def MS.lose (s : MS) (z now : Int) : MS := if z < 1 ∨ 64 < z then s else { loseQ s z.toNat (s.q z.toNat) [] now with ls := keepL (fun l => l.worker == z) s.ls }
def MS.lost (s : MS) (z : Int) : List Ls := if z < 1 ∨ 64 < z then [] else s.ls.filter fun l => l.worker == z
theorem hm_expire (h : Has w W (mP m s :: ps)) (hl : Locs ps) (now : Int) (hn1 : 0 ≤ now) (hn2 : now ≤ 4611686018427387903) (hsi : ∀ k, k < 65 → ∀ x ∈ s.q k, 0 ≤ x.since ∧ x.since ≤ 4611686018427387903) :
    Calls Try.prog 12 #[.pointer (some ⟨m, 0, none⟩), .int .i64 now] W fun e W' => Handed w m (s.expire now) ps (s.late now) e W' :=
  hm_out h hl fun F hF => expire_any W m s F now hF hn1 hn2 hsi
theorem hm_lose (h : Has w W (mP m s :: ps)) (hl : Locs ps) (z now : Int) (hn1 : -9223372036854775808 ≤ now) (hn2 : now ≤ 9223372036854775807) :
    Calls Try.prog 11 #[.pointer (some ⟨m, 0, none⟩), .int .i64 z, .int .i64 now] W fun e W' => Handed w m (s.lose z now) ps (s.lost z) e W' := by
  unfold MS.lose MS.lost
  by_cases hz : z < 1 ∨ 64 < z
  · rw [if_pos hz, if_pos hz]
    exact hm_out h hl fun F hF => lose_range W m s F z now hF hz
  · rw [if_neg hz, if_neg hz]
    exact hm_out h hl fun F hF => lose_go W m s F z now hF (by omega) (by omega) hn1 hn2
theorem hm_leases (h : Has w W (mP m s :: ps)) (hl : Locs (mP m s :: ps)) :
    Calls Try.prog 13 #[.pointer (some ⟨m, 0, none⟩)] W fun e W' => Handed w m s ps s.ls e W' := by
  obtain ⟨F, hF⟩ := h.head
  refine (leases_any W m s F hF).mono ?_
  rintro e W' ⟨v, rfl, h1, h2, h3⟩
  exact ⟨v, rfl, h.add hl h3 (p := rowA 56 6 v s.ls.length (flatL s.ls)) ⟨h1, rfl⟩ h2⟩
def Waits (w : World) (m : Nat) (s : MS) (ps : List Asr) (xs : List It) (e : Ending) (W' : World) : Prop :=
  ∃ v, e = .returned v ∧ Has w W' (rowA 43 3 v xs.length (flatIt xs) :: mP m s :: ps)
theorem hm_waiting (h : Has w W (mP m s :: ps)) (hl : Locs (mP m s :: ps)) :
    Calls Try.prog 6 #[.pointer (some ⟨m, 0, none⟩)] W fun e W' => Waits w m s ps (waitQ s 64) e W' := by
  obtain ⟨F, hF⟩ := h.head
  refine (waiting_any W m s F hF).mono ?_
  rintro e W' ⟨v, rfl, h1, h3⟩
  exact ⟨v, rfl, h.add hl h3 (p := rowA 43 3 v (waitQ s 64).length (flatIt (waitQ s 64))) ⟨ownsRow_base h1 (fun _ _ => Nat.zero_le _), rfl⟩ fun k hk => (h1.lt k hk).1⟩
end
end Go.Proofs.Ytadmfoglajhdcaa
