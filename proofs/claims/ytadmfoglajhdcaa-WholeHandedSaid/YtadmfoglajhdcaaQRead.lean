/- The walks of what only reads a queue. -/
import Derived.Test.YtadmfoglajhdcaaQPushW
namespace Go.Proofs.Ytadmfoglajhdcaa
set_option maxRecDepth 4000
set_option linter.unusedVariables false
set_option linter.unusedSimpArgs false
open Go Go.RowKit Go.Maps Go.ChangeMaps Go.MapKept
/-- the link of a task -/
def look (xs : List Ent) (r k i : Int) : Option Ent := xs.find? (isT · r k i)
theorem look_some {xs : List Ent} {r k i : Int} {e : Ent} (h : look xs r k i = some e) : e ∈ xs ∧ e.run = r ∧ e.kind = k ∧ e.id = i :=
  ⟨List.mem_of_find?_eq_some h, isT_iff.1 (List.find?_some (p := (isT · r k i)) h)⟩
theorem look_none {xs : List Ent} {r k i : Int} (h : look xs r k i = none) : xs.any (isT · r k i) = false := by
  rw [List.any_eq_false]
  intro x hx
  have := List.find?_eq_none.1 h x hx
  simpa using this
theorem look_isSome (xs : List Ent) (r k i : Int) : (look xs r k i).isSome = xs.any (isT · r k i) := by
  unfold look; rw [Bool.eq_iff_iff, List.find?_isSome, List.any_eq_true]
theorem QRep.drewN {w : World} {q o : Nat} {bm : Option Nat} {xs : List Ent} (h : QRep w q o bm xs) (n : Nat) : QRep (w.drewN n) q o bm xs := h.keep fun _ _ => rfl
theorem QRep.ext {w w' : World} {q o : Nat} {bm : Option Nat} {xs : List Ent} (h : QRep w q o bm xs) (hE : Ext w w') : QRep w' q o bm xs := h.keep fun k hk => hE.block k (h.foot_lt hk)
theorem linkElem_none {v : Value} {ps : List MemPlace} (h : linkElem v = some (.lit (.int .i64 (-1)), ps)) : v = .pointer none := by
  unfold linkElem at h
  split at h
  · simp at h
  · rfl
  · cases h
theorem QRep.look {w : World} {q o : Nat} {bm : Option Nat} {xs : List Ent} (h : QRep w q o bm xs) {r k i : Int} (hok : TaskOk r k i) :
    (Instr.lookup 33 (.map bm) (.agg #[.int .i64 r, .int .i64 k, .int .i64 i]) true).run Try.prog w = .ok (.tuple #[ptr ((look xs r k i).map (·.blk)), .bool (look xs r k i).isSome]) w := by
  obtain ⟨kl, hkl⟩ := taskKey_mk hok
  cases bm with
  | none =>
    obtain rfl : xs = [] := h.mp
    exact Maps.look_nil true taskKey Try.underlying33 (link_zero w) hkl
  | some b =>
    obtain ⟨D, n, hD, hown, _⟩ := h.mp
    obtain ⟨v, ps, hrun, hv⟩ := hown.look_ok taskKey Try.underlying33 (link_zero w) linkElem_nil hkl
    rw [hD.has _ _ _ _ hkl, ← look_isSome] at hrun
    cases hl : Go.Proofs.Ytadmfoglajhdcaa.look xs r k i with
    | none =>
      have hh : Maps.has D kl = false := (hD.has _ _ _ _ hkl).trans (look_none hl)
      rw [atKey_of_not_has hh] at hv
      rw [hl, linkElem_none hv] at hrun
      exact hrun
    | some e =>
      obtain ⟨hm, h1, h2, h3⟩ := look_some hl
      subst h1 h2 h3
      rw [hD.at_ e hm kl _ hkl] at hv
      rw [hl, linkElem_inv hv] at hrun
      exact hrun
theorem Seg.node {w : World} {T : TypeId} : ∀ {p : Option Nat} {l : List Ent} {n : Option Nat}, Seg w T p l n → ∀ e ∈ l, ∃ p' n', Blk w e.blk T (nodeV e p' n')
  | _, [], _, _, e, he => by cases he
  | _, x :: l, _, h, e, he => by
    rcases List.mem_cons.1 he with rfl | he
    · exact ⟨_, _, h.1⟩
    · exact Seg.node h.2 e he

theorem has_any (w : World) (q o : Nat) (bm : Option Nat) (xs : List Ent) (r k i : Int) (hq : QRep w q o bm xs) (hok : TaskOk r k i) :
    Calls Try.prog 14 #[.pointer (some ⟨q, o, none⟩), taskV r k i] w fun e w' => e = .returned (.bool (xs.any (isT · r k i))) ∧ Ext w w' := by
  rw [← look_isSome]
  have hE := ext_alloc w (.cells #[.int .i64 r, .int .i64 k, .int .i64 i] 43)
  have hq1 := hq.ext hE
  have hl := fun n => (hq1.drewN n).look hok
  have c2 := hq.c2
  have hql := hq.foot_lt (Or.inl rfl)
  generalize Go.Proofs.Ytadmfoglajhdcaa.look xs r k i = x at *
  go_enter Try.func14, Try.ntmps14
  go_wp2
  go_quiet (fail)
  go_wp2
  go_ret
  exact ⟨rfl, hE.drewN _⟩
theorem len_any (w : World) (q o : Nat) (bm : Option Nat) (xs : List Ent) (hq : QRep w q o bm xs) :
    Calls Try.prog 15 #[.pointer (some ⟨q, o, none⟩)] w fun e w' => e = .returned (.int .i64 xs.length) ∧ Ext w w' := by
  have c2 := hq.c2
  cases bm with
  | none =>
    obtain rfl : xs = [] := hq.mp
    go_enter Try.func15, Try.ntmps15
    go_wp2
    go_ret
    exact ⟨rfl, Ext.refl _⟩
  | some b =>
    obtain ⟨D, n, hD, hown, _⟩ := hq.mp
    have hlen := fun ty => hown.len Try.underlying33 ty
    rw [hD.size] at hlen
    go_enter Try.func15, Try.ntmps15
    go_wp2
    go_ret
    exact ⟨rfl, Ext.refl _⟩
theorem since_yes (w : World) (q o : Nat) (bm : Option Nat) (xs : List Ent) (e : Ent) (r k i : Int) (hq : QRep w q o bm xs) (hok : TaskOk r k i) (he : look xs r k i = some e) :
    Calls Try.prog 30 #[.pointer (some ⟨q, o, none⟩), taskV r k i] w fun e' w' => e' = .returned (.tuple #[.int .i64 e.since, .bool true]) ∧ Ext w w' := by
  have hE := ext_alloc w (.cells #[.int .i64 r, .int .i64 k, .int .i64 i] 43)
  have hq1 := hq.ext hE
  have hl := fun n => (hq1.drewN n).look hok
  rw [he] at hl
  simp only [Option.map_some, Option.isSome_some, ptr] at hl
  obtain ⟨p', n', hn⟩ := hq1.seg.node e (look_some he).1
  have n3 : (w.alloc (.cells #[.int .i64 r, .int .i64 k, .int .i64 i] 43)).cell? ⟨e.blk, 3, none⟩ = some (.int .i64 e.since) := hn.cell 3
  have hnl : e.blk < w.heap.size := hq.foot_lt (Or.inr (Or.inr (List.mem_map.2 ⟨e, (look_some he).1, rfl⟩)))
  rw [World.cell?_alloc_lt _ _ _ hnl] at n3
  have c2 := hq.c2
  have hql := hq.foot_lt (Or.inl rfl)
  clear hn
  go_enter Try.func30, Try.ntmps30
  go_wp2
  go_quiet (fail)
  go_wp2
  go_ret2
  exact ⟨rfl, hE.drewN _⟩
theorem since_no (w : World) (q o : Nat) (bm : Option Nat) (xs : List Ent) (r k i : Int) (hq : QRep w q o bm xs) (hok : TaskOk r k i) (he : look xs r k i = none) :
    Calls Try.prog 30 #[.pointer (some ⟨q, o, none⟩), taskV r k i] w fun e' w' => e' = .returned (.tuple #[.int .i64 0, .bool false]) ∧ Ext w w' := by
  have hE := ext_alloc w (.cells #[.int .i64 r, .int .i64 k, .int .i64 i] 43)
  have hq1 := hq.ext hE
  have hl := fun n => (hq1.drewN n).look hok
  rw [he] at hl
  simp only [Option.map_none, Option.isSome_none, ptr] at hl
  have c2 := hq.c2
  have hql := hq.foot_lt (Or.inl rfl)
  go_enter Try.func30, Try.ntmps30
  go_wp2
  go_quiet (fail)
  go_wp2
  go_ret2
  exact ⟨rfl, hE.drewN _⟩
theorem first_no (w : World) (q o : Nat) (bm : Option Nat) (hq : QRep w q o bm []) :
    Calls Try.prog 36 #[.pointer (some ⟨q, o, none⟩)] w fun e' w' => e' = .returned (.tuple #[taskV 0 0 0, .int .i64 0, .bool false]) ∧ Ext w w' := by
  have c0 := hq.c0
  have hql := hq.foot_lt (Or.inl rfl)
  simp only [hd, ptr, Option.map_none] at c0
  go_enter Try.func36, Try.ntmps36
  go_wp2
  exact bodyPost_ret (v := .tuple #[taskV 0 0 0, .int .i64 0, .bool false]) (by simp [results, Try.results36, go_sem]) rfl ⟨rfl, by (repeat first
                                                                                                                                                         | exact Ext.refl _
                                                                                                                                                         | exact ext_alloc _ _
                                                                                                                                                         | (fail)
                                                                                                                                                         | refine Ext.drewN ?_ _
                                                                                                                                                         | refine Ext.drew ?_
                                                                                                                                                         | refine Ext.alloc ?_ _
                                                                                                                                                         | refine Ext.setCell ?_ (by first | (simp; done) | (simp; omega) | omega) _)⟩
theorem first_yes (w : World) (q o : Nat) (bm : Option Nat) (e : Ent) (xs : List Ent) (hq : QRep w q o bm (e :: xs)) :
    Calls Try.prog 36 #[.pointer (some ⟨q, o, none⟩)] w fun e' w' => e' = .returned (.tuple #[taskV e.run e.kind e.id, .int .i64 e.since, .bool true]) ∧ Ext w w' := by
  have c0 := hq.c0
  have hql := hq.foot_lt (Or.inl rfl)
  simp only [hd, ptr, Option.map_some] at c0
  have hn := hq.seg.1
  have hnl := hn.lt
  have n0 : w.cell? ⟨e.blk, 0, none⟩ = some (.int .i64 e.run) := hn.cell 0
  have n1 : w.cell? ⟨e.blk, 1, none⟩ = some (.int .i64 e.kind) := hn.cell 1
  have n2 : w.cell? ⟨e.blk, 2, none⟩ = some (.int .i64 e.id) := hn.cell 2
  have n3 : w.cell? ⟨e.blk, 3, none⟩ = some (.int .i64 e.since) := hn.cell 3
  clear hn
  go_enter Try.func36, Try.ntmps36
  go_wp2
  have hE := ext_alloc w (.cells #[.int .i64 0, .int .i64 0, .int .i64 0] 43)
  refine gen_world (fun W => Ext w W ∧ Blk W w.heap.size 43 #[.int .i64 0, .int .i64 0, .int .i64 0]) ⟨hE, Blk.new _ _ _⟩ ?_
  rintro W ⟨hEW, hbW⟩
  have m0 := (hEW.cell q o hql).trans c0
  have m1 := (hEW.cell e.blk 0 hnl).trans n0
  have m2 := (hEW.cell e.blk 1 hnl).trans n1
  have m3 := (hEW.cell e.blk 2 hnl).trans n2
  have m4 := (hEW.cell e.blk 3 hnl).trans n3
  have r0 := hbW.cell 0
  have r1 := hbW.cell 1
  have r2 := hbW.cell 2
  have s0 := hbW.frozen 0
  have s1 := hbW.frozen 1
  have s2 := hbW.frozen 2
  simp only [List.getElem?_toArray, List.getElem?_cons_zero, List.getElem?_cons_succ] at r0 r1 r2
  clear c0 n0 n1 n2 n3 hE
  have hqW := Nat.lt_of_lt_of_le hql hEW.le
  have hqn : q ≠ w.heap.size := by omega
  have hen : e.blk ≠ w.heap.size := by omega
  have heW := Nat.lt_of_lt_of_le hnl hEW.le
  have d0 : ∀ x : Of (fun X => Tch (fun k => k = w.heap.size) W X), x.val.cell? ⟨q, o, none⟩ = some (.pointer (some ⟨e.blk, 0, none⟩)) := fun x => x.property.cell m0 hqW hqn
  have d1 : ∀ x : Of (fun X => Tch (fun k => k = w.heap.size) W X), x.val.cell? ⟨e.blk, 0, none⟩ = some (.int .i64 e.run) := fun x => x.property.cell m1 heW hen
  have d2 : ∀ x : Of (fun X => Tch (fun k => k = w.heap.size) W X), x.val.cell? ⟨e.blk, 1, none⟩ = some (.int .i64 e.kind) := fun x => x.property.cell m2 heW hen
  have d3 : ∀ x : Of (fun X => Tch (fun k => k = w.heap.size) W X), x.val.cell? ⟨e.blk, 2, none⟩ = some (.int .i64 e.id) := fun x => x.property.cell m3 heW hen
  have d4 : ∀ x : Of (fun X => Tch (fun k => k = w.heap.size) W X), x.val.cell? ⟨e.blk, 3, none⟩ = some (.int .i64 e.since) := fun x => x.property.cell m4 heW hen
  have hFd := (show Tch (fun k => k = w.heap.size) W W.drew from (Tch.refl _ _).drew)
  have hne_ : Nonempty (Of (fun X => Tch (fun k => k = w.heap.size) W X)) := ⟨⟨_, hFd⟩⟩
  refine region_mixed 16 (fun w' => ∃ x : Of (fun X => Tch (fun k => k = w.heap.size) W X), w' = x.val) (by kernel_rfl) (by kernel_rfl) (by kernel_rfl) ⟨⟨_, hFd⟩, rfl⟩ ?_
  simp only [List.take_succ_cons, List.take_zero, List.drop_succ_cons, List.drop_zero]
  repeat (go_big_quiet_step (fail))
  refine wpQuiet_nil ?_
  clear d0 d1 d2 d3 d4
  refine listC_step rfl (fun K hK => ?_)
  go_simp
  refine hK _ _ ⟨⟨_, (show Tch (fun k => k = w.heap.size) W _ from by (repeat first
                                                                        | exact Tch.refl _ _
                                                                        | (fail)
                                                                        | refine Tch.drewN ?_ _
                                                                        | refine Tch.drew ?_
                                                                        | refine Tch.alloc ?_ _
                                                                        | refine Tch.setCell ?_ (by intro _; first | rfl | (simp; done) | omega) _))⟩, rfl⟩ ?_
  clear hK K
  have hF1 : Tch (fun k => k = w.heap.size) W (((W.setCell ⟨w.heap.size, 0, none⟩ (.int .i64 e.run)).setCell ⟨w.heap.size, 1, none⟩ (.int .i64 e.kind)).setCell ⟨w.heap.size, 2, none⟩ (.int .i64 e.id)).drew := by (repeat first
                                                                                                                                                                                                                      | exact Tch.refl _ _
                                                                                                                                                                                                                      | (fail)
                                                                                                                                                                                                                      | refine Tch.drewN ?_ _
                                                                                                                                                                                                                      | refine Tch.drew ?_
                                                                                                                                                                                                                      | refine Tch.alloc ?_ _
                                                                                                                                                                                                                      | refine Tch.setCell ?_ (by intro _; first | rfl | (simp; done) | omega) _)
  refine listC_step rfl (fun K hK => ?_)
  go_simp
  refine hK _ _ ⟨⟨_, hF1⟩, rfl⟩ ?_
  clear hK K
  refine listC_step rfl (fun K hK => ?_)
  go_simp
  refine hK _ _ ⟨⟨_, hF1⟩, rfl⟩ ?_
  clear hK K
  refine listC_nil (NoPanic.normal ?_)
  go_wp2
  refine bodyPost_ret (v := .tuple #[taskV e.run e.kind e.id, .int .i64 e.since, .bool true]) (by simp [results, Try.results36, go_sem, r0, r1, r2]) rfl ⟨rfl, ?_⟩
  (repeat first
    | exact Ext.refl _
    | exact ext_alloc _ _
    | (exact hEW)
    | refine Ext.drewN ?_ _
    | refine Ext.drew ?_
    | refine Ext.alloc ?_ _
    | refine Ext.setCell ?_ (by first | (simp; done) | (simp; omega) | omega) _)
end Go.Proofs.Ytadmfoglajhdcaa
