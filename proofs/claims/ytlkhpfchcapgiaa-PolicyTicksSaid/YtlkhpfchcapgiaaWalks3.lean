/- The walks of package policy: when it is tried again, and when it is late; three tries. -/
import Derived.Test.YtlkhpfchcapgiaaWalks2
namespace Go.Proofs.Ytlkhpfchcapgiaa
open Go.ChangeShapes Go.WideShapes Go.ChangeAt Go.RowKit
set_option linter.unusedVariables false
set_option linter.unusedSimpArgs false

theorem again_no (t f fa m l n now : Int) (w : World) (h : OkP t f fa m l) (hn : n < 1 ∨ (0 < t ∧ t ≤ n)) :
    Calls Try.prog 14 #[pol t f fa m l, .int .i64 n, .int .i64 now] w fun e w' => e = .returned (.tuple #[.int .i64 0, .bool false]) ∧ Ext w w' := by
  have H := Lib.hid h
  have Hn := Lib.hid hn
  clear h hn
  go_enter Try.func14, Try.ntmps14
  go_wp2_with (go_at_call 13; refine (wait_no _ _ _ _ _ _ _ H.out Hn.out).mono ?_; rintro e w1 ⟨rfl, hE⟩)
  go_ret2
  refine ⟨rfl, ?_⟩
  (repeat first
    | exact Ext.refl _
    | exact ext_alloc _ _
    | (exact (ext_alloc _ _).trans hE)
    | refine Ext.drewN ?_ _
    | refine Ext.drew ?_
    | refine Ext.alloc ?_ _
    | refine Ext.setCell ?_ (by simp; omega) _)
theorem again_neg (t f fa m l n now : Int) (w : World) (h : OkP t f fa m l) (hn1 : 1 ≤ n) (hn2 : n ≤ 9223372036854775807) (hn : t ≤ 0 ∨ n < t) (h0 : now < 0) :
    Calls Try.prog 14 #[pol t f fa m l, .int .i64 n, .int .i64 now] w fun e w' => e = .returned (.tuple #[.int .i64 0, .bool false]) ∧ Ext w w' := by
  have H := Lib.hid h
  have Hn := Lib.hid hn
  clear h hn
  go_enter Try.func14, Try.ntmps14
  go_wp2_with (go_at_call 13; refine (wait_yes _ _ _ _ _ _ _ H.out hn1 hn2 Hn.out).mono ?_; rintro e w1 ⟨rfl, hE⟩)
  go_ret2
  refine ⟨rfl, ?_⟩
  (repeat first
    | exact Ext.refl _
    | exact ext_alloc _ _
    | (exact (ext_alloc _ _).trans hE)
    | refine Ext.drewN ?_ _
    | refine Ext.drew ?_
    | refine Ext.alloc ?_ _
    | refine Ext.setCell ?_ (by simp; omega) _)
theorem again_yes (t f fa m l n now v : Int) (w : World) (h : OkP t f fa m l) (hn1 : 1 ≤ n) (hn2 : n ≤ 9223372036854775807) (hn : t ≤ 0 ∨ n < t) (h0 : 0 ≤ now) (h9 : now ≤ 4611686018427387903) (hv : v = waitV f fa m n) :
    Calls Try.prog 14 #[pol t f fa m l, .int .i64 n, .int .i64 now] w fun e w' => e = .returned (.tuple #[.int .i64 (if 4611686018427387903 - now < v then 4611686018427387903 else now + v), .bool true]) ∧ Ext w w' := by
  have H := Lib.hid h
  have Hn := Lib.hid hn
  obtain ⟨h1, h2, h3, h4, h5, h6, h7, h8, h9, h10⟩ := h
  have hb := waitV_bd f fa m n h5 h6 h3 h4 h7
  rw [← hv] at hb
  obtain ⟨hb1, hb2, _⟩ := hb
  have HV := Lib.hid hv
  clear hn hv
  by_cases hc : 4611686018427387903 - now < v
  all_goals
    go_enter Try.func14, Try.ntmps14
    go_wp2_with (go_at_call 13; refine (wait_yes _ _ _ _ _ _ _ H.out hn1 hn2 Hn.out).mono ?_; rintro e w1 ⟨rfl, hE⟩; rw [← HV.out])
    go_ret2
    refine ⟨ret_wait (by first | rfl | (split <;> omega)), ?_⟩
    (repeat first
      | exact Ext.refl _
      | exact ext_alloc _ _
      | (exact (ext_alloc _ _).trans hE)
      | refine Ext.drewN ?_ _
      | refine Ext.drew ?_
      | refine Ext.alloc ?_ _
      | refine Ext.setCell ?_ (by simp; omega) _)
theorem due_no (t f fa m l now : Int) (w : World) (h : OkP t f fa m l) (hn : l = 0 ∨ 4611686018427387903 - l < now) :
    Calls Try.prog 15 #[pol t f fa m l, .int .i64 now] w fun e w' => e = .returned (.tuple #[.int .i64 0, .bool false]) ∧ Ext w w' := by
  obtain ⟨h1, h2, h3, h4, h5, h6, h7, h8, h9, h10⟩ := h
  rcases (show l = 0 ∨ (1 ≤ l ∧ 4611686018427387903 - l < now) by omega) with rfl | ⟨ha, hb⟩
  · clear hn
    go_enter Try.func15, Try.ntmps15
    go_wp2
    go_ret2
    exact ⟨rfl, by (repeat first
                     | exact Ext.refl _
                     | exact ext_alloc _ _
                     | (fail)
                     | refine Ext.drewN ?_ _
                     | refine Ext.drew ?_
                     | refine Ext.alloc ?_ _
                     | refine Ext.setCell ?_ (by simp; omega) _)⟩
  · clear hn
    have b1 : (l == 0) = false := by simp; omega
    go_enter Try.func15, Try.ntmps15
    go_wp2
    go_ret2
    exact ⟨rfl, by (repeat first
                     | exact Ext.refl _
                     | exact ext_alloc _ _
                     | (fail)
                     | refine Ext.drewN ?_ _
                     | refine Ext.drew ?_
                     | refine Ext.alloc ?_ _
                     | refine Ext.setCell ?_ (by simp; omega) _)⟩
theorem due_yes (t f fa m l now : Int) (w : World) (h : OkP t f fa m l) (hn : 1 ≤ l) (hn2 : now ≤ 4611686018427387903 - l) (h0 : 0 ≤ now) :
    Calls Try.prog 15 #[pol t f fa m l, .int .i64 now] w fun e w' => e = .returned (.tuple #[.int .i64 (now + l), .bool true]) ∧ Ext w w' := by
  obtain ⟨h1, h2, h3, h4, h5, h6, h7, h8, h9, h10⟩ := h
  have b1 : (l == 0) = false := by simp; omega
  go_enter Try.func15, Try.ntmps15
  go_wp2
  go_ret2
  exact ⟨rfl, by (repeat first
                   | exact Ext.refl _
                   | exact ext_alloc _ _
                   | (fail)
                   | refine Ext.drewN ?_ _
                   | refine Ext.drew ?_
                   | refine Ext.alloc ?_ _
                   | refine Ext.setCell ?_ (by simp; omega) _)⟩

/-- a policy that lies in a block -/
structure Boxed (W : World) (b : Nat) (t f fa m l : Int) : Prop where
  c0 : W.cell? ⟨b, 0, none⟩ = some (.int .i64 t)
  c1 : W.cell? ⟨b, 1, none⟩ = some (.int .i64 f)
  c2 : W.cell? ⟨b, 2, none⟩ = some (.int .i64 fa)
  c3 : W.cell? ⟨b, 3, none⟩ = some (.int .i64 m)
  c4 : W.cell? ⟨b, 4, none⟩ = some (.int .i64 l)
  lt : b < W.heap.size
theorem Boxed.ext {W w : World} {b : Nat} {t f fa m l : Int} (h : Boxed W b t f fa m l) (hE : Ext W w) : Boxed w b t f fa m l :=
  ⟨(hE.cell _ _ h.lt).trans h.c0, (hE.cell _ _ h.lt).trans h.c1, (hE.cell _ _ h.lt).trans h.c2, (hE.cell _ _ h.lt).trans h.c3, (hE.cell _ _ h.lt).trans h.c4, Nat.lt_of_lt_of_le h.lt hE.le⟩
theorem Boxed.new (w : World) (t f fa m l : Int) (T : TypeId) : Boxed (w.alloc (.cells #[.int .i64 t, .int .i64 f, .int .i64 fa, .int .i64 m, .int .i64 l] T)) w.heap.size t f fa m l :=
  ⟨cell_box _ _ _, cell_box _ _ _, cell_box _ _ _, cell_box _ _ _, cell_box _ _ _, by simp⟩
theorem Boxed.at_ {W : World} {b : Nat} {t f fa m l : Int} (h : Boxed W b t f fa m l) : (∀ x : ExtOf W, x.val.cell? ⟨b, 0, none⟩ = some (.int .i64 t)) ∧ (∀ x : ExtOf W, x.val.cell? ⟨b, 1, none⟩ = some (.int .i64 f)) ∧
    (∀ x : ExtOf W, x.val.cell? ⟨b, 2, none⟩ = some (.int .i64 fa)) ∧ (∀ x : ExtOf W, x.val.cell? ⟨b, 3, none⟩ = some (.int .i64 m)) ∧ (∀ x : ExtOf W, x.val.cell? ⟨b, 4, none⟩ = some (.int .i64 l)) :=
  ⟨fun x => (h.ext x.property).c0, fun x => (h.ext x.property).c1, fun x => (h.ext x.property).c2, fun x => (h.ext x.property).c3, fun x => (h.ext x.property).c4⟩

theorem ok1 : OkP 3 2 3 0 0 := ⟨by omega⟩
theorem of_2082 (w : World) : Calls Try.prog 12 #[.int .i64 2082] w fun e w' => e = .returned (pol 3 2 3 0 0) ∧ Ext w w' := by
  have h := of_in 2082 w (by omega) (by omega)
  rwa [show ofT 2082 = 3 from by decide, show ofF 2082 = 2 from by decide, show ofFa 2082 = 3 from by decide, show ofM 2082 = 0 from by decide, show ofL 2082 = 0 from by decide] at h
theorem of_0 (w : World) : Calls Try.prog 12 #[.int .i64 0] w fun e w' => e = .returned (pol 1 0 1 0 0) ∧ Ext w w' := by
  have h := of_in 0 w (by omega) (by omega)
  rwa [show ofT 0 = 1 from by decide, show ofF 0 = 0 from by decide, show ofFa 0 = 1 from by decide, show ofM 0 = 0 from by decide, show ofL 0 = 0 from by decide] at h
set_option maxHeartbeats 1000000 in
theorem tries_any (w : World) : Calls Try.prog 8 #[] w fun e w' => e = .returned (.bool true) ∧ Ext w w' := by
  go_enter Try.func8, Try.ntmps8
  go_wp2_with fail
  obtain ⟨W, hW, hE0, hB⟩ : ∃ W, W = w.alloc (.cells #[.int .i64 3, .int .i64 2, .int .i64 3, .int .i64 0, .int .i64 0] 23) ∧ Ext w W ∧ Boxed W w.heap.size 3 2 3 0 0 := ⟨_, rfl, ext_alloc _ _, Boxed.new _ _ _ _ _ _ _⟩
  rw [← hW]
  clear hW
  generalize w.heap.size = b at *
  refine ((number_ok _ _ _ _ _ _ ok1)).mono ?_
  rintro e w1 ⟨rfl, hE1⟩
  replace hB := hB.ext hE1
  replace hE0 := hE0.trans hE1
  clear hE1
  have hB0 := hB
  obtain ⟨c0, c1, c2, c3, c4, hlt⟩ := hB0
  rw [show numV 3 2 3 0 0 = 2082 from by decide]
  go_wp2_with fail
  refine ((wait_yes _ _ _ _ _ _ _ ok1 (by omega) (by omega) (by omega))).mono ?_
  rintro e w1 ⟨rfl, hE1⟩
  replace hB := hB.ext hE1
  replace hE0 := hE0.trans hE1
  clear hE1
  have hB0 := hB
  obtain ⟨c0, c1, c2, c3, c4, hlt⟩ := hB0
  rw [show waitV 2 3 0 1 = 2 from by decide]
  go_wp2_with fail
  refine ((wait_yes _ _ _ _ _ _ _ ok1 (by omega) (by omega) (by omega))).mono ?_
  rintro e w1 ⟨rfl, hE1⟩
  replace hB := hB.ext hE1
  replace hE0 := hE0.trans hE1
  clear hE1
  have hB0 := hB
  obtain ⟨c0, c1, c2, c3, c4, hlt⟩ := hB0
  rw [show waitV 2 3 0 2 = 6 from by decide]
  go_wp2_with fail
  refine ((wait_no _ _ _ _ _ _ _ ok1 (by omega))).mono ?_
  rintro e w1 ⟨rfl, hE1⟩
  replace hB := hB.ext hE1
  replace hE0 := hE0.trans hE1
  clear hE1
  have hB0 := hB
  obtain ⟨c0, c1, c2, c3, c4, hlt⟩ := hB0
  go_wp2_with fail
  refine ((again_yes _ _ _ _ _ _ _ _ _ ok1 (by omega) (by omega) (by omega) (by omega) (by omega) rfl)).mono ?_
  rintro e w1 ⟨rfl, hE1⟩
  replace hB := hB.ext hE1
  replace hE0 := hE0.trans hE1
  clear hE1
  have hB0 := hB
  obtain ⟨c0, c1, c2, c3, c4, hlt⟩ := hB0
  rw [show waitV 2 3 0 1 = 2 from by decide]
  have hB' := hB.at_
  obtain ⟨d0, d1, d2, d3, d4⟩ := hB'
  go_wp2_with fail
  clear c0 c1 c2 c3 c4
  refine region_ext (by kernel_rfl) (by kernel_rfl) ?_
  repeat (go_big_quiet_step ((go_at_call 12; first | (with_reducible exact quiet_ext (of_2082 _)) | (with_reducible exact quiet_ext (of_0 _)))))
  refine wpQuiet_nil ?_
  intro wq hq
  obtain ⟨xq, rfl⟩ := hq
  have hEq := xq.property
  go_wp2
  go_ret
  exact ⟨rfl, hE0.trans hEq⟩
end Go.Proofs.Ytlkhpfchcapgiaa
