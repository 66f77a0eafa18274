/- CronParts, walked. -/
import Derived.Test.YtmgpkadgalgnnaaDoorLNext
namespace Go.Proofs.YtmgpkadgalgnnaaDoor
set_option maxRecDepth 4000
set_option linter.unusedVariables false
set_option linter.unusedSimpArgs false
open Go Go.RowKit
theorem splitL_app (c : UInt8) (r : List UInt8) : ∀ p : List UInt8, splitL c (p ++ c :: r) = splitL c p ++ splitL c r
  | [] => by simp [splitL]
  | a :: p => by
    rw [List.cons_append, splitL, splitL, splitL_app c r p]
    by_cases h : (a == c) = true
    · rw [if_pos h, if_pos h]; rfl
    · rw [if_neg h, if_neg h]
      cases hp : splitL c p with
      | nil => exact absurd hp (splitL_ne c p)
      | cons x l => rfl
theorem splitL_one {c : UInt8} {a : List UInt8} (h : (splitL c a).length = 1) : c ∉ a := by
  intro hm
  obtain ⟨p, r, rfl, _⟩ := parted hm
  rw [splitL_app, List.length_append] at h
  have h1 := List.length_pos_iff.2 (splitL_ne c p)
  have h2 := List.length_pos_iff.2 (splitL_ne c r)
  omega
def sfx : List UInt8 := [32, 42, 32, 42, 32, 42, 32, 42]
def l4 : List (List UInt8) := [[42], [42], [42], [42]]
theorem split_sfx (a : List UInt8) : splitL 32 (a ++ sfx) = splitL 32 a ++ l4 := by
  have h : sfx = 32 :: [42, 32, 42, 32, 42, 32, 42] := rfl
  rw [h, splitL_app]
  congr 1
theorem partsS_app {L H : Nat} : ∀ {x y : List (List UInt8)} {p q : List Prt}, partsS L H x = .ok p → partsS L H y = .ok q → partsS L H (x ++ y) = .ok (p ++ q)
  | [], y, p, q, h1, h2 => by injection h1 with h1; subst h1; exact h2
  | a :: x, y, p, q, h1, h2 => by
    rw [partsS] at h1
    rw [List.cons_append, partsS]
    cases ha : partS L H a with
    | error e => rw [ha] at h1; cases h1
    | ok pa =>
      rw [ha] at h1
      simp only [] at h1 ⊢
      cases hx : partsS L H x with
      | error e => rw [hx] at h1; cases h1
      | ok px =>
        rw [hx] at h1
        injection h1 with h1
        rw [partsS_app hx h2, ← h1]
        rfl
theorem parse_sfx {a : List UInt8} {S : Sp} (h : parseS (a ++ sfx) = .ok S) :
    (32 : UInt8) ∉ a ∧ ∃ qa q4 b0, fieldS (lo 0) (Go.Proofs.YtmgpkadgalgnnaaDoor.hi 0) a = .ok qa ∧ fieldsS 1 l4 = .ok q4 ∧ S = ⟨qa :: q4, b0 :: [true, true, true, true]⟩ := by
  obtain ⟨_, _, h1, h2, h3⟩ := parseS_ok h
  rw [split_sfx] at h1 h2 h3
  rw [List.length_append] at h1
  have h4 : (l4 : List (List UInt8)).length = 4 := rfl
  have hn := splitL_one (c := 32) (a := a) (by omega)
  rw [splitL_none hn] at h2 h3
  refine ⟨hn, ?_⟩
  rw [List.singleton_append, fieldsS] at h2
  cases ha : fieldS (lo 0) (Go.Proofs.YtmgpkadgalgnnaaDoor.hi 0) a with
  | error e => rw [ha] at h2; cases h2
  | ok qa =>
    rw [ha] at h2
    simp only [] at h2
    cases hl : fieldsS (0 + 1) l4 with
    | error e => rw [hl] at h2; cases h2
    | ok q4 =>
      rw [hl] at h2
      injection h2 with h2
      refine ⟨qa, q4, a == [42], rfl, rfl, ?_⟩
      cases S
      simp only [Sp.mk.injEq]
      exact ⟨h2.symm, h3⟩
theorem parse_both {a b : List UInt8} {qa qb : List Prt} {q4 : List (List Prt)} (ha : (32 : UInt8) ∉ a) (hb : (32 : UInt8) ∉ b) (hla : a.length ≤ 30) (hlb : b.length ≤ 30)
    (h1 : fieldS (lo 0) (Go.Proofs.YtmgpkadgalgnnaaDoor.hi 0) a = .ok qa) (h2 : fieldS (lo 0) (Go.Proofs.YtmgpkadgalgnnaaDoor.hi 0) b = .ok qb) (h3 : fieldsS 1 l4 = .ok q4) :
    ∃ b0, parseS ((a ++ 44 :: b) ++ sfx) = .ok ⟨(qa ++ qb) :: q4, b0 :: [true, true, true, true]⟩ := by
  have hn : (32 : UInt8) ∉ a ++ 44 :: b := by
    intro h
    rcases List.mem_append.1 h with h | h
    · exact ha h
    · rcases List.mem_cons.1 h with h | h
      · revert h; decide
      · exact hb h
  have hs : splitL 32 ((a ++ 44 :: b) ++ sfx) = (a ++ 44 :: b) :: l4 := by rw [split_sfx, splitL_none hn]; rfl
  have hf : fieldS (lo 0) (Go.Proofs.YtmgpkadgalgnnaaDoor.hi 0) (a ++ 44 :: b) = .ok (qa ++ qb) := by
    unfold fieldS at *
    rw [splitL_app]
    exact partsS_app h1 h2
  have hl : ((a ++ 44 :: b) ++ sfx).length = a.length + b.length + 9 := by
    simp [sfx]; omega
  refine ⟨(a ++ 44 :: b) == [42], ?_⟩
  unfold parseS
  rw [if_neg (by omega), hs, if_neg (by simp [l4]), fieldsS, hf]
  simp only []
  rw [show fieldsS (0 + 1) l4 = .ok q4 from h3]
  rfl
theorem hasP_app (p q : List Prt) (n : Nat) : hasP (p ++ q) n = (hasP p n || hasP q n) := by simp [hasP]
theorem fits_both {qa qb : List Prt} {q4 : List (List Prt)} {b0 b1 b2 : Bool} (m d h n k : Int) :
    (Sp.mk ((qa ++ qb) :: q4) (b0 :: [true, true, true, true])).fits m d h n k = ((Sp.mk (qa :: q4) (b1 :: [true, true, true, true])).fits m d h n k || (Sp.mk (qb :: q4) (b2 :: [true, true, true, true])).fits m d h n k) := by
  unfold Sp.fits Sp.day Sp.star Sp.has
  simp only [List.getD_cons_zero, List.getD_cons_succ, hasP_app]
  cases decide (0 ≤ n) <;> cases hasP qa n.toNat <;> cases hasP qb n.toNat <;> simp
theorem tl_app (s t : ByteArray) : tl (s ++ t) = tl s ++ tl t := by simp [tl, ByteArray.data_append]
theorem parse_str (w : World) (X : ByteArray) (hs : X.size ≤ 100000) (hm : MX w) :
    Calls Tryd.prog 11 #[.string X] w fun e w' => ParseR (parseS (tl X)) (tl X) w e w' := by
  have h := parse_any w (tl X) (by rw [tl_length]; exact hs) hm
  rw [show strV (tl X) = .string X by rw [strV, strOf_tl]] at h
  exact h
theorem code_ne {x : List UInt8} {e : Int} (h : parseS x = .error e) : (e == 0) = false := by
  rcases parseS_err h with rfl | rfl | rfl | rfl <;> rfl
theorem code_nz {x : List UInt8} {e : Int} (h : parseS x = .error e) : (e != 0) = true := by
  rcases parseS_err h with rfl | rfl | rfl | rfl <;> rfl
theorem mx_mono {w : World} (hm : MX w) {W : World} (hE : Ext w W) : MX W := hm.ext hE
set_option maxHeartbeats 1000000 in
theorem partslaw_any (w : World) (a b : ByteArray) (t : Int) (hlo : -9223372036854775808 ≤ t) (hhi : t ≤ 9223372036854775807) (hm : MX w) :
    Calls Tryd.prog 9 #[.string a, .string b, .int .i64 t] w fun e w' => e = .returned (.bool true) ∧ Ext w w' := by
  have hf := finds_any w hm
  go_enter Tryd.func9, Tryd.ntmps9
  go_wp2_with fail
  refine hf.mono ?_
  rintro e w1 ⟨rfl, hE1⟩
  clear hf
  by_cases g1 : (30 : Int) < a.size
  · go_wp2_with fail
    go_ret
    exact ⟨rfl, hE1⟩
  by_cases g2 : (30 : Int) < b.size
  · go_wp2_with fail
    go_ret
    exact ⟨rfl, hE1⟩
  by_cases h0 : t < 0
  · go_wp2_with fail
    go_ret
    exact ⟨rfl, hE1⟩
  by_cases h1 : 2147483648 < t
  · go_wp2_with fail
    go_ret
    exact ⟨rfl, hE1⟩
  have hpa := fun W (hE : Ext w W) => parse_str W (a ++ ⟨#[32, 42, 32, 42, 32, 42, 32, 42]⟩) (by rw [ByteArray.size_append]; show a.size + 8 ≤ _; omega) (hm.ext hE)
  have hpb := fun W (hE : Ext w W) => parse_str W (b ++ ⟨#[32, 42, 32, 42, 32, 42, 32, 42]⟩) (by rw [ByteArray.size_append]; show b.size + 8 ≤ _; omega) (hm.ext hE)
  have hpf := fun W (hE : Ext w W) => parse_str W (a ++ ⟨#[44]⟩ ++ b ++ ⟨#[32, 42, 32, 42, 32, 42, 32, 42]⟩) (by rw [ByteArray.size_append, ByteArray.size_append, ByteArray.size_append]; show a.size + 1 + b.size + 8 ≤ _; omega) (hm.ext hE)
  have xa : tl (a ++ ⟨#[32, 42, 32, 42, 32, 42, 32, 42]⟩) = tl a ++ sfx := by rw [tl_app]; rfl
  have xb : tl (b ++ ⟨#[32, 42, 32, 42, 32, 42, 32, 42]⟩) = tl b ++ sfx := by rw [tl_app]; rfl
  have xf : tl (a ++ ⟨#[44]⟩ ++ b ++ ⟨#[32, 42, 32, 42, 32, 42, 32, 42]⟩) = (tl a ++ 44 :: tl b) ++ sfx := by
    rw [tl_app, tl_app, tl_app, show tl ⟨#[44]⟩ = [44] from rfl, List.append_assoc (tl a)]; rfl
  have la : (tl a).length ≤ 30 := by rw [tl_length]; omega
  have lb : (tl b).length ≤ 30 := by rw [tl_length]; omega
  simp only [xa] at hpa
  simp only [xb] at hpb
  simp only [xf] at hpf
  clear xa xb xf
  have hE := hE1
  clear hE1
  cases hA : parseS (tl a ++ sfx) with
  | error ca =>
    have na := code_ne hA
    have ma := code_nz hA
    simp only [hA] at hpa
    cases hB : parseS (tl b ++ sfx) with
    | error cb =>
      have nb := code_ne hB
      have mb := code_nz hB
      simp only [hB] at hpb
      cases hF : parseS ((tl a ++ 44 :: tl b) ++ sfx) with
      | error cf =>
        have nf := code_ne hF
        have mf := code_nz hF
        simp only [hF] at hpf
        clear hA hB hF
        go_wp2_with fail
        refine (hpa _ hE).mono ?_
        rintro e wn ⟨rfl, hEn⟩
        replace hE := hE.trans hEn
        clear hEn hpa
        go_wp2_with fail
        refine (hpb _ hE).mono ?_
        rintro e wn ⟨rfl, hEn⟩
        replace hE := hE.trans hEn
        clear hEn hpb
        go_wp2_with fail
        refine (hpf _ hE).mono ?_
        rintro e wn ⟨rfl, hEn⟩
        replace hE := hE.trans hEn
        clear hEn hpf
        go_wp2_with fail
        go_ret
        exact ⟨rfl, hE⟩
      | ok SF =>
        simp only [hF] at hpf
        clear hA hB hF
        go_wp2_with fail
        refine (hpa _ hE).mono ?_
        rintro e wn ⟨rfl, hEn⟩
        replace hE := hE.trans hEn
        clear hEn hpa
        go_wp2_with fail
        refine (hpb _ hE).mono ?_
        rintro e wn ⟨rfl, hEn⟩
        replace hE := hE.trans hEn
        clear hEn hpb
        go_wp2_with fail
        refine (hpf _ hE).mono ?_
        intro e wn hr
        obtain ⟨gf, rfl, hS_, hEn⟩ := parse_ok hr
        replace hE := hE.trans hEn
        clear hr hEn hS_ hpf
        go_wp2_with fail
        go_ret
        exact ⟨rfl, hE⟩
    | ok SB =>
      simp only [hB] at hpb
      cases hF : parseS ((tl a ++ 44 :: tl b) ++ sfx) with
      | error cf =>
        have nf := code_ne hF
        have mf := code_nz hF
        simp only [hF] at hpf
        clear hA hB hF
        go_wp2_with fail
        refine (hpa _ hE).mono ?_
        rintro e wn ⟨rfl, hEn⟩
        replace hE := hE.trans hEn
        clear hEn hpa
        go_wp2_with fail
        refine (hpb _ hE).mono ?_
        intro e wn hr
        obtain ⟨gb, rfl, hS_, hEn⟩ := parse_ok hr
        replace hE := hE.trans hEn
        clear hr hEn hS_ hpb
        go_wp2_with fail
        refine (hpf _ hE).mono ?_
        rintro e wn ⟨rfl, hEn⟩
        replace hE := hE.trans hEn
        clear hEn hpf
        go_wp2_with fail
        go_ret
        exact ⟨rfl, hE⟩
      | ok SF =>
        simp only [hF] at hpf
        clear hA hB hF
        go_wp2_with fail
        refine (hpa _ hE).mono ?_
        rintro e wn ⟨rfl, hEn⟩
        replace hE := hE.trans hEn
        clear hEn hpa
        go_wp2_with fail
        refine (hpb _ hE).mono ?_
        intro e wn hr
        obtain ⟨gb, rfl, hS_, hEn⟩ := parse_ok hr
        replace hE := hE.trans hEn
        clear hr hEn hS_ hpb
        go_wp2_with fail
        refine (hpf _ hE).mono ?_
        intro e wn hr
        obtain ⟨gf, rfl, hS_, hEn⟩ := parse_ok hr
        replace hE := hE.trans hEn
        clear hr hEn hS_ hpf
        go_wp2_with fail
        go_ret
        exact ⟨rfl, hE⟩
  | ok SA =>
    simp only [hA] at hpa
    cases hB : parseS (tl b ++ sfx) with
    | error cb =>
      have nb := code_ne hB
      have mb := code_nz hB
      simp only [hB] at hpb
      cases hF : parseS ((tl a ++ 44 :: tl b) ++ sfx) with
      | error cf =>
        have nf := code_ne hF
        have mf := code_nz hF
        simp only [hF] at hpf
        clear hA hB hF
        go_wp2_with fail
        refine (hpa _ hE).mono ?_
        intro e wn hr
        obtain ⟨ga, rfl, hS_, hEn⟩ := parse_ok hr
        replace hE := hE.trans hEn
        clear hr hEn hS_ hpa
        go_wp2_with fail
        refine (hpb _ hE).mono ?_
        rintro e wn ⟨rfl, hEn⟩
        replace hE := hE.trans hEn
        clear hEn hpb
        go_wp2_with fail
        refine (hpf _ hE).mono ?_
        rintro e wn ⟨rfl, hEn⟩
        replace hE := hE.trans hEn
        clear hEn hpf
        go_wp2_with fail
        go_ret
        exact ⟨rfl, hE⟩
      | ok SF =>
        simp only [hF] at hpf
        clear hA hB hF
        go_wp2_with fail
        refine (hpa _ hE).mono ?_
        intro e wn hr
        obtain ⟨ga, rfl, hS_, hEn⟩ := parse_ok hr
        replace hE := hE.trans hEn
        clear hr hEn hS_ hpa
        go_wp2_with fail
        refine (hpb _ hE).mono ?_
        rintro e wn ⟨rfl, hEn⟩
        replace hE := hE.trans hEn
        clear hEn hpb
        go_wp2_with fail
        refine (hpf _ hE).mono ?_
        intro e wn hr
        obtain ⟨gf, rfl, hS_, hEn⟩ := parse_ok hr
        replace hE := hE.trans hEn
        clear hr hEn hS_ hpf
        go_wp2_with fail
        go_ret
        exact ⟨rfl, hE⟩
    | ok SB =>
      simp only [hB] at hpb
      obtain ⟨n1, qa, q4, b1, fa, f4, rfl⟩ := parse_sfx hA
      obtain ⟨n2, qb, q4', b2, fb, f4', rfl⟩ := parse_sfx hB
      obtain rfl : q4 = q4' := by rw [f4] at f4'; injection f4'
      obtain ⟨b0, hF⟩ := parse_both n1 n2 la lb fa fb f4
      simp only [hF] at hpf
      have okA := (parseS_ok hA).1
      have okB := (parseS_ok hB).1
      have okF := (parseS_ok hF).1
      have hfit := @fits_both qa qb q4 b0 b1 b2 (civM (t / 1440)) (civD (t / 1440)) (t / 60 % 24) (t % 60) ((t / 1440 + 6) % 7)
      clear hA hB hF n1 n2 fa fb f4 f4' la lb
      generalize tl a ++ sfx = xa at *
      generalize tl b ++ sfx = xb at *
      generalize tl a ++ 44 :: tl b ++ sfx = xf at *
      generalize Sp.mk ((qa ++ qb) :: q4) (b0 :: [true, true, true, true]) = SF at *
      generalize Sp.mk (qa :: q4) (b1 :: [true, true, true, true]) = SA at *
      generalize Sp.mk (qb :: q4) (b2 :: [true, true, true, true]) = SB at *
      go_wp2_with fail
      refine (hpa _ hE).mono ?_
      intro e w2 hr
      obtain ⟨ga, rfl, sA, hEn⟩ := parse_ok hr
      replace hE := hE.trans hEn
      clear hr hEn hpa
      go_wp2_with fail
      refine (hpb _ hE).mono ?_
      intro e w3 hr
      obtain ⟨gb, rfl, sB, hEn⟩ := parse_ok hr
      replace hE := hE.trans hEn
      replace sA := sA.ext hEn
      clear hr hEn hpb
      go_wp2_with fail
      refine (hpf _ hE).mono ?_
      intro e w4 hr
      obtain ⟨gf, rfl, sF, hEn⟩ := parse_ok hr
      replace hE := hE.trans hEn
      replace sA := sA.ext hEn
      replace sB := sB.ext hEn
      clear hr hEn hpf
      have hd := fun W : World => date_out W t (by omega) (by omega)
      have fA := fun {W : World} (hSp : SpecAt W ga SA xa) => fits_any W ga SA xa (civY (t / 1440)) (civM (t / 1440)) (civD (t / 1440)) (t / 60 % 24) (t % 60) ((t / 1440 + 6) % 7) hSp okA
      have fB := fun {W : World} (hSp : SpecAt W gb SB xb) => fits_any W gb SB xb (civY (t / 1440)) (civM (t / 1440)) (civD (t / 1440)) (t / 60 % 24) (t % 60) ((t / 1440 + 6) % 7) hSp okB
      have fF := fun {W : World} (hSp : SpecAt W gf SF xf) => fits_any W gf SF xf (civY (t / 1440)) (civM (t / 1440)) (civD (t / 1440)) (t / 60 % 24) (t % 60) ((t / 1440 + 6) % 7) hSp okF
      rw [hfit] at fF
      simp only [dtA, six] at hd fA fB fF
      clear hfit
      generalize civY (t / 1440) = cy at *
      generalize civM (t / 1440) = cm at *
      generalize civD (t / 1440) = cd at *
      generalize (t / 1440 + 6) % 7 = wk at *
      generalize t / 60 % 24 = hr_ at *
      generalize t % 60 = mi at *
      generalize SA.fits cm cd hr_ mi wk = FA at *
      generalize SB.fits cm cd hr_ mi wk = FB at *
      go_wp2_with fail
      refine (hd _).mono ?_
      rintro e w5 ⟨rfl, hE5⟩
      clear hd
      have hEa := (hE.trans hE5).trans (ext_alloc w5 (.cells (six cy cm cd hr_ mi wk) 32))
      have hbl := Blk.new w5 32 (six cy cm cd hr_ mi wk)
      have hX := hE5.trans (ext_alloc w5 (.cells (six cy cm cd hr_ mi wk) 32))
      go_upto_region 11 with fail
      refine gen_world' (fun X => Ext w X ∧ Ext w4 X ∧ Blk X w5.heap.size 32 (six cy cm cd hr_ mi wk)) ⟨hEa, hX, hbl⟩ ?_
      clear hEa hbl hX hE hE5
      rintro w6 ⟨hE, hX, hbl⟩
      replace sA := sA.ext hX
      replace sB := sB.ext hX
      replace sF := sF.ext hX
      generalize w5.heap.size = bx at *
      have HB : ∀ z : ExtOf w6, Blk z.val bx 32 (six cy cm cd hr_ mi wk) := fun z => hbl.of_eq (z.property.block _ hbl.lt)
      have d0 : ∀ z : ExtOf w6, z.val.cell? ⟨bx, 0, none⟩ = some (.int .i64 cy) := fun z => (six_cells (HB z)).1
      have d1 : ∀ z : ExtOf w6, z.val.cell? ⟨bx, 1, none⟩ = some (.int .i64 cm) := fun z => (six_cells (HB z)).2.1
      have d2 : ∀ z : ExtOf w6, z.val.cell? ⟨bx, 2, none⟩ = some (.int .i64 cd) := fun z => (six_cells (HB z)).2.2.1
      have d3 : ∀ z : ExtOf w6, z.val.cell? ⟨bx, 3, none⟩ = some (.int .i64 hr_) := fun z => (six_cells (HB z)).2.2.2.1
      have d4 : ∀ z : ExtOf w6, z.val.cell? ⟨bx, 4, none⟩ = some (.int .i64 mi) := fun z => (six_cells (HB z)).2.2.2.2.1
      have d5 : ∀ z : ExtOf w6, z.val.cell? ⟨bx, 5, none⟩ = some (.int .i64 wk) := fun z => (six_cells (HB z)).2.2.2.2.2
      have CA := fun z : ExtOf w6 => quiet_ext (fA (sA.ext z.property))
      have CB := fun z : ExtOf w6 => quiet_ext (fB (sB.ext z.property))
      have CF := fun z : ExtOf w6 => quiet_ext (fF (sF.ext z.property))
      clear fA fB fF sA sB sF hX HB hbl
      cases FA with
      | true =>
        refine region_ext (by kernel_rfl) (by kernel_rfl) ?_
        repeat (go_big_quiet_step (first | (with_reducible exact CF _) | (with_reducible exact CA _) | (with_reducible exact CB _)))
        refine wpQuiet_nil ?_
        intro wq hq
        obtain ⟨xq, rfl⟩ := hq
        have hEq := xq.property
        clear d0 d1 d2 d3 d4 d5 CA CB CF
        go_wp2_with fail
        go_ret
        exact ⟨rfl, hE.trans hEq⟩
      | false =>
        refine region_ext (by kernel_rfl) (by kernel_rfl) ?_
        repeat (go_big_quiet_step (first | (with_reducible exact CF _) | (with_reducible exact CA _) | (with_reducible exact CB _)))
        refine wpQuiet_nil ?_
        intro wq hq
        obtain ⟨xq, rfl⟩ := hq
        have hEq := xq.property
        clear d0 d1 d2 d3 d4 d5 CA CB CF
        go_wp2_with fail
        go_ret
        exact ⟨by simp, hE.trans hEq⟩
end Go.Proofs.YtmgpkadgalgnnaaDoor
