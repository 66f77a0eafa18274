/- QueueOrder, walked. -/
import Derived.Test.YtkpdhciomfanoaaHeldRow
import Derived.Test.YtkpdhciomfanoaaOrderPlain
import Derived.Test.YtkpdhciomfanoaaArgs
namespace Go.Proofs.Ytkpdhciomfanoaa
set_option linter.unusedVariables false
set_option linter.unusedSimpArgs false
open Go Go.RowKit Go.Maps Go.ChangeMaps Go.MapKept
theorem int64Info : (Try.prog.info? 2).map (fun i => (i.zero, i.size, i.bytes)) = some (some (.int .i64 0), 1, 8) := by kernel_rfl
def Bd (zs : List Int) : Prop := ∀ z ∈ zs, -9223372036854775808 ≤ z ∧ z ≤ 9223372036854775807
theorem Bd.get {zs : List Int} (h : Bd zs) (i : Nat) (hi : i < zs.length) : -9223372036854775808 ≤ zs.getD i 0 ∧ zs.getD i 0 ≤ 9223372036854775807 := h _ (by rw [List.getD_eq_getElem?_getD, List.getElem?_eq_getElem hi]; simp)
theorem take_getD (zs : List Int) (i : Nat) (hi : i < zs.length) : zs.take (i + 1) = zs.take i ++ [zs.getD i 0] := by
  rw [List.take_add_one, List.getD_eq_getElem?_getD, List.getElem?_eq_getElem hi]; rfl
theorem drop_getD (zs : List Int) (i : Nat) (hi : i < zs.length) : zs.drop i = zs.getD i 0 :: zs.drop (i + 1) := by
  rw [List.drop_eq_getElem_cons hi, List.getD_eq_getElem?_getD, List.getElem?_eq_getElem hi]; rfl
theorem actOk {x : Int} (h : -9223372036854775808 ≤ x ∧ x ≤ 9223372036854775807) : Ent.Ok ⟨1, 2, x, 0, 0⟩ := by
  obtain ⟨x1, x2⟩ := h
  exact ⟨⟨by simp, by simp, by simp, by simp, x1, x2⟩, by simp, by simp⟩
theorem acts_snoc (l : List Int) (x : Int) : acts (l ++ [x]) = acts l ++ [⟨1, 2, x, 0⟩] := by simp [acts, act]
theorem stay_nil (l : List Int) : stay [] l = l := by simp [stay]
theorem ownsRow_slice {w : World} {base : Nat} {e : TypeId} {size : Nat} {v : Value} {n : Nat} {xs : List Value} (h : w.ownsRow base e size v n xs) : ∃ p c, v = .slice p n c := by
  rcases h.2 with ⟨rfl, rfl⟩ | ⟨g, cap, cur, rfl, _⟩
  · exact ⟨_, _, rfl⟩
  · exact ⟨_, _, rfl⟩
theorem ownsRow_cell {w : World} {base : Nat} {e : TypeId} {p : Option Addr} {n m c : Nat} {xs : List Value} (h : w.ownsRow base e 1 (.slice p m c) n xs) (i : Nat) (hi : i < n) : ∃ a, p = some a ∧ w.cell? (a.add i) = some (xs.getD i (.int .i64 0)) := by
  rcases h.2 with ⟨_, rfl⟩ | ⟨g, cap, cur, hv, _⟩
  · omega
  · have hv' := hv
    injection hv with h1 h2 h3
    subst h1
    refine ⟨_, rfl, h.cells (g := g) rfl i _ ?_⟩
    have := h.1
    rw [List.getD_eq_getElem?_getD, List.getElem?_eq_getElem (by omega)]; rfl
theorem cell_one_new (w : World) (a : Value) (t : TypeId) : ∀ j u, [a][j]? = some u → (w.alloc (.cells #[a] t)).cell? ((⟨w.heap.size, 0, none⟩ : Addr).add j) = some u := by
  intro j u hj
  match j, hj with
  | 0, hj => simp at hj; subst hj; simp [Addr.add]
theorem row_snoc_head (l : List Int) (x : Int) : ∃ y : Int, l.map (Value.int .i64) ++ [Value.int .i64 x] = Value.int .i64 y :: (l.map (Value.int .i64) ++ [Value.int .i64 x]).tail := by
  cases l with
  | nil => exact ⟨x, rfl⟩
  | cons a l => exact ⟨a, rfl⟩
def OrdRel1 (w : World) (q : Nat) (ids : List Int) (v k : Value) (wr : World) : Prop :=
  ∃ i : Nat, i ≤ ids.length ∧ k = .int .i64 i ∧ HeldX w wr q (acts (wanted [] (ids.take i))) (fun b => v.ownBlock = some b) ∧ wr.ownsRow w.heap.size 2 1 v (wanted [] (ids.take i)).length ((wanted [] (ids.take i)).map (Value.int .i64))
def OrdRel2 (w : World) (q : Nat) (v : Value) (W gone : List Int) (k : Value) (wr : World) : Prop :=
  ∃ i : Nat, i ≤ gone.length ∧ k = .int .i64 i ∧ HeldX w wr q (acts (stay (gone.take i) W)) (fun b => v.ownBlock = some b) ∧ wr.ownsRow w.heap.size 2 1 v W.length (W.map (Value.int .i64))
def OrdRel3 (w : World) (q : Nat) (v : Value) (W gone : List Int) (k : Value) (wr : World) : Prop :=
  ∃ i : Nat, i ≤ W.length ∧ k = .int .i64 i ∧ HeldX w wr q (acts (stay gone (W.drop i))) (fun b => v.ownBlock = some b) ∧ wr.ownsRow w.heap.size 2 1 v W.length (W.map (Value.int .i64))
set_option maxRecDepth 100000 in
set_option maxHeartbeats 2000000 in
theorem order_any (w : World) (p1 p2 : Option Addr) (c1 c2 : Nat) (ids gone : List Int) (hI : NumsAt .i64 w p1 ids) (hG : NumsAt .i64 w p2 gone) (hIb : Bd ids) (hGb : Bd gone) :
    Calls Try.prog 4 #[.slice p1 ids.length c1, .slice p2 gone.length c2] w fun e w' => e = .returned (.bool true) ∧ Ext w w' := by
  obtain ⟨i0, hi0, hz0, hz1, hz2⟩ := info_parts int64Info
  go_enter Try.func4, Try.ntmps4
  go_wp2_with fail
  refine (waits_any w).mono ?_
  rintro e w1 ⟨rfl, hE⟩
  rcases (show (120 : Int) < ids.length ∨ (¬ (120 : Int) < ids.length ∧ (50 : Int) < gone.length) ∨ (¬ (120 : Int) < ids.length ∧ ¬ (50 : Int) < gone.length) by omega) with g | ⟨g1, g2⟩ | ⟨g1, g2⟩
  · go_wp2_with fail
    go_ret
    exact ⟨rfl, hE⟩
  · go_wp2_with fail
    go_ret
    exact ⟨rfl, hE⟩
  have hH : HeldX w (w1.alloc (.cells #[.pointer none, .pointer none, .map none] 28)) w1.heap.size [] (fun b => (Value.slice none 0 0).ownBlock = some b) := heldx_new (hE.alloc _) hE.le (Blk.new _ _ _) (by decide) (fun k hk => by simp [Value.ownBlock] at hk)
  have hown0 := World.ownsRow_nil (w1.alloc (.cells #[.pointer none, .pointer none, .map none] 28)) w.heap.size 2 1
  go_wp2_with fail
  generalize w1.heap.size = q at *
  generalize w1.alloc _ = W at *
  have G2 := Lib.hid g2
  clear g2
  go_loopw [6, 30] (fun v k wr => OrdRel1 w q ids v k wr) (fun _ k _ => (130 - intOf k).toNat)
  case atStart => exact ⟨0, by omega, rfl, by simpa [wanted, acts] using hH, by simpa [wanted] using hown0⟩
  case round =>
    clear hH hown0
    obtain ⟨i, hi, rfl, hH, hown⟩ := hrel
    have hwl := wanted_length (ids.take i) []
    simp at hwl
    by_cases gi : (i : Int) < ids.length
    · obtain ⟨a, rfl, hcell⟩ := hI.get hH.ext i (by omega)
      have HX := Lib.hid (hIb.get i (by omega))
      have htk := take_getD ids i (by omega)
      have hws := wanted_snoc (ids.take i) [] (ids.getD i 0)
      rw [← htk] at hws
      have HW := Lib.hid hws
      have HL := Lib.hid hwl
      clear hws htk hwl
      generalize ids.getD i 0 = x at *
      go_wp2_with fail
      have hok := actOk HX.out
      by_cases hc : (wanted [] (ids.take i)).contains x = true
      · refine (heldx_twice hH 1 2 x 0 hok (by rw [acts_any]; exact hc)).mono ?_
        rintro e w2 ⟨rfl, hH2, hE2⟩
        have hown2 := ownsRow_ext hown hE2
        clear hH hok hE2 hown
        go_wp2_with fail
        exact ⟨⟨i + 1, by omega, by go_num, by rw [HW.out, if_pos hc]; exact hH2, by rw [HW.out, if_pos hc]; exact hown2⟩, by simp [intOf]; omega⟩
      · have hc' : (wanted [] (ids.take i)).contains x = false := by simpa using hc
        have hlt : ((acts (wanted [] (ids.take i))).length : Int) < 128 := by have := HL.out; simp [acts]; omega
        refine (heldx_add hH 1 2 x 0 hok (by rw [acts_any]; exact hc') hlt).mono ?_
        rintro e w2 ⟨rfl, hH2, ht2⟩
        have hown2 := ownsRow_same hown (fun g hg => ht2.block g (hown.lt g hg).2 (fun h => h hg))
        clear hH hok hlt ht2 hown
        go_wp2_with (at_builtin; refine wpList_append_own _ rfl _ _ 37 rfl w.heap.size 2 i0 (.int .i64 0) 1 8 Try.underlying37 hi0 hz0 hz1 hz2 rfl (by decide) _ _ _ rfl (hown2.alloc _) ⟨w2.heap.size, 0, none⟩ 1 1 [.int .i64 x] rfl rfl ?c1 ?c2 ?c3 ?c4 ?c5 ?_)
        case c1 => exact cell_one_new _ _ _
        case c2 => intro u hu; simp at hu; subst hu; rfl
        case c3 => have := HL.out; unfold maxLen; omega
        case c4 => have := HL.out; omega
        case c5 => have := hH2.ext.le; simp; omega
        intro v' w3 hown3 hgrow _
        have hlen3 : (wanted [] (ids.take (i + 1))).length = (wanted [] (ids.take i)).length + 1 := by rw [HW.out, if_neg hc]; simp
        have hmap3 : (wanted [] (ids.take (i + 1))).map (Value.int .i64) = (wanted [] (ids.take i)).map (Value.int .i64) ++ [Value.int .i64 x] := by rw [HW.out, if_neg hc]; simp
        obtain ⟨y, hy⟩ := row_snoc_head (wanted [] (ids.take i)) x
        have hH3 := hH2.grow hown2 hgrow hown3 hy
        clear hy
        have HM := Lib.hid hlen3
        have HM2 := Lib.hid hmap3
        clear hlen3 hmap3 hown2 hgrow hH2
        go_wp2_with fail
        exact ⟨⟨i + 1, by omega, by go_num, by rw [HW.out, if_neg hc, acts_snoc]; exact hH3, by rw [HM.out, HM2.out]; exact hown3⟩, by simp [intOf]; omega⟩
    · have hi2 : i = ids.length := by omega
      subst hi2
      rw [List.take_length] at hH hown hwl
      have HL := Lib.hid hwl
      clear gi hi hI hIb hwl
      generalize hWd : wanted [] ids = Wd at *
      clear hWd
      obtain ⟨pv, cv, rfl⟩ := ownsRow_slice hown
      go_wp2_with fail
      obtain ⟨wo, rfl⟩ : ∃ wo : World, wo = wr := ⟨_, rfl⟩
      go_loopw [45] (fun k wr => OrdRel2 w q (.slice pv Wd.length cv) Wd gone k wr) (fun k _ => (130 - intOf k).toNat)
      case atStart => exact ⟨0, by omega, rfl, by rw [List.take_zero, stay_nil]; exact hH, hown⟩
      case round =>
        clear hH hown
        obtain ⟨i, hi, rfl, hH, hown⟩ := hrel
        have G := G2.out
        by_cases gi : (i : Int) < gone.length
        · obtain ⟨a, rfl, hcell⟩ := hG.get hH.ext i (by omega)
          have HX := Lib.hid (hGb.get i (by omega))
          have HT := Lib.hid (take_getD gone i (by omega))
          generalize gone.getD i 0 = x at *
          go_wp2_with fail
          refine (heldx_remove hH 1 2 x (actOk HX.out).key).mono ?_
          rintro e w2 ⟨rfl, hH2, ht2⟩
          have hown2 := ownsRow_same hown (fun g hg => ht2.block g (hown.lt g hg).2 (fun h => h hg))
          clear hH ht2 hown
          rw [acts_others, stay_snoc] at hH2
          go_wp2_with fail
          exact ⟨⟨i + 1, by omega, by go_num, by rw [HT.out]; exact hH2, hown2⟩, by simp [intOf]; omega⟩
        · have hi2 : i = gone.length := by omega
          subst hi2
          rw [List.take_length] at hH
          clear gi hi
          go_wp2_with fail
          obtain ⟨wo2, rfl⟩ : ∃ wo : World, wo = wr := ⟨_, rfl⟩
          go_loopw [55] (fun k wr => OrdRel3 w q (.slice pv Wd.length cv) Wd gone k wr) (fun k _ => (130 - intOf k).toNat)
          case atStart => exact ⟨0, by omega, rfl, by simpa using hH, hown⟩
          case round =>
            clear hH hown
            obtain ⟨i, hi, rfl, hH, hown⟩ := hrel
            have hwl := HL.out
            by_cases gi : (i : Int) < Wd.length
            · obtain ⟨a, rfl, hcell⟩ := ownsRow_cell hown i (by omega)
              have HT := Lib.hid (drop_getD Wd i (by omega))
              have hxx : (Wd.map (Value.int .i64)).getD i (.int .i64 0) = .int .i64 (Wd.getD i 0) := by
                rw [List.getD_eq_getElem?_getD, List.getD_eq_getElem?_getD, List.getElem?_map, List.getElem?_eq_getElem (by omega)]; rfl
              rw [hxx] at hcell
              clear hxx
              generalize Wd.getD i 0 = x at *
              go_wp2_with fail
              go_loop [13, 61] (fun o k => ∃ j : Nat, j ≤ gone.length ∧ k = .int .i64 j ∧ o = .bool ((gone.take j).contains x)) (fun _ k => (130 - intOf k).toNat)
              case atStart => exact ⟨0, by omega, rfl, by simp⟩
              case round =>
                obtain ⟨j, hj, rfl, rfl⟩ := hrel
                have G := G2.out
                by_cases gj : (j : Int) < gone.length
                · obtain ⟨a2, rfl, hcell2⟩ := hG.get hH.ext j (by omega)
                  have HT2 := Lib.hid (take_getD gone j (by omega))
                  generalize gone.getD j 0 = y at *
                  have HC : Hid ((gone.take (j + 1)).contains x = ((gone.take j).contains x || y == x)) := by
                    unfold Hid; rw [HT2.out, List.contains_eq_any_beq, List.contains_eq_any_beq, List.any_append]
                    simp [Bool.beq_comm, eq_comm]
                  rcases hb : (gone.take j).contains x with _ | _
                  · go_wp2_with fail
                    go_round
                    case rel => exact ⟨j + 1, by omega, by go_num, by rw [HC.out, hb]; simp⟩
                    case measure => simp [intOf]; omega
                  · go_wp2_with fail
                    go_round
                    case rel => exact ⟨j + 1, by omega, by go_num, by rw [HC.out, hb]; simp⟩
                    case measure => simp [intOf]; omega
                · have hj2 : j = gone.length := by omega
                  subst hj2
                  clear gj hj
                  rw [List.take_length]
                  rcases hb : gone.contains x with _ | _
                  · rw [HT.out, stay_cons_in _ _ _ hb] at hH
                    go_wp2_with fail
                    refine (heldx_take hH).mono ?_
                    rintro e w2 ⟨rfl, hH2, ht2⟩
                    have hown2 := ownsRow_same hown (fun g hg => ht2.block g (hown.lt g hg).2 (fun h => h hg))
                    clear hH ht2 hown
                    simp only [act] at *
                    go_wp2_with fail
                    exact ⟨⟨i + 1, by omega, by go_num, hH2.keep (ext_alloc _ _), hown2.alloc _⟩, by simp [intOf]; omega⟩
                  · rw [HT.out, stay_cons_out _ _ _ hb] at hH
                    go_wp2_with fail
                    exact ⟨⟨i + 1, by omega, by go_num, hH, hown⟩, by simp [intOf]; omega⟩
            · have hi2 : i = Wd.length := by omega
              subst hi2
              rw [List.drop_length] at hH
              clear gi hi
              go_wp2_with fail
              refine (heldx_len hH).mono ?_
              rintro e w3 ⟨rfl, hH3, hE3⟩
              have hE4 := hH3.ext
              clear hH3 hH hE3 hown
              go_wp2_with fail
              go_ret
              exact ⟨rfl, hE4⟩
end Go.Proofs.Ytkpdhciomfanoaa
