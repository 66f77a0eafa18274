/- Parts that came in: a slice of structs with bytes and a sum. -/
import Derived.Test.YtdaiondcaecklaaRRep
import Derived.Test.YtdaiondcaecklaaOpenB
import Derived.ChangeArms
import Derived.OpenShut
import Derived.Deep.Slices
namespace Go.Proofs.Ytdaiondcaecklaa
set_option linter.unusedVariables false
set_option linter.unusedSimpArgs false
open Go Go.RowKit Go.ChangeShapes Go.WideShapes Go.Deep
structure Prt where
  kind : Int
  n : Nat
  most : Nat
  p : Option Addr
  c : Nat
  bs : List UInt8
  sum : List UInt8
def Prt.cells (q : Prt) : List Value := [.int .i64 q.kind, .int .u64 q.n, .int .u64 q.most, .slice q.p q.bs.length q.c] ++ u8s q.sum
structure Prt.Ok (w : World) (q : Prt) : Prop where
  kind : -9223372036854775808 ≤ q.kind ∧ q.kind ≤ 9223372036854775807
  n : q.n < 18446744073709551616
  most : q.most < 18446744073709551616
  sum : q.sum.length = 32
  data : NumsAt .u8 w q.p (byI q.bs)
  nil_ : q.p = none → q.bs.length = 0 ∧ q.c = 0
  cap : q.bs.length ≤ q.c ∧ q.c ≤ maxLen
def PartsAt (w : World) (p : Option Addr) (ps : List Prt) : Prop :=
  ∀ i (h : i < ps.length), ∃ b o, p = some ⟨b, o, none⟩ ∧ b < w.heap.size ∧ (∀ j, j < 36 → w.cell? ⟨b, o + (i * 36 + j), none⟩ = ps[i].cells[j]?) ∧ ps[i].Ok w
theorem one_of {l : List Value} {i : Nat} (h : i < l.length) : (l.drop i).take 1 = [l[i]] := by
  rw [List.drop_eq_getElem_cons h]; rfl
section
variable {H : Type} {enc : TypeId × Value → H} {w : World} {base : Nat} {spare : Nat → Bool} {held : Bool}
theorem int_of {k : IntKind} {t : TypeId} {fuel : Nat} {v : Value} {x : DataW H × List MemPlace} (ht : Try.prog.underlying t = some (.int k)) (h : DataW.trod enc Try.prog w base spare held fuel t [v] = some x) : ∃ m, v = .int k m ∧ (Lit.int k m).wf = true := by
  obtain ⟨m, h1, _, h3⟩ := DataW.trod_int ht h
  injection h1 with h1
  exact ⟨m, h1, h3⟩
theorem bytes_of_cells {l : List Value} (h : ∀ i (hi : i < l.length), ∃ m, l[i] = .int .u8 m ∧ (Lit.int .u8 m).wf = true) : ∃ bs : List UInt8, l = u8s bs := by
  induction l with
  | nil => exact ⟨[], rfl⟩
  | cons v l ih =>
    obtain ⟨m, hv, hw⟩ := h 0 (by simp)
    obtain ⟨bs, hb⟩ := ih fun i hi => by
      obtain ⟨m, h1, h2⟩ := h (i + 1) (by simpa using hi)
      rw [List.getElem_cons_succ] at h1
      exact ⟨m, h1, h2⟩
    have hm := bd_u8 hw
    refine ⟨UInt8.ofNat m.toNat :: bs, ?_⟩
    simp only [List.getElem_cons_zero] at hv
    rw [hv, hb]
    simp [u8s]
    omega
theorem open_part {fuel : Nat} {cs : List Value} {x : DataW H × List MemPlace} (h : DataW.trod enc Try.prog w base spare held fuel 52 cs = some x) : ∃ q : Prt, cs = q.cells ∧ q.Ok w := by
  obtain ⟨xs, n, _, _, hl, hxl, hf⟩ := DataW.trod_struct Try.underlying52 h
  have hc : Try.prog.cellsOf 52 = 36 := by kernel_rfl
  rw [hc] at hl
  have hx : xs.length = 5 := hxl
  have gx : ∀ i, i < 5 → ∃ y, xs[i]? = some y := fun i hi => ⟨xs[i]'(by omega), List.getElem?_eq_getElem (by omega)⟩
  have c3 : Try.prog.cellsOf 3 = 1 := by kernel_rfl
  have c27 : Try.prog.cellsOf 27 = 1 := by kernel_rfl
  have c23 : Try.prog.cellsOf 23 = 1 := by kernel_rfl
  have c5 : Try.prog.cellsOf 5 = 1 := by kernel_rfl
  have c45 : Try.prog.cellsOf 45 = 32 := by kernel_rfl
  have h0 : DataW.trod enc Try.prog w base spare held n 3 ((cs.drop 0).take (Try.prog.cellsOf 3)) = xs[0]? := hf 0 _ rfl
  have h1 : DataW.trod enc Try.prog w base spare held n 27 ((cs.drop 1).take (Try.prog.cellsOf 27)) = xs[1]? := hf 1 _ rfl
  have h2 : DataW.trod enc Try.prog w base spare held n 27 ((cs.drop 2).take (Try.prog.cellsOf 27)) = xs[2]? := hf 2 _ rfl
  have h3 : DataW.trod enc Try.prog w base spare held n 23 ((cs.drop 3).take (Try.prog.cellsOf 23)) = xs[3]? := hf 3 _ rfl
  have h4 : DataW.trod enc Try.prog w base spare held n 45 ((cs.drop 4).take (Try.prog.cellsOf 45)) = xs[4]? := hf 4 _ rfl
  obtain ⟨y0, e0⟩ := gx 0 (by omega)
  obtain ⟨y1, e1⟩ := gx 1 (by omega)
  obtain ⟨y2, e2⟩ := gx 2 (by omega)
  obtain ⟨y3, e3⟩ := gx 3 (by omega)
  obtain ⟨y4, e4⟩ := gx 4 (by omega)
  rw [e0] at h0; rw [e1] at h1; rw [e2] at h2; rw [e3] at h3; rw [e4] at h4
  rw [c3] at h0
  rw [c27] at h1 h2
  rw [c23] at h3
  rw [c45] at h4
  rw [one_of (i := 0) (by omega)] at h0
  rw [one_of (i := 1) (by omega)] at h1
  rw [one_of (i := 2) (by omega)] at h2
  rw [one_of (i := 3) (by omega)] at h3
  obtain ⟨kind, k1, w1⟩ := int_of Try.underlying3 h0
  obtain ⟨nn, k2, w2⟩ := int_of Try.underlying27 h1
  obtain ⟨mm, k3, w3⟩ := int_of Try.underlying27 h2
  obtain ⟨zs, m4, _, _, hl4, hz, hel⟩ := DataW.trod_array Try.underlying45 h4
  rw [c45] at hl4
  have hrl : ((cs.drop 4).take 32).length = 32 := hl4
  have htk : (cs.drop 4).take 32 = cs.drop 4 := List.take_of_length_le (by simp; omega)
  rw [htk] at hel hrl
  obtain ⟨sm, hsm⟩ := bytes_of_cells (l := cs.drop 4) (fun i hi => by
    have := hel i (by omega)
    rw [c5, Nat.mul_one, one_of hi] at this
    have hzi : zs[i]? = some (zs[i]'(by omega)) := List.getElem?_eq_getElem (by omega)
    rw [hzi] at this
    exact int_of Try.underlying5 this)
  have hcs : cs = cs[0] :: cs[1] :: cs[2] :: cs[3] :: cs.drop 4 := by
    conv => lhs; rw [← List.drop_zero (l := cs), List.drop_eq_getElem_cons (by omega), List.drop_eq_getElem_cons (by omega), List.drop_eq_getElem_cons (by omega), List.drop_eq_getElem_cons (by omega)]
  have b2 := bd_u64 w2
  have b3 := bd_u64 w3
  have hdata : ∃ p c bs, cs[3] = .slice p bs.length c ∧ NumsAt .u8 w p (byI bs) ∧ (p = none → bs.length = 0 ∧ c = 0) ∧ bs.length ≤ c ∧ c ≤ maxLen := by
    rcases open_ints Try.underlying23 Try.underlying5 c5 h3 with ⟨hv, _⟩ | ⟨a, len', cap', zs', hv, _, hl', hm', hz', _, hcell, hwz⟩
    · injection hv with hv
      exact ⟨none, 0, [], hv, fun i hi => absurd hi (by simp [byI]), fun _ => ⟨rfl, rfl⟩, by simp, by simp⟩
    · injection hv with hv
      have hlz : len' ≤ zs'.length := by rw [hz']; split <;> omega
      obtain ⟨bs, hbs⟩ := bytes_of (zs := zs'.take len') (fun n hn => hwz n (List.mem_of_mem_take hn))
      have htl : (zs'.take len').length = len' := by simp; omega
      have hbl : bs.length = len' := by rw [← htl, hbs, byI_length]
      refine ⟨some a, cap', bs, by rw [hbl]; exact hv, fun i hi => ?_, fun h => (by cases h), by omega, hm'⟩
      rw [byI_length] at hi
      have h1 := hcell i (by omega)
      have hb : (a.add i).block = a.block := by unfold Addr.add; first | rfl | (split <;> rfl)
      refine ⟨a, rfl, hb ▸ World.block_lt_of_cell? w _ h1, ?_⟩
      rw [h1, ← hbs]
      congr 2
      rw [List.getD_eq_getElem?_getD, List.getD_eq_getElem?_getD, List.getElem?_take, if_pos (by omega)]
  obtain ⟨p, c, bs, hd1, hd2, hd3, hd4⟩ := hdata
  refine ⟨⟨kind, nn.toNat, mm.toNat, p, c, bs, sm⟩, ?_, ⟨bd_i64 w1, by show nn.toNat < _; omega, by show mm.toNat < _; omega, ?_, hd2, hd3, hd4⟩⟩
  · rw [hcs, k1, k2, k3, hd1, hsm]
    have e2 : ((nn.toNat : Nat) : Int) = nn := Int.toNat_of_nonneg b2.1
    have e3 : ((mm.toNat : Nat) : Int) = mm := Int.toNat_of_nonneg b3.1
    simp only [Prt.cells, e2, e3]
    rfl
  · have := congrArg List.length hsm
    rw [hrl, u8s_length] at this
    exact this.symm
theorem open_parts {b0 : Nat} {r : Reach} {v : Value} {d : DataW H} {pl : List MemPlace} (hval : Value.okWide Try.prog w r b0 48 v) (h : DataW.Trod enc Try.prog w base spare held 48 v d pl) :
    ∃ p c ps, v = .slice p ps.length c ∧ PartsAt w p ps := by
  obtain ⟨a0, len, cap, rfl⟩ := okWide_slice Try.underlying48 hval
  obtain ⟨fuel, hf⟩ := h
  rcases open_slice Try.underlying48 hf with ⟨hcs, hx⟩ | ⟨a, len', cap', m, n, D, Pl, hcs, hb, hl, hm, hmm, hx, hel⟩
  · simp [Value.cells] at hcs
    obtain ⟨rfl, rfl, rfl⟩ := hcs
    exact ⟨none, 0, [], rfl, fun i hi => absurd hi (by simp)⟩
  · simp [Value.cells] at hcs
    obtain ⟨rfl, rfl, rfl⟩ := hcs
    have hlm : len ≤ m := by rw [hmm]; split <;> omega
    have hc : Try.prog.cellsOf 52 = 36 := by kernel_rfl
    rw [hc] at hel
    have key : ∀ i, i < len → ∃ q : Prt, (∀ j, j < 36 → w.cell? (a.add (i * 36 + j)) = q.cells[j]?) ∧ q.Ok w := by
      intro i hi
      obtain ⟨cs', h1, h2⟩ := hel i (by omega)
      obtain ⟨q, rfl, hq⟩ := open_part h2
      obtain ⟨_, hcl, hat⟩ := World.cells?_some h1
      exact ⟨q, fun j hj => by rw [← Go.Deep.add_add]; exact hat j hj, hq⟩
    have : ∀ k, k ≤ len → ∃ ps : List Prt, ps.length = k ∧ ∀ i (h : i < ps.length), (∀ j, j < 36 → w.cell? (a.add (i * 36 + j)) = ps[i].cells[j]?) ∧ ps[i].Ok w := by
      intro k
      induction k with
      | zero => exact fun _ => ⟨[], rfl, fun i hi => absurd hi (by simp)⟩
      | succ k ih =>
        intro hk
        obtain ⟨ps, h1, h2⟩ := ih (by omega)
        obtain ⟨q, h3, h4⟩ := key k (by omega)
        refine ⟨ps ++ [q], by simp [h1], fun i hi => ?_⟩
        rcases Nat.lt_or_ge i ps.length with h | h
        · rw [List.getElem_append_left h]; exact h2 i h
        · have hik : i = k := by simp at hi; omega
          subst hik
          rw [List.getElem_append_right (by omega)]
          simp only [h1, Nat.sub_self, List.getElem_cons_zero]
          exact ⟨h3, h4⟩
    obtain ⟨ps, h1, h2⟩ := this len (Nat.le_refl _)
    refine ⟨some a, cap, ps, by rw [h1], fun i hi => ?_⟩
    obtain ⟨h3, h4⟩ := h2 i hi
    obtain ⟨b, o, sp⟩ := a
    have hq0 : ps[i].cells[0]? = some (.int .i64 ps[i].kind) := rfl
    have hc0 := h3 0 (by omega)
    rw [hq0] at hc0
    have hsp : sp = none := by
      have h5 := (h2 0 (by omega)).1 0 (by omega)
      have hq1 : (ps[0]'(by omega)).cells[0]? = some (.int .i64 (ps[0]'(by omega)).kind) := rfl
      rw [hq1] at h5
      simpa [Addr.add] using World.cell?_spot h5
    subst hsp
    refine ⟨b, o, rfl, ?_, fun j hj => by rw [← Go.WideShapes.add_plain]; exact h3 j hj, h4⟩
    have := World.block_lt_of_cell? w _ hc0
    rw [Go.WideShapes.add_plain] at this
    exact this
end
end Go.Proofs.Ytdaiondcaecklaa
