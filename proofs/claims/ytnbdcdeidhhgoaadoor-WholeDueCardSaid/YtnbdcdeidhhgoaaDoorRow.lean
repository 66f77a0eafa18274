/- DERIVED LEMMAS, OF NO PROGRAM: append to a row of one's own: the row lies where it lay, or in a new block. -/
import Derived.Test.YtnbdcdeidhhgoaaDoorSep
import Derived.Laws.AppendOwn
import Derived.Laws.OwnMore
import Derived.Lib.AppendStr
namespace Go.Proofs.YtnbdcdeidhhgoaaDoor
set_option maxRecDepth 4000
set_option linter.unusedVariables false
set_option linter.unusedSimpArgs false
open Go Go.RowKit
section
variable {P : Program} {w : World}
/-- the row lies where it lay, or in a new block; it is nil only if it was -/
def Fresh (w : World) (v v' : Value) : Prop := (∀ k, v'.ownBlock = some k → v.ownBlock = some k ∨ w.heap.size ≤ k) ∧ (v.ownBlock ≠ none → v'.ownBlock ≠ none)
theorem append_fresh (t ty e : TypeId) (i : TypeInfo) (z : Value) (size bytes : Nat) (ht : P.underlying t = some (.slice e)) (hi : P.info? e = some i) (hz : i.zero = some z)
    (hsize : i.size = size) (hby : i.bytes = bytes) (v : Value) (n : Nat) (xs : List Value) (hown : w.ownsRow 0 e size v n xs)
    (a : Addr) (m c : Nat) (news : List Value) (hl : news.length = m * size) (hnews : ∀ j u, news[j]? = some u → w.cell? (a.add j) = some u) (h1 : ∀ u ∈ news, u.oneCell' = true)
    (h63 : n + m ≤ maxLen) (hbytes : (n + m) * bytes ≤ 140737488355328) :
    ∃ v' w', (Builtin.append_ #[t, t] ty #[v, .slice (some a) m c]).run P w = .ok v' w' ∧ Fresh w v v' := by
  subst hsize
  subst hby
  have hsmall : n + m ≤ 9223372036854775807 := by simp only [maxLen] at h63; omega
  have new : ∀ (a b : Nat), Fresh w v (.slice (some ⟨w.heap.size, 0, none⟩) a b) := fun a b => ⟨fun k hk => Or.inr (by simp [Value.ownBlock] at hk; omega), fun _ => by simp [Value.ownBlock]⟩
  rcases hown.2 with ⟨rfl, rfl⟩ | ⟨g, cap, cur, rfl, hbg, hg, hnc, hcm, hcs, htake⟩
  · by_cases hm : m = 0
    · subst hm
      have hn : news = [] := List.eq_nil_of_length_eq_zero (by simpa using hl)
      subst hn
      refine ⟨.slice none 0 0, w, ?_, ⟨fun k hk => by simp [Value.ownBlock] at hk, fun h => h⟩⟩
      simp [Builtin.append_, run_underlying ht, sizeOf, typeInfo, hi, Builtin.lenOf, Builtin.firstCells, loadCells, loadCellsFrom]
    · exact ⟨_, _, run_append_nil (P := P) w t ty e i z ht hi hz a m c news hl hnews (by omega) (by omega) (by have hb := hbytes; simp only [Nat.zero_add] at hb; omega), new _ _⟩
  · by_cases hroom : n + m ≤ cap
    · have hfit : n * i.size + news.length ≤ cur.size := by rw [hl, hcs, ← Nat.add_mul]; exact Nat.mul_le_mul_right _ hroom
      exact ⟨_, _, run_append_room (P := P) w t ty e i ht hi g n cap cur hg a m c news hl hnews h1 hroom hfit, ⟨fun k hk => Or.inl hk, fun _ => by simp [Value.ownBlock]⟩⟩
    · have holds : ∀ j u, xs[j]? = some u → w.cell? ((⟨g, 0, none⟩ : Addr).add j) = some u := hown.cells (g := g) rfl
      exact ⟨_, _, run_append_grow (P := P) w t ty e i z ht hi hz ⟨g, 0, none⟩ n cap xs hown.1 holds a m c news hl hnews (by omega) (by omega) (growslice_fits (by omega) hbytes), new _ _⟩
theorem append_new_run (t ty e : TypeId) (i : TypeInfo) (z : Value) (size bytes : Nat) (ht : P.underlying t = some (.slice e)) (hi : P.info? e = some i) (hz : i.zero = some z)
    (hsize : i.size = size) (hby : i.bytes = bytes) (hzs : z.cells.size = size) (hsz : 0 < size) (v : Value) (n : Nat) (xs : List Value) (hown : w.ownsRow 0 e size v n xs)
    (p : Option Addr) (m c : Nat) (news : List Value) (hl : news.length = m * size) (hp : p = none → m = 0 ∧ c = 0) (hnews : ∀ a, p = some a → ∀ j u, news[j]? = some u → w.cell? (a.add j) = some u) (h1 : ∀ u ∈ news, u.oneCell' = true)
    (h63 : n + m ≤ maxLen) (hbytes : (n + m) * bytes ≤ 140737488355328) :
    ∃ v' w', (Builtin.append_ #[t, t] ty #[v, .slice p m c]).run P w = .ok v' w' ∧ w'.ownsRow 0 e size v' (n + m) (xs ++ news) ∧ w.grownBy w' v.ownBlock ∧ Fresh w v v' := by
  cases p with
  | none =>
    obtain ⟨rfl, rfl⟩ := hp rfl
    have hn : news = [] := List.eq_nil_of_length_eq_zero (by simpa using hl)
    subst hn
    refine ⟨v, w, run_append_owned_none (P := P) w 0 t ty e i size ht hi v n xs hown, by simpa using hown, ⟨rfl, rfl, rfl, Nat.le_refl _, fun _ _ _ => rfl⟩, ⟨fun k hk => Or.inl hk, fun h => h⟩⟩
  | some a =>
    obtain ⟨v', w', hr, h2, h3, -⟩ := run_append_own (P := P) w 0 t ty e i z size bytes ht hi hz hsize hby hzs hsz v n xs hown a m c news hl (hnews a rfl) h1 h63 hbytes (Nat.zero_le _)
    obtain ⟨v2, w2, hr2, hf⟩ := append_fresh (P := P) t ty e i z size bytes ht hi hz hsize hby v n xs hown a m c news hl (hnews a rfl) h1 h63 hbytes
    rw [hr] at hr2
    injection hr2 with e1 e2
    subst e1 e2
    exact ⟨_, _, hr, h2, h3, hf⟩
theorem wp_append_new {o : Oper} {a : Act} {K : Act → World → Prop} {Q : Exit → Act → World → Prop} (s x : Operand) (t : TypeId)
    (ho : o.op = .call { callee := .builtin .append, args := #[s, x], argTypes := #[t, t] })
    (e : TypeId) (i : TypeInfo) (z : Value) (size bytes : Nat) (ht : P.underlying t = some (.slice e)) (hi : P.info? e = some i) (hz : i.zero = some z)
    (hsize : i.size = size) (hby : i.bytes = bytes) (hzs : z.cells.size = size) (hsz : 0 < size)
    (v : Value) (n : Nat) (xs : List Value) (hs : a.eval s = v) (hown : w.ownsRow 0 e size v n xs)
    (p : Option Addr) (m c : Nat) (news : List Value) (hx : a.eval x = .slice p m c) (hl : news.length = m * size) (hp : p = none → m = 0 ∧ c = 0) (hnews : ∀ a, p = some a → ∀ j u, news[j]? = some u → w.cell? (a.add j) = some u) (h1 : ∀ u ∈ news, u.oneCell' = true)
    (h63 : n + m ≤ maxLen) (hbytes : (n + m) * bytes ≤ 140737488355328)
    (h : ∀ v' w', w'.ownsRow 0 e size v' (n + m) (xs ++ news) → w.grownBy w' v.ownBlock → Fresh w v v' → K (a.put o.dst v') w') : o.wp P a w K Q := by
  obtain ⟨v', w', hr, h2, h3, h4⟩ := append_new_run (P := P) t o.type e i z size bytes ht hi hz hsize hby hzs hsz v n xs hown p m c news hl hp hnews h1 h63 hbytes
  unfold Oper.wp execOp
  simp only [ho, resolve, invoke, builtin, Sem.run_bind, Sem.run_pure, Result.andThen_ok, List.map_toArray, List.map_cons, List.map_nil, hs, hx, hr]
  exact h v' w' h2 h3 h4
theorem wpList_append_new {ops : Array Oper} {rest : List Oper} {o : Oper} {a : Act} {Q : Exit → Act → World → Prop} (hgd : o.guard = none) (s x : Operand) (t : TypeId)
    (ho : o.op = .call { callee := .builtin .append, args := #[s, x], argTypes := #[t, t] })
    (e : TypeId) (i : TypeInfo) (z : Value) (size bytes : Nat) (ht : P.underlying t = some (.slice e)) (hi : P.info? e = some i) (hz : i.zero = some z)
    (hsize : i.size = size) (hby : i.bytes = bytes) (hzs : z.cells.size = size) (hsz : 0 < size)
    (v : Value) (n : Nat) (xs : List Value) (hs : a.eval s = v) (hown : w.ownsRow 0 e size v n xs)
    (p : Option Addr) (m c : Nat) (news : List Value) (hx : a.eval x = .slice p m c) (hl : news.length = m * size) (hp : p = none → m = 0 ∧ c = 0) (hnews : ∀ a, p = some a → ∀ j u, news[j]? = some u → w.cell? (a.add j) = some u) (h1 : ∀ u ∈ news, u.oneCell' = true)
    (h63 : n + m ≤ maxLen) (hbytes : (n + m) * bytes ≤ 140737488355328)
    (h : ∀ v' w', w'.ownsRow 0 e size v' (n + m) (xs ++ news) → w.grownBy w' v.ownBlock → Fresh w v v' → wpList P ops Q rest (a.put o.dst v') w') : wpList P ops Q (o :: rest) a w :=
  wpList_plain hgd fun _ hK => wp_append_new s x t ho e i z size bytes ht hi hz hsize hby hzs hsz v n xs hs hown p m c news hx hl hp hnews h1 h63 hbytes fun v' w' h2 h3 h4 => hK _ _ (h v' w' h2 h3 h4)
theorem append_str_fresh (t u ty e : TypeId) (i : TypeInfo) (ht : P.underlying t = some (.slice e)) (hu : P.underlying u = some .string) (hi : P.info? e = some i) (hz : i.zero = some (.int .u8 0))
    (hsize : i.size = 1) (hby : i.bytes = 1) (v : Value) (n : Nat) (xs : List Value) (hown : w.ownsRow 0 e 1 v n xs) (s : ByteArray)
    (h63 : n + s.size ≤ maxLen) (hbytes : n + s.size ≤ 140737488355328) :
    ∃ v' w', (Builtin.append_ #[t, u] ty #[v, .string s]).run P w = .ok v' w' ∧ Fresh w v v' := by
  have hsmall : n + s.size ≤ 9223372036854775807 := by simp only [maxLen] at h63; omega
  have hxl : xs.length = n := by simpa using hown.1
  have new : ∀ (a b : Nat), Fresh w v (.slice (some ⟨w.heap.size, 0, none⟩) a b) := fun a b => ⟨fun k hk => Or.inr (by simp [Value.ownBlock] at hk; omega), fun _ => by simp [Value.ownBlock]⟩
  rcases hown.2 with ⟨rfl, rfl⟩ | ⟨g, cap, cur, rfl, hbg, hg, hnc, hcm, hcs, htake⟩
  · by_cases hm : s.size = 0
    · refine ⟨.slice none 0 0, w, ?_, ⟨fun k hk => by simp [Value.ownBlock] at hk, fun h => h⟩⟩
      have hf := Go.Lib.run_firstCells_string (P := P) w 1 s
      rw [hm] at hf
      simp [Builtin.append_, run_underlying ht, run_underlying hu, sizeOf, typeInfo, hi, hsize, Builtin.lenOf, hm, hf]
    · exact ⟨_, _, run_append_nil_string (P := P) w t u ty e i (.int .u8 0) ht hu hi hz s (by omega) (by omega) (by rw [hby]; omega), new _ _⟩
  · by_cases hroom : n + s.size ≤ cap
    · have hcs' : cur.size = cap := by simpa using hcs
      exact ⟨_, _, Go.Lib.run_append_room_string (P := P) w t u ty e i ht hu hi hsize g n cap cur hg s hroom (by omega), ⟨fun k hk => Or.inl hk, fun _ => by simp [Value.ownBlock]⟩⟩
    · have holds : ∀ j u, xs[j]? = some u → w.cell? ((⟨g, 0, none⟩ : Addr).add j) = some u := hown.cells (g := g) rfl
      exact ⟨_, _, Go.Lib.run_append_grow_string (P := P) w t u ty e i (.int .u8 0) ht hu hi hz ⟨g, 0, none⟩ n cap xs (by rw [hsize]; simpa using hxl) holds s (by omega) (by omega) (by rw [hby]; exact growslice_fits (by omega) (by omega)), new _ _⟩
theorem wpList_append_str_new {ops : Array Oper} {rest : List Oper} {o : Oper} {a : Act} {Q : Exit → Act → World → Prop} (hgd : o.guard = none) (sl x : Operand) (t u : TypeId)
    (ho : o.op = .call { callee := .builtin .append, args := #[sl, x], argTypes := #[t, u] })
    (e : TypeId) (i : TypeInfo) (ht : P.underlying t = some (.slice e)) (hu : P.underlying u = some .string) (hi : P.info? e = some i) (hz : i.zero = some (.int .u8 0))
    (hsize : i.size = 1) (hby : i.bytes = 1)
    (v : Value) (n : Nat) (xs : List Value) (hs : a.eval sl = v) (hown : w.ownsRow 0 e 1 v n xs) (s : ByteArray) (hx : a.eval x = .string s)
    (h63 : n + s.size ≤ maxLen) (hbytes : n + s.size ≤ 140737488355328)
    (h : ∀ v' w', w'.ownsRow 0 e 1 v' (n + s.size) (xs ++ Go.Lib.strCells s) → w.grownBy w' v.ownBlock → Fresh w v v' → wpList P ops Q rest (a.put o.dst v') w') : wpList P ops Q (o :: rest) a w := by
  refine wpList_plain hgd fun K hK => ?_
  obtain ⟨v', w', hr, h2, h3, -⟩ := Go.Lib.run_append_own_string (P := P) w 0 t u o.type e i ht hu hi hz hsize hby v n xs hown s h63 hbytes (Nat.zero_le _)
  obtain ⟨v2, w2, hr2, hf⟩ := append_str_fresh (P := P) t u o.type e i ht hu hi hz hsize hby v n xs hown s h63 hbytes
  rw [hr] at hr2
  injection hr2 with e1 e2
  subst e1 e2
  unfold Oper.wp execOp
  simp only [ho, resolve, invoke, builtin, Sem.run_bind, Sem.run_pure, Result.andThen_ok, List.map_toArray, List.map_cons, List.map_nil, hs, hx, hr]
  exact hK _ _ (h _ _ h2 h3 hf)
theorem news_new (w : World) (cs : List Value) (t : TypeId) : ∀ a, some (⟨w.heap.size, 0, none⟩ : Addr) = some a → ∀ j u, cs[j]? = some u → (w.alloc (.cells cs.toArray t)).cell? (a.add j) = some u := by
  intro a ha j u hj
  injection ha with ha
  subst ha
  have h : (w.alloc (.cells cs.toArray t)).heap[w.heap.size]? = some (.cells cs.toArray t (0, 0)) := heap_alloc_new w _
  rw [Go.WideShapes.add_plain, Nat.zero_add, cell_of_row _ _ j cs.toArray t (0, 0) h]
  simpa using hj
theorem oneC1 (k : IntKind) (x : Int) : ∀ u ∈ [Value.int k x], u.oneCell' = true := by intro u hu; simp at hu; subst hu; rfl
theorem oneC4 (k : IntKind) (x y z t : Int) : ∀ u ∈ [Value.int k x, Value.int k y, Value.int k z, Value.int k t], u.oneCell' = true := by intro u hu; simp at hu; rcases hu with rfl | rfl | rfl | rfl <;> rfl
theorem row_nil {base : Nat} {e : TypeId} {size n c : Nat} {p : Option Addr} {xs : List Value} (h : w.ownsRow base e size (.slice p n c) n xs) : p = none → n = 0 ∧ c = 0 := by
  rintro rfl
  rcases h.2 with ⟨hv, hn⟩ | ⟨g, cap, cur, hv, _⟩
  · injection hv with _ _ hc; exact ⟨hn, hc⟩
  · injection hv with h1; cases h1
theorem row_news {base : Nat} {e : TypeId} {size n c : Nat} {p : Option Addr} {xs : List Value} (h : w.ownsRow base e size (.slice p n c) n xs) : ∀ a, p = some a → ∀ j u, xs[j]? = some u → w.cell? (a.add j) = some u := by
  rintro a rfl
  rcases h.2 with ⟨hv, _⟩ | ⟨g, cap, cur, hv, _⟩
  · injection hv with h1; cases h1
  · have h1 := h.cells (g := g) (by rw [hv]; rfl)
    injection hv with h2
    injection h2 with h2
    rw [h2]; exact h1
theorem Fresh.refl (w : World) (v : Value) : Fresh w v v := ⟨fun _ h => Or.inl h, fun h => h⟩
theorem grownBy.tch {w w' : World} {v : Value} (h : w.grownBy w' v.ownBlock) : Tch (fun k => v.ownBlock = some k) w w' :=
  (Tch.refl _ _).grown h (fun g hg _ => hg)
end
theorem fresh_ext {W0 W X : World} {v v' : Value} (hE : Ext W0 W) (hv : ∀ k, v.ownBlock = some k → W0.heap.size ≤ k) (hg : W.grownBy X v.ownBlock) (hf : Fresh W v v') : Ext W0 X ∧ ∀ k, v'.ownBlock = some k → W0.heap.size ≤ k := by
  refine ⟨hE.grown hg hE.le hv, fun k hk => ?_⟩
  rcases hf.1 k hk with h1 | h1
  · exact hv k h1
  · exact Nat.le_trans hE.le h1
end Go.Proofs.YtnbdcdeidhhgoaaDoor
