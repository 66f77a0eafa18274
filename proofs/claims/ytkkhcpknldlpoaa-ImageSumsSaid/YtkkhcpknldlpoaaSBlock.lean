/- block: what it computes. -/
import Derived.Test.YtkkhcpknldlpoaaSSpread
namespace Go.Proofs.Ytkkhcpknldlpoaa
set_option maxRecDepth 4000
set_option linter.unusedVariables false
set_option linter.unusedSimpArgs false
open Go Go.RowKit
abbrev StA (g : Nat) (l : List W32) : Asr := WdA 137 g l
theorem StA_loc (g : Nat) (l : List W32) : Loc (StA g l) := blkA_loc _ _ _
theorem stSize {l : List W32} (h : l.length = 8) : (Try.prog.info? 137).map (·.size) = some (u32s l).toArray.size := by
  rw [stInfo]; simp [u32s, h]
def cA (t n g : Nat) (X : World) : Prop := ∃ cs : List W32, cs.length = n ∧ Blk X g t (u32s cs).toArray
theorem cA.ext {t n g : Nat} {X Y : World} (h : cA t n g X) (hE : Ext X Y) : cA t n g Y := by
  obtain ⟨cs, h1, h2⟩ := h
  exact ⟨cs, h1, h2.of_eq (hE.block _ h2.lt)⟩
structure ClsR (W : World) (oa ob : Option Nat) (X : World) : Prop where
  ext : Ext W X
  a : ∀ g, oa = some g → W.heap.size ≤ g ∧ cA 152 64 g X
  b : ∀ g, ob = some g → W.heap.size ≤ g ∧ cA 137 8 g X
theorem ClsR.go {W X Y : World} {oa ob : Option Nat} (h : ClsR W oa ob X) (hE : Ext X Y) : ClsR W oa ob Y :=
  ⟨h.ext.trans hE, fun g hg => ⟨(h.a g hg).1, (h.a g hg).2.ext hE⟩, fun g hg => ⟨(h.b g hg).1, (h.b g hg).2.ext hE⟩⟩
theorem ClsR.dropA {W X : World} {oa ob : Option Nat} (h : ClsR W oa ob X) : ClsR W none ob X := ⟨h.ext, fun g hg => (by cases hg), h.b⟩
theorem ClsR.dropB {W X : World} {oa ob : Option Nat} (h : ClsR W oa ob X) : ClsR W oa none X := ⟨h.ext, h.a, fun g hg => (by cases hg)⟩
theorem ClsR.allocA {W X : World} {ob : Option Nat} (h : ClsR W none ob X) : ClsR W (some X.heap.size) ob (X.alloc (.cells (u32s (zw 64)).toArray 152)) :=
  ⟨h.ext.alloc _, fun g hg => by injection hg with hg; subst hg; exact ⟨h.ext.le, zw 64, by simp [zw], Blk.new _ _ _⟩, (h.go (ext_alloc _ _)).b⟩
theorem ClsR.allocB {W X : World} {oa : Option Nat} (h : ClsR W oa none X) : ClsR W oa (some X.heap.size) (X.alloc (.cells (u32s (zw 8)).toArray 137)) :=
  ⟨h.ext.alloc _, (h.go (ext_alloc _ _)).a, fun g hg => by injection hg with hg; subst hg; exact ⟨h.ext.le, zw 8, by simp [zw], Blk.new _ _ _⟩⟩
structure ClsS (W : World) (ga gb : Nat) (l : List W32) (X : World) : Prop where
  r : ClsR W (some ga) (some gb) X
  a : Blk X ga 152 (u32s l).toArray
theorem ClsR.put {W X : World} {ga gb : Nat} {l : List W32} (h : ClsR W (some ga) (some gb) X) (hl : l.length = 64) : ClsS W ga gb l (X.setRow ga (u32s l).toArray) := by
  obtain ⟨h1, cs, h2, h3⟩ := h.a ga rfl
  obtain ⟨h4, ds, h5, h6⟩ := h.b gb rfl
  have hne : gb ≠ ga := fun e => by
    subst e
    have := h3.symm.trans h6
    simp only [Option.some.injEq, Obj.cells.injEq] at this
    have := congrArg Array.size this.1
    simp [u32s, h2, h5] at this
  refine ⟨⟨⟨h.ext.os, h.ext.tape, h.ext.output, by simpa using h.ext.size, fun k hk => (setRow_other X ga k _ (by omega)).trans (h.ext.block k hk)⟩, fun g hg => ?_, fun g hg => ?_⟩, setRow_blk h3⟩
  · injection hg with hg; subst hg; exact ⟨h1, l, hl, setRow_blk h3⟩
  · injection hg with hg; subst hg; exact ⟨h4, ds, h5, setRow_far h6 hne⟩
theorem ClsS.put {w W X : World} {ga gb : Nat} {l m : List W32} {ps : List Asr} (h : ClsS W ga gb l X) (hl : Locs ps) (hH : Has w W ps) (hm : l.length = 64) (hm8 : m.length = 8) : Has w (X.setRow gb (u32s m).toArray) (ScA ga l :: StA gb m :: ps) := by
  obtain ⟨h1, -⟩ := h.r.a ga rfl
  obtain ⟨h4, ds, h5, h6⟩ := h.r.b gb rfl
  have hne : ga ≠ gb := fun e => by
    subst e
    have := h.a.symm.trans h6
    simp only [Option.some.injEq, Obj.cells.injEq] at this
    have := congrArg Array.size this.1
    simp [u32s, hm, h5] at this
  have hE : Ext W (X.setRow gb (u32s m).toArray) := ⟨h.r.ext.os, h.r.ext.tape, h.r.ext.output, by simpa using h.r.ext.size, fun k hk => (setRow_other X gb k _ (by omega)).trans (h.r.ext.block k hk)⟩
  exact hH.add2 hl hE (F := fun k => k = ga) (G := fun k => k = gb) ⟨setRow_far h.a hne, rfl⟩ ⟨setRow_blk h6, rfl⟩ (fun k hk => by rw [hk]; exact h1) (fun k hk => by rw [hk]; exact h4) (fun k hk hk' => hne (hk'.symm.trans hk))
theorem store_words {ops : Array Oper} {M : (World → Prop) → Act → World → Prop} {Q : Exit → Act → World → Prop} {o : Oper} {ts : List Bool} {rest : List Oper} {a : Act} {W X : World} {ga gb : Nat} {l : List W32} (hR : ClsR W (some ga) (some gb) X) (hl : l.length = 64)
    (hw : Region.wanted o (yielded ops a.tmps) = true) (x y : Operand) (ho : o.op = .store 152 x y) (hx : a.eval x = .pointer (some ⟨ga, 0, none⟩)) (hy : a.eval y = .agg (u32s l).toArray)
    (h : ∀ X, ClsS W ga gb l X → walkL Try.prog ops M Q ts rest (ClsS W ga gb l) (a.put o.dst undef) X) : walkL Try.prog ops M Q (false :: ts) (o :: rest) (ClsR W (some ga) (some gb)) a X := by
  obtain ⟨-, ca, hca, hba⟩ := hR.a ga rfl
  refine steps_want hw (fun K hK => ?_)
  refine wp_store_row _ _ _ ho ga _ hx hy _ _ hba (w64Size hl) (by simp [u32s, hca, hl]) (u32s_one _) ?_
  have hS := hR.put hl
  exact hK _ _ (ClsS W ga gb l) hS (fun _ h => h.r) (h _ hS)
theorem store_state {ops : Array Oper} {M : (World → Prop) → Act → World → Prop} {Q : Exit → Act → World → Prop} {o : Oper} {ts : List Bool} {rest : List Oper} {a : Act} {w W X : World} {ga gb : Nat} {l m : List W32} {ps : List Asr} (hS : ClsS W ga gb l X) (hl : l.length = 64) (hm : m.length = 8) (hps : Locs ps) (hH : Has w W ps)
    (hw : Region.wanted o (yielded ops a.tmps) = true) (x y : Operand) (ho : o.op = .store 137 x y) (hx : a.eval x = .pointer (some ⟨gb, 0, none⟩)) (hy : a.eval y = .agg (u32s m).toArray)
    (h : ∀ Z, Has w Z (ScA ga l :: StA gb m :: ps) → walkL Try.prog ops M Q ts rest (fun X => ClsS W ga gb l X) (a.put o.dst undef) Z) : walkL Try.prog ops M Q (false :: ts) (o :: rest) (ClsS W ga gb l) a X := by
  obtain ⟨-, cb, hcb, hbb⟩ := hS.r.b gb rfl
  refine steps_want hw (fun K hK => ?_)
  refine wp_store_row _ _ _ ho gb _ hx hy _ _ hbb (stSize hm) (by simp [u32s, hcb, hm]) (u32s_one _) ?_
  obtain ⟨h4, ds, h5, h6⟩ := hS.r.b gb rfl
  obtain ⟨h1, -⟩ := hS.r.a ga rfl
  have hne : ga ≠ gb := fun e => by
    subst e
    have := hS.a.symm.trans h6
    simp only [Option.some.injEq, Obj.cells.injEq] at this
    have := congrArg Array.size this.1
    simp [u32s, hl, h5] at this
  have hZ : ClsS W ga gb l (X.setRow gb (u32s m).toArray) := by
    refine ⟨⟨⟨hS.r.ext.os, hS.r.ext.tape, hS.r.ext.output, by simpa using hS.r.ext.size, fun k hk => (setRow_other X gb k _ (by omega)).trans (hS.r.ext.block k hk)⟩, fun g hg => ?_, fun g hg => ?_⟩, setRow_far hS.a hne⟩
    · injection hg with hg; subst hg; exact ⟨h1, l, hl, setRow_far hS.a hne⟩
    · injection hg with hg; subst hg; exact ⟨h4, m, hm, setRow_blk h6⟩
  exact hK _ _ _ hZ (fun _ h => h) (h _ (hS.put hps hH hl hm))
def BlRel (w : World) (s : St) (S : List W32) (ga gb r bx : Nat) (k : Value) (wr : World) : Prop :=
  ∃ i : Nat, i ≤ 64 ∧ k = .int .i64 i ∧ Has w wr [StA gb (rounds s ((keyL.zip S).take i)).list, ScA ga S, StA r (zw 8), StA bx s.list]
def sumsTo (s v : St) (i : Nat) : List W32 := (List.zipWith (· + ·) s.list v.list).take i ++ s.list.drop i
def BlRel2 (w : World) (s v : St) (S : List W32) (ga gb r bx : Nat) (k : Value) (wr : World) : Prop :=
  ∃ i : Nat, i ≤ 8 ∧ k = .int .i64 i ∧ Has w wr [StA bx (sumsTo s v i), StA gb v.list, ScA ga S, StA r (zw 8)]
theorem sumsTo_get (s v : St) (i : Nat) (h : i < 8) : (sumsTo s v i).getD i 0 = s.list.getD i 0 := by
  have : i = 0 ∨ i = 1 ∨ i = 2 ∨ i = 3 ∨ i = 4 ∨ i = 5 ∨ i = 6 ∨ i = 7 := by omega
  rcases this with rfl | rfl | rfl | rfl | rfl | rfl | rfl | rfl <;> rfl
theorem sumsTo_set (s v : St) (i : Nat) (h : i < 8) : (sumsTo s v i).set i (s.list.getD i 0 + v.list.getD i 0) = sumsTo s v (i + 1) := by
  have : i = 0 ∨ i = 1 ∨ i = 2 ∨ i = 3 ∨ i = 4 ∨ i = 5 ∨ i = 6 ∨ i = 7 := by omega
  rcases this with rfl | rfl | rfl | rfl | rfl | rfl | rfl | rfl <;> rfl
theorem sumsTo_len (s v : St) (i : Nat) (h : i ≤ 8) : (sumsTo s v i).length = 8 := by
  simp [sumsTo, St.list]; omega
theorem u32Info : (Try.prog.info? 103).map (·.size) = some 1 := by kernel_rfl
theorem index_words {W : World} (S : List W32) (i : Nat) (z : Int) (hz : z = i) (hi : i < 64) (hS : S.length = 64) :
    (Instr.index 152 (.agg (u32s S).toArray) (.int .i64 z)).run Try.prog W = .ok (.int .u32 (wv (S.getD i 0))) W := by
  subst hz
  have h2 : (0 : Int) ≤ i ∧ (i : Int) < ((64 : Nat) : Int) := by omega
  have hu := u32Info
  have hg := u32s_get S i (by omega)
  cases hq : Try.prog.info? 103 with
  | none => rw [hq] at hu; cases hu
  | some t =>
    have ht : t.size = 1 := by rw [hq] at hu; simpa using hu
    simp only [Instr.index, asIntOf, Sem.run_bind, Sem.run_pure, Result.andThen_ok, run_underlying Try.underlying152]
    rw [if_pos h2]
    simp [sizeOf, typeInfo, hq, ht, part, Sem.run_bind, Result.andThen, hi]
    rw [hg]
    simp
set_option maxRecDepth 100000 in
def keysB : List UInt8 := (66 :: 138 :: 47 :: 152 :: 113 :: 55 :: 68 :: 145 :: 181 :: 192 :: 251 :: 207 :: 233 :: 181 :: 219 :: 165 :: 57 :: 86 :: 194 :: 91 :: 89 :: 241 :: 17 :: 241 :: 146 :: 63 :: 130 :: 164 :: 171 :: 28 :: 94 :: 213 :: 216 :: 7 :: 170 :: 152 :: 18 :: 131 :: 91 :: 1 :: 36 :: 49 :: 133 :: 190 :: 85 :: 12 :: 125 :: 195 :: 114 :: 190 :: 93 :: 116 :: 128 :: 222 :: 177 :: 254 :: 155 :: 220 :: 6 :: 167 :: 193 :: 155 :: 241 :: 116 :: 228 :: 155 :: 105 :: 193 :: 239 :: 190 :: 71 :: 134 :: 15 :: 193 :: 157 :: 198 :: 36 :: 12 :: 161 :: 204 :: 45 :: 233 :: 44 :: 111 :: 74 :: 116 :: 132 :: 170 :: 92 :: 176 :: 169 :: 220 :: 118 :: 249 :: 136 :: 218 :: 152 :: 62 :: 81 :: 82 :: 168 :: 49 :: 198 :: 109 :: 176 :: 3 :: 39 :: 200 :: 191 :: 89 :: 127 :: 199 :: 198 :: 224 :: 11 :: 243 :: 213 :: 167 :: 145 :: 71 :: 6 :: 202 :: 99 :: 81 :: 20 :: 41 :: 41 :: 103 :: 39 :: 183 :: 10 :: 133 :: 46 :: 27 :: 33 :: 56 :: 77 :: 44 :: 109 :: 252 :: 83 :: 56 :: 13 :: 19 :: 101 :: 10 :: 115 :: 84 :: 118 :: 106 :: 10 :: 187 :: 129 :: 194 :: 201 :: 46 :: 146 :: 114 :: 44 :: 133 :: 162 :: 191 :: 232 :: 161 :: 168 :: 26 :: 102 :: 75 :: 194 :: 75 :: 139 :: 112 :: 199 :: 108 :: 81 :: 163 :: 209 :: 146 :: 232 :: 25 :: 214 :: 153 :: 6 :: 36 :: 244 :: 14 :: 53 :: 133 :: 16 :: 106 :: 160 :: 112 :: 25 :: 164 :: 193 :: 22 :: 30 :: 55 :: 108 :: 8 :: 39 :: 72 :: 119 :: 76 :: 52 :: 176 :: 188 :: 181 :: 57 :: 28 :: 12 :: 179 :: 78 :: 216 :: 170 :: 74 :: 91 :: 156 :: 202 :: 79 :: 104 :: 46 :: 111 :: 243 :: 116 :: 143 :: 130 :: 238 :: 120 :: 165 :: 99 :: 111 :: 132 :: 200 :: 120 :: 20 :: 140 :: 199 :: 2 :: 8 :: 144 :: 190 :: 255 :: 250 :: 164 :: 80 :: 108 :: 235 :: 190 :: 249 :: 163 :: 247 :: 198 :: 113 :: 120 :: 242 :: [])
set_option maxRecDepth 100000 in
theorem keysB_len : keysB.length = 256 := by decide +kernel
set_option maxRecDepth 100000 in
theorem keys_four : ∀ i, i < 64 → fourAt keysB (4 * i) = keyL.getD i 0 := by decide +kernel
theorem drewN_two (w : World) (n m : Nat) : (w.drewN n).drewN m = w.drewN (n + m) := by simp [World.drewN, Nat.add_assoc]
theorem qrot (x : W32) (z : Int) (k : Nat) (hz : z = -(k : Int)) (h : 0 < k ∧ k < 32) {w : World} {n : Nat} : Calls Try.prog 93 #[.int .u32 (wv x), .int .i64 z] (w.drewN n) fun e w' => e = .returned (.int .u32 (wv (ror x k))) ∧ ∃ m, w' = w.drewN m :=
  (rotl_lit x z k hz h _).mono fun e w' ⟨h1, h2⟩ => ⟨h1, n, h2⟩
set_option maxRecDepth 100000 in
theorem keysLit : (⟨List.toArray (66 :: 138 :: 47 :: 152 :: 113 :: 55 :: 68 :: 145 :: 181 :: 192 :: 251 :: 207 :: 233 :: 181 :: 219 :: 165 :: 57 :: 86 :: 194 :: 91 :: 89 :: 241 :: 17 :: 241 :: 146 :: 63 :: 130 :: 164 :: 171 :: 28 :: 94 :: 213 :: 216 :: 7 :: 170 :: 152 :: 18 :: 131 :: 91 :: 1 :: 36 :: 49 :: 133 :: 190 :: 85 :: 12 :: 125 :: 195 :: 114 :: 190 :: 93 :: 116 :: 128 :: 222 :: 177 :: 254 :: 155 :: 220 :: 6 :: 167 :: 193 :: 155 :: 241 :: 116 :: 228 :: 155 :: 105 :: 193 :: 239 :: 190 :: 71 :: 134 :: 15 :: 193 :: 157 :: 198 :: 36 :: 12 :: 161 :: 204 :: 45 :: 233 :: 44 :: 111 :: 74 :: 116 :: 132 :: 170 :: 92 :: 176 :: 169 :: 220 :: 118 :: 249 :: 136 :: 218 :: 152 :: 62 :: 81 :: 82 :: 168 :: 49 :: 198 :: 109 :: 176 :: 3 :: 39 :: 200 :: 191 :: 89 :: 127 :: 199 :: 198 :: 224 :: 11 :: 243 :: 213 :: 167 :: 145 :: 71 :: 6 :: 202 :: 99 :: 81 :: 20 :: 41 :: 41 :: 103 :: 39 :: 183 :: 10 :: 133 :: 46 :: 27 :: 33 :: 56 :: 77 :: 44 :: 109 :: 252 :: 83 :: 56 :: 13 :: 19 :: 101 :: 10 :: 115 :: 84 :: 118 :: 106 :: 10 :: 187 :: 129 :: 194 :: 201 :: 46 :: 146 :: 114 :: 44 :: 133 :: 162 :: 191 :: 232 :: 161 :: 168 :: 26 :: 102 :: 75 :: 194 :: 75 :: 139 :: 112 :: 199 :: 108 :: 81 :: 163 :: 209 :: 146 :: 232 :: 25 :: 214 :: 153 :: 6 :: 36 :: 244 :: 14 :: 53 :: 133 :: 16 :: 106 :: 160 :: 112 :: 25 :: 164 :: 193 :: 22 :: 30 :: 55 :: 108 :: 8 :: 39 :: 72 :: 119 :: 76 :: 52 :: 176 :: 188 :: 181 :: 57 :: 28 :: 12 :: 179 :: 78 :: 216 :: 170 :: 74 :: 91 :: 156 :: 202 :: 79 :: 104 :: 46 :: 111 :: 243 :: 116 :: 143 :: 130 :: 238 :: 120 :: 165 :: 99 :: 111 :: 132 :: 200 :: 120 :: 20 :: 140 :: 199 :: 2 :: 8 :: 144 :: 190 :: 255 :: 250 :: 164 :: 80 :: 108 :: 235 :: 190 :: 249 :: 163 :: 247 :: 198 :: 113 :: 120 :: 242 :: [])⟩ : ByteArray) = strOf keysB := by unfold strOf keysB; rfl
theorem qfour (z : Int) (i : Nat) (hz : z = 4 * (i : Int)) (hi : i < 64) {w : World} {n : Nat} : Calls Try.prog 94 #[.string (strOf keysB), .int .i64 z] (w.drewN n) fun e w' => e = .returned (.int .u32 (wv (keyL.getD i 0))) ∧ ∃ m, w' = w.drewN m :=
  (four_any keysB z (4 * i) (by omega) _ (by rw [keysB_len]; omega) (by rw [keysB_len]; unfold maxLen; omega)).mono fun e w' ⟨h1, m, h2⟩ => ⟨by rw [h1, keys_four i hi], n + m, by rw [h2, drewN_two]⟩
set_option maxRecDepth 100000 in
theorem qfourL (z : Int) (i : Nat) (hz : z = 4 * (i : Int)) (hi : i < 64) {w : World} {n : Nat} : Calls Try.prog 94 #[.string ⟨List.toArray (66 :: 138 :: 47 :: 152 :: 113 :: 55 :: 68 :: 145 :: 181 :: 192 :: 251 :: 207 :: 233 :: 181 :: 219 :: 165 :: 57 :: 86 :: 194 :: 91 :: 89 :: 241 :: 17 :: 241 :: 146 :: 63 :: 130 :: 164 :: 171 :: 28 :: 94 :: 213 :: 216 :: 7 :: 170 :: 152 :: 18 :: 131 :: 91 :: 1 :: 36 :: 49 :: 133 :: 190 :: 85 :: 12 :: 125 :: 195 :: 114 :: 190 :: 93 :: 116 :: 128 :: 222 :: 177 :: 254 :: 155 :: 220 :: 6 :: 167 :: 193 :: 155 :: 241 :: 116 :: 228 :: 155 :: 105 :: 193 :: 239 :: 190 :: 71 :: 134 :: 15 :: 193 :: 157 :: 198 :: 36 :: 12 :: 161 :: 204 :: 45 :: 233 :: 44 :: 111 :: 74 :: 116 :: 132 :: 170 :: 92 :: 176 :: 169 :: 220 :: 118 :: 249 :: 136 :: 218 :: 152 :: 62 :: 81 :: 82 :: 168 :: 49 :: 198 :: 109 :: 176 :: 3 :: 39 :: 200 :: 191 :: 89 :: 127 :: 199 :: 198 :: 224 :: 11 :: 243 :: 213 :: 167 :: 145 :: 71 :: 6 :: 202 :: 99 :: 81 :: 20 :: 41 :: 41 :: 103 :: 39 :: 183 :: 10 :: 133 :: 46 :: 27 :: 33 :: 56 :: 77 :: 44 :: 109 :: 252 :: 83 :: 56 :: 13 :: 19 :: 101 :: 10 :: 115 :: 84 :: 118 :: 106 :: 10 :: 187 :: 129 :: 194 :: 201 :: 46 :: 146 :: 114 :: 44 :: 133 :: 162 :: 191 :: 232 :: 161 :: 168 :: 26 :: 102 :: 75 :: 194 :: 75 :: 139 :: 112 :: 199 :: 108 :: 81 :: 163 :: 209 :: 146 :: 232 :: 25 :: 214 :: 153 :: 6 :: 36 :: 244 :: 14 :: 53 :: 133 :: 16 :: 106 :: 160 :: 112 :: 25 :: 164 :: 193 :: 22 :: 30 :: 55 :: 108 :: 8 :: 39 :: 72 :: 119 :: 76 :: 52 :: 176 :: 188 :: 181 :: 57 :: 28 :: 12 :: 179 :: 78 :: 216 :: 170 :: 74 :: 91 :: 156 :: 202 :: 79 :: 104 :: 46 :: 111 :: 243 :: 116 :: 143 :: 130 :: 238 :: 120 :: 165 :: 99 :: 111 :: 132 :: 200 :: 120 :: 20 :: 140 :: 199 :: 2 :: 8 :: 144 :: 190 :: 255 :: 250 :: 164 :: 80 :: 108 :: 235 :: 190 :: 249 :: 163 :: 247 :: 198 :: 113 :: 120 :: 242 :: [])⟩, .int .i64 z] (w.drewN n) fun e w' => e = .returned (.int .u32 (wv (keyL.getD i 0))) ∧ ∃ m, w' = w.drewN m := by
  rw [keysLit]
  exact qfour z i hz hi
set_option maxHeartbeats 4000000 in
set_option maxRecDepth 100000 in
theorem block_any (s : St) (l : List UInt8) (hl : l.length = 64) (w : World) :
    Calls Try.prog 86 #[stV s, .string (strOf l)] w fun e w' => e = .returned (stV (s.block l)) ∧ Ext w w' := by
  have hsp := spread_any l hl
  have hsl := spread_len l hl
  have HS := Lib.hid (rfl : spread l = spread l)
  generalize hS : spread l = S at hsp hsl HS
  have HE := Lib.hid hS
  clear hS HS
  go_enter Try.func86, Try.ntmps86
  go_wp2_with fail
  have hH : Has w ((w.alloc (.cells (u32s s.list).toArray 137)).alloc (.cells (u32s (zw 8)).toArray 137)) [StA (w.heap.size + 1) (zw 8), StA w.heap.size s.list] := by
    have h1 := (Has.nil (Ext.refl w)).add .nil (ext_alloc w (.cells (u32s s.list).toArray 137)) (p := StA w.heap.size s.list) (F := fun k => k = w.heap.size) ⟨Blk.new _ _ _, rfl⟩ (fun k hk => by omega)
    have h2 := h1.add (.cons (StA_loc _ _) .nil) (ext_alloc _ (.cells (u32s (zw 8)).toArray 137)) (p := StA (w.heap.size + 1) (zw 8)) (F := fun k => k = w.heap.size + 1) ⟨by have := Blk.new (w.alloc (.cells (u32s s.list).toArray 137)) 137 (u32s (zw 8)).toArray; simpa using this, rfl⟩ (fun k hk => by simp; omega)
    exact h2
  refine gen_world' (fun X => Has w X [StA (w.heap.size + 1) (zw 8), StA w.heap.size s.list]) hH ?_
  clear hH
  intro W hH
  generalize w.heap.size + 1 = r at *
  generalize w.heap.size = bx at *
  go_upto_region 1 with fail
  go_cut [5, 6] (fun v5 v6 wx => ∃ ga gb, v5 = .pointer (some ⟨ga, 0, none⟩) ∧ v6 = .pointer (some ⟨gb, 0, none⟩) ∧ Has w wx [ScA ga S, StA gb s.list, StA r (zw 8), StA bx s.list])
  case first =>
    obtain ⟨Fb, hFb⟩ := hH.swap.head
    have hbb := hFb.1
    have hR : ClsR W none none W.drew := ⟨(Ext.refl W).drew, fun g hg => (by cases hg), fun g hg => (by cases hg)⟩
    have hFd := hR
    have hne_ : Nonempty (Of ((ClsR W none none))) := ⟨⟨_, hFd⟩⟩
    refine region_plan (.seg [0,2] [true,true] (.fork3 1 (.fork 3 (.seg [4,5,6] [false,false,false] .done) 4 (.seg [3,5,6] [false,false,false] .done)) 3 (.fork 1 (.seg [4,5,6] [false,false,false] .done) 4 (.seg [1,5,6] [false,false,false] .done)) 4 (.fork 1 (.seg [3,5,6] [false,false,false] .done) 3 (.seg [1,5,6] [false,false,false] .done)))) ((ClsR W none none)) (by kernel_rfl) (by kernel_rfl) hFd ?_
    refine walkP_seg ?_
    simp only [List.filterMap_cons, List.filterMap_nil, List.getElem?_cons_zero, List.getElem?_cons_succ]
    refine steps_quiet 1 (by kernel_rfl) ?_
    simp only [List.take_succ_cons, List.take_zero, List.drop_succ_cons, List.drop_zero]
    repeat (go_big_quiet_step (fail))
    refine wpQuiet_nil ?_
    refine steps_load_row rfl _ _ rfl bx rfl _ _ _ (fun X hX => hbb.of_eq (hX.ext.block _ hbb.lt)) Try.underlying137 rfl (stSize rfl) ?_
    generalize World.drew W = W1 at hR ⊢
    refine steps_end ?_
    refine walkP_fork3 ?_ ?_ ?_
    all_goals simp only [List.filterMap_cons, List.filterMap_nil, List.getElem?_cons_zero, List.getElem?_cons_succ]
    · refine steps_want rfl (fun K hK => ?_)
      go_simp
      /- the call -/
      refine (hsp _).mono ?_
      rintro e Xn ⟨rfl, hEn⟩
      have hR' := hR.go hEn
      refine hK _ _ (ClsR W none none) hR' (fun _ h => h) ?_
      clear hK K hR hEn
      have hR := hR'
      clear hR'
      refine steps_end ?_
      refine walkP_fork ?_ ?_
      all_goals simp only [List.filterMap_cons, List.filterMap_nil, List.getElem?_cons_zero, List.getElem?_cons_succ]
      · refine steps_want rfl (fun K hK => ?_)
        go_simp
        /- the words' array -/
        show K _ (World.alloc _ (.cells (u32s (zw 64)).toArray 152))
        have hR' := hR.allocA
        generalize World.alloc _ _ = Xm at hR' ⊢
        generalize Array.size (World.heap _) = ga at hR' ⊢
        refine hK _ _ (ClsR W (some ga) none) hR' (fun _ h => h.dropA) ?_
        clear hK K hR
        have hR := hR'
        clear hR'
        refine steps_end ?_
        refine walkP_seg ?_
        simp only [List.filterMap_cons, List.filterMap_nil, List.getElem?_cons_zero, List.getElem?_cons_succ]
        refine steps_want rfl (fun K hK => ?_)
        go_simp
        show K _ (World.alloc _ (.cells (u32s (zw 8)).toArray 137))
        have hR' := hR.allocB
        generalize World.alloc _ _ = Xm at hR' ⊢
        generalize Array.size (World.heap _) = gb at hR' ⊢
        refine hK _ _ (ClsR W (some ga) (some gb)) hR' (fun _ h => h.dropB) ?_
        clear hK K hR
        have hR := hR'
        clear hR'
        refine store_words hR hsl rfl _ _ rfl rfl rfl (fun X1 hS => ?_)
        refine store_state hS hsl rfl (.cons (StA_loc _ _) (.cons (StA_loc _ _) .nil)) hH rfl _ _ rfl rfl rfl (fun Z hT => ?_)
        refine steps_end ?_
        refine walkP_done ?_
        simp only [Act.put]
        go_wp2_with fail
        go_meet
        exact ⟨ga, gb, rfl, rfl, hT⟩
      · refine steps_want rfl (fun K hK => ?_)
        go_simp
        show K _ (World.alloc _ (.cells (u32s (zw 8)).toArray 137))
        have hR' := hR.allocB
        generalize World.alloc _ _ = Xm at hR' ⊢
        generalize Array.size (World.heap _) = gb at hR' ⊢
        refine hK _ _ (ClsR W none (some gb)) hR' (fun _ h => h.dropB) ?_
        clear hK K hR
        have hR := hR'
        clear hR'
        refine steps_end ?_
        refine walkP_seg ?_
        simp only [List.filterMap_cons, List.filterMap_nil, List.getElem?_cons_zero, List.getElem?_cons_succ]
        refine steps_want rfl (fun K hK => ?_)
        go_simp
        /- the words' array -/
        show K _ (World.alloc _ (.cells (u32s (zw 64)).toArray 152))
        have hR' := hR.allocA
        generalize World.alloc _ _ = Xm at hR' ⊢
        generalize Array.size (World.heap _) = ga at hR' ⊢
        refine hK _ _ (ClsR W (some ga) (some gb)) hR' (fun _ h => h.dropA) ?_
        clear hK K hR
        have hR := hR'
        clear hR'
        refine store_words hR hsl rfl _ _ rfl rfl rfl (fun X1 hS => ?_)
        refine store_state hS hsl rfl (.cons (StA_loc _ _) (.cons (StA_loc _ _) .nil)) hH rfl _ _ rfl rfl rfl (fun Z hT => ?_)
        refine steps_end ?_
        refine walkP_done ?_
        simp only [Act.put]
        go_wp2_with fail
        go_meet
        exact ⟨ga, gb, rfl, rfl, hT⟩
    · refine steps_want rfl (fun K hK => ?_)
      go_simp
      /- the words' array -/
      show K _ (World.alloc _ (.cells (u32s (zw 64)).toArray 152))
      have hR' := hR.allocA
      generalize World.alloc _ _ = Xm at hR' ⊢
      generalize Array.size (World.heap _) = ga at hR' ⊢
      refine hK _ _ (ClsR W (some ga) none) hR' (fun _ h => h.dropA) ?_
      clear hK K hR
      have hR := hR'
      clear hR'
      refine steps_end ?_
      refine walkP_fork ?_ ?_
      all_goals simp only [List.filterMap_cons, List.filterMap_nil, List.getElem?_cons_zero, List.getElem?_cons_succ]
      · refine steps_want rfl (fun K hK => ?_)
        go_simp
        /- the call -/
        refine (hsp _).mono ?_
        rintro e Xn ⟨rfl, hEn⟩
        have hR' := hR.go hEn
        refine hK _ _ (ClsR W (some ga) none) hR' (fun _ h => h) ?_
        clear hK K hR hEn
        have hR := hR'
        clear hR'
        refine steps_end ?_
        refine walkP_seg ?_
        simp only [List.filterMap_cons, List.filterMap_nil, List.getElem?_cons_zero, List.getElem?_cons_succ]
        refine steps_want rfl (fun K hK => ?_)
        go_simp
        show K _ (World.alloc _ (.cells (u32s (zw 8)).toArray 137))
        have hR' := hR.allocB
        generalize World.alloc _ _ = Xm at hR' ⊢
        generalize Array.size (World.heap _) = gb at hR' ⊢
        refine hK _ _ (ClsR W (some ga) (some gb)) hR' (fun _ h => h.dropB) ?_
        clear hK K hR
        have hR := hR'
        clear hR'
        refine store_words hR hsl rfl _ _ rfl rfl rfl (fun X1 hS => ?_)
        refine store_state hS hsl rfl (.cons (StA_loc _ _) (.cons (StA_loc _ _) .nil)) hH rfl _ _ rfl rfl rfl (fun Z hT => ?_)
        refine steps_end ?_
        refine walkP_done ?_
        simp only [Act.put]
        go_wp2_with fail
        go_meet
        exact ⟨ga, gb, rfl, rfl, hT⟩
      · refine steps_want rfl (fun K hK => ?_)
        go_simp
        show K _ (World.alloc _ (.cells (u32s (zw 8)).toArray 137))
        have hR' := hR.allocB
        generalize World.alloc _ _ = Xm at hR' ⊢
        generalize Array.size (World.heap _) = gb at hR' ⊢
        refine hK _ _ (ClsR W (some ga) (some gb)) hR' (fun _ h => h.dropB) ?_
        clear hK K hR
        have hR := hR'
        clear hR'
        refine steps_end ?_
        refine walkP_seg ?_
        simp only [List.filterMap_cons, List.filterMap_nil, List.getElem?_cons_zero, List.getElem?_cons_succ]
        refine steps_want rfl (fun K hK => ?_)
        go_simp
        /- the call -/
        refine (hsp _).mono ?_
        rintro e Xn ⟨rfl, hEn⟩
        have hR' := hR.go hEn
        refine hK _ _ (ClsR W (some ga) (some gb)) hR' (fun _ h => h) ?_
        clear hK K hR hEn
        have hR := hR'
        clear hR'
        refine store_words hR hsl rfl _ _ rfl rfl rfl (fun X1 hS => ?_)
        refine store_state hS hsl rfl (.cons (StA_loc _ _) (.cons (StA_loc _ _) .nil)) hH rfl _ _ rfl rfl rfl (fun Z hT => ?_)
        refine steps_end ?_
        refine walkP_done ?_
        simp only [Act.put]
        go_wp2_with fail
        go_meet
        exact ⟨ga, gb, rfl, rfl, hT⟩
    · refine steps_want rfl (fun K hK => ?_)
      go_simp
      show K _ (World.alloc _ (.cells (u32s (zw 8)).toArray 137))
      have hR' := hR.allocB
      generalize World.alloc _ _ = Xm at hR' ⊢
      generalize Array.size (World.heap _) = gb at hR' ⊢
      refine hK _ _ (ClsR W none (some gb)) hR' (fun _ h => h.dropB) ?_
      clear hK K hR
      have hR := hR'
      clear hR'
      refine steps_end ?_
      refine walkP_fork ?_ ?_
      all_goals simp only [List.filterMap_cons, List.filterMap_nil, List.getElem?_cons_zero, List.getElem?_cons_succ]
      · refine steps_want rfl (fun K hK => ?_)
        go_simp
        /- the call -/
        refine (hsp _).mono ?_
        rintro e Xn ⟨rfl, hEn⟩
        have hR' := hR.go hEn
        refine hK _ _ (ClsR W none (some gb)) hR' (fun _ h => h) ?_
        clear hK K hR hEn
        have hR := hR'
        clear hR'
        refine steps_end ?_
        refine walkP_seg ?_
        simp only [List.filterMap_cons, List.filterMap_nil, List.getElem?_cons_zero, List.getElem?_cons_succ]
        refine steps_want rfl (fun K hK => ?_)
        go_simp
        /- the words' array -/
        show K _ (World.alloc _ (.cells (u32s (zw 64)).toArray 152))
        have hR' := hR.allocA
        generalize World.alloc _ _ = Xm at hR' ⊢
        generalize Array.size (World.heap _) = ga at hR' ⊢
        refine hK _ _ (ClsR W (some ga) (some gb)) hR' (fun _ h => h.dropA) ?_
        clear hK K hR
        have hR := hR'
        clear hR'
        refine store_words hR hsl rfl _ _ rfl rfl rfl (fun X1 hS => ?_)
        refine store_state hS hsl rfl (.cons (StA_loc _ _) (.cons (StA_loc _ _) .nil)) hH rfl _ _ rfl rfl rfl (fun Z hT => ?_)
        refine steps_end ?_
        refine walkP_done ?_
        simp only [Act.put]
        go_wp2_with fail
        go_meet
        exact ⟨ga, gb, rfl, rfl, hT⟩
      · refine steps_want rfl (fun K hK => ?_)
        go_simp
        /- the words' array -/
        show K _ (World.alloc _ (.cells (u32s (zw 64)).toArray 152))
        have hR' := hR.allocA
        generalize World.alloc _ _ = Xm at hR' ⊢
        generalize Array.size (World.heap _) = ga at hR' ⊢
        refine hK _ _ (ClsR W (some ga) (some gb)) hR' (fun _ h => h.dropA) ?_
        clear hK K hR
        have hR := hR'
        clear hR'
        refine steps_end ?_
        refine walkP_seg ?_
        simp only [List.filterMap_cons, List.filterMap_nil, List.getElem?_cons_zero, List.getElem?_cons_succ]
        refine steps_want rfl (fun K hK => ?_)
        go_simp
        /- the call -/
        refine (hsp _).mono ?_
        rintro e Xn ⟨rfl, hEn⟩
        have hR' := hR.go hEn
        refine hK _ _ (ClsR W (some ga) (some gb)) hR' (fun _ h => h) ?_
        clear hK K hR hEn
        have hR := hR'
        clear hR'
        refine store_words hR hsl rfl _ _ rfl rfl rfl (fun X1 hS => ?_)
        refine store_state hS hsl rfl (.cons (StA_loc _ _) (.cons (StA_loc _ _) .nil)) hH rfl _ _ rfl rfl rfl (fun Z hT => ?_)
        refine steps_end ?_
        refine walkP_done ?_
        simp only [Act.put]
        go_wp2_with fail
        go_meet
        exact ⟨ga, gb, rfl, rfl, hT⟩
  case rest =>
    clear hH
    obtain ⟨ga, gb, rfl, rfl, hH⟩ := hcut
    obtain ⟨Fa, hFa⟩ := hH.head
    have hba := hFa.1
    go_wp2_with (refine wpList_load_row rfl _ _ rfl _ rfl _ _ _ _ hba Try.underlying152 rfl (w64Size hsl) ?_)
    clear hba hFa Fa
    go_loopw [18] (fun k wr => BlRel w s S ga gb r bx k wr) (fun k _ => (65 - intOf k).toNat)
    case atStart => exact ⟨0, by omega, rfl, hH.swap⟩
    case round =>
      clear hH
      obtain ⟨i, hi, rfl, hH⟩ := hrel
      by_cases gi : (i : Int) < 64
      · have hix := fun X => index_words (W := X) S i (i : Int) rfl (by omega) hsl
        generalize hv : rounds s ((keyL.zip S).take i) = v at *
        generalize hx0 : S.getD i 0 = x at hix
        have c0 : wr.cell? ⟨gb, 0, none⟩ = some (.int .u32 (wv v.a)) := (WdA_cell hH 0 (by simp [St.list])).1
        have c1 : wr.cell? ⟨gb, 1, none⟩ = some (.int .u32 (wv v.b)) := (WdA_cell hH 1 (by simp [St.list])).1
        have c2 : wr.cell? ⟨gb, 2, none⟩ = some (.int .u32 (wv v.c)) := (WdA_cell hH 2 (by simp [St.list])).1
        have c3 : wr.cell? ⟨gb, 3, none⟩ = some (.int .u32 (wv v.d)) := (WdA_cell hH 3 (by simp [St.list])).1
        have c4 : wr.cell? ⟨gb, 4, none⟩ = some (.int .u32 (wv v.e)) := (WdA_cell hH 4 (by simp [St.list])).1
        have c5 : wr.cell? ⟨gb, 5, none⟩ = some (.int .u32 (wv v.f)) := (WdA_cell hH 5 (by simp [St.list])).1
        have c6 : wr.cell? ⟨gb, 6, none⟩ = some (.int .u32 (wv v.g)) := (WdA_cell hH 6 (by simp [St.list])).1
        have c7 : wr.cell? ⟨gb, 7, none⟩ = some (.int .u32 (wv v.h)) := (WdA_cell hH 7 (by simp [St.list])).1
        have fx := wv_xor
        have fa := wv_add
        have fn := wv_and
        have fo2 : ∀ y, bits .xor .u32 (if IntKind.u32.signed = true then -1 else IntKind.u32.max) (wv y) = wv (~~~y) := wv_not
        have fo : ∀ y, bits .xor .u32 IntKind.u32.max (wv y) = wv (~~~y) := wv_not
        have hq4 : ∀ {w : World} {n : Nat}, _ := fun {w n} => qfourL (4 * (i : Int)) i rfl (by omega) (w := w) (n := n)
        generalize hkq : keyL.getD i 0 = kq at hq4
        go_upto_region 6 with fail
        go_big_quiet (first
          | (with_reducible exact qrot _ (-6) 6 (by omega) (by omega))
          | (with_reducible exact qrot _ (-11) 11 (by omega) (by omega))
          | (with_reducible exact qrot _ (-25) 25 (by omega) (by omega))
          | (with_reducible exact hq4))
        have hH2 := hH.ext (.cons (StA_loc _ _) (.cons (ScA_loc _ _) (.cons (StA_loc _ _) (.cons (StA_loc _ _) .nil)))) ((Ext.refl wr).drewN nq)
        have d0 : (wr.drewN nq).cell? ⟨gb, 0, none⟩ = some (.int .u32 (wv v.a)) := c0
        have d1 : (wr.drewN nq).cell? ⟨gb, 1, none⟩ = some (.int .u32 (wv v.b)) := c1
        have d2 : (wr.drewN nq).cell? ⟨gb, 2, none⟩ = some (.int .u32 (wv v.c)) := c2
        have d3 : (wr.drewN nq).cell? ⟨gb, 3, none⟩ = some (.int .u32 (wv v.d)) := c3
        have d4 : (wr.drewN nq).cell? ⟨gb, 4, none⟩ = some (.int .u32 (wv v.e)) := c4
        have d5 : (wr.drewN nq).cell? ⟨gb, 5, none⟩ = some (.int .u32 (wv v.f)) := c5
        have d6 : (wr.drewN nq).cell? ⟨gb, 6, none⟩ = some (.int .u32 (wv v.g)) := c6
        clear c0 c1 c2 c3 c4 c5 c6 c7 hH hix
        generalize wr.drewN nq = w2 at *
        generalize hTT : v.h + (ror v.e 6 ^^^ ror v.e 11 ^^^ ror v.e 25) + (v.e &&& v.f ^^^ ~~~v.e &&& v.g) + kq + x = T at *
        go_upto_region 8 with fail
        go_big_quiet (first
          | (with_reducible exact qrot _ (-2) 2 (by omega) (by omega))
          | (with_reducible exact qrot _ (-13) 13 (by omega) (by omega))
          | (with_reducible exact qrot _ (-22) 22 (by omega) (by omega)))
        generalize hUU : (ror v.a 2 ^^^ ror v.a 13 ^^^ ror v.a 22) + (v.a &&& v.b ^^^ v.a &&& v.c ^^^ v.b &&& v.c) = U at *
        have hv' : rounds s ((keyL.zip S).take (i + 1)) = ⟨T + U, v.a, v.b, v.c, v.d + T, v.e, v.f, v.g⟩ := by
          have := rounds_succ s l hl i (by omega)
          rw [HE.out, hv, hkq, hx0] at this
          rw [this, ← hTT, ← hUU]
          rfl
        have HV := Lib.hid hv'
        clear hv' hTT hUU hq4
        have hH3 := hH2.ext (.cons (StA_loc _ _) (.cons (ScA_loc _ _) (.cons (StA_loc _ _) (.cons (StA_loc _ _) .nil)))) ((Ext.refl w2).drewN nq)
        have e0 : (w2.drewN nq).cell? ⟨gb, 0, none⟩ = some (.int .u32 (wv v.a)) := d0
        have e1 : (w2.drewN nq).cell? ⟨gb, 1, none⟩ = some (.int .u32 (wv v.b)) := d1
        have e2 : (w2.drewN nq).cell? ⟨gb, 2, none⟩ = some (.int .u32 (wv v.c)) := d2
        have e3 : (w2.drewN nq).cell? ⟨gb, 3, none⟩ = some (.int .u32 (wv v.d)) := d3
        have e4 : (w2.drewN nq).cell? ⟨gb, 4, none⟩ = some (.int .u32 (wv v.e)) := d4
        have e5 : (w2.drewN nq).cell? ⟨gb, 5, none⟩ = some (.int .u32 (wv v.f)) := d5
        have e6 : (w2.drewN nq).cell? ⟨gb, 6, none⟩ = some (.int .u32 (wv v.g)) := d6
        clear d0 d1 d2 d3 d4 d5 d6 hH2
        generalize w2.drewN nq = w3 at *
        obtain ⟨Fb, hFb⟩ := hH3.head
        have hbb := hFb.1
        have hH4 := WdA_row (l' := St.list ⟨T + U, v.a, v.b, v.c, v.d + T, v.e, v.f, v.g⟩) hH3 (.cons (ScA_loc _ _) (.cons (StA_loc _ _) (.cons (StA_loc _ _) .nil)))
        go_wp2_with (refine wpList_store_row rfl _ _ _ rfl gb (u32s (St.list ⟨T + U, v.a, v.b, v.c, v.d + T, v.e, v.f, v.g⟩)).toArray rfl rfl _ _ hbb (stSize rfl) (by simp [u32s, St.list]) (u32s_one _) ?_)
        exact ⟨⟨i + 1, by omega, by go_num, by rw [HV.out]; exact hH4⟩, by simp [intOf]; omega⟩
      · have hi' : i = 64 := by omega
        subst hi'
        have hr : rounds s ((keyL.zip S).take 64) = rounds s (keyL.zip (spread l)) := by
          rw [← HE.out, rounds_all s l hl]
        rw [hr] at hH
        have hbk : s.block l = s.add (rounds s (keyL.zip (spread l))) := rfl
        have HB := Lib.hid hbk
        clear hbk
        generalize rounds s (keyL.zip (spread l)) = v at *
        clear hr HE
        go_wp2_with fail
        go_loopw [99] (fun k wr => BlRel2 w s v S ga gb r bx k wr) (fun k _ => (9 - intOf k).toNat)
        case atStart => exact ⟨0, by omega, rfl, hH.perm (List.perm_append_comm (l₁ := [_, _, _]) (l₂ := [_]))⟩
        case round =>
          clear hH
          obtain ⟨i, hi, rfl, hH⟩ := hrel
          by_cases gi : (i : Int) < 8
          · have hi8 : i < 8 := by omega
            have c1 := (WdA_cell hH i (by rw [sumsTo_len s v i hi]; exact hi8)).1
            have c2 := (WdA_cell hH.swap i (by simpa [St.list] using hi8)).1
            rw [sumsTo_get s v i hi8] at c1
            have hset := sumsTo_set s v i hi8
            generalize s.list.getD i 0 = y at *
            generalize v.list.getD i 0 = z at *
            have fa := wv_add
            go_wp2_with fail
            refine region_drew_tail 7 (by kernel_rfl) (by kernel_rfl) ?_
            simp only [List.take_succ_cons, List.take_zero, List.drop_succ_cons, List.drop_zero]
            repeat (go_big_quiet_step (fail))
            refine wpQuiet_nil ?_
            intro _ hw'
            obtain ⟨nq, hw''⟩ := hw'
            subst hw''
            have hH2 := hH.ext (.cons (StA_loc _ _) (.cons (StA_loc _ _) (.cons (ScA_loc _ _) (.cons (StA_loc _ _) .nil)))) ((Ext.refl wr).drewN nq)
            clear hH c1 c2
            generalize wr.drewN nq = w2 at *
            obtain ⟨e1, e2⟩ := WdA_cell hH2 i (by rw [sumsTo_len s v i hi]; exact hi8)
            have hH3 := WdA_put hH2 (.cons (StA_loc _ _) (.cons (ScA_loc _ _) (.cons (StA_loc _ _) .nil))) i (y + z)
            rw [hset] at hH3
            clear hset hH2
            go_wp2_with fail
            exact ⟨⟨i + 1, by omega, by go_num, hH3⟩, by simp [intOf]; omega⟩
          · have hi' : i = 8 := by omega
            subst hi'
            have h8 : sumsTo s v 8 = (s.block l).list := by rw [HB.out]; rfl
            rw [h8] at hH
            clear h8 HB
            generalize hbt : s.block l = t at *
            have HBT := Lib.hid hbt
            clear hbt
            obtain ⟨F1, hF1⟩ := hH.head
            have hB := hF1.1
            have hHr := hH.perm (List.perm_append_comm (l₁ := [_, _, _]) (l₂ := [_]))
            obtain ⟨F2, hF2⟩ := Has.head hHr
            have hA := hF2.1
            have hH2 := WdA_row (l' := t.list) hHr (.cons (StA_loc _ _) (.cons (StA_loc _ _) (.cons (ScA_loc _ _) .nil)))
            go_wp2_with (first
              | (refine wpList_load_row rfl _ _ rfl bx rfl _ _ _ _ hB Try.underlying137 rfl (stSize rfl) ?_)
              | (refine wpList_store_row rfl _ _ _ rfl r (u32s t.list).toArray rfl rfl _ _ hA (stSize rfl) (by simp [zw, u32s, St.list]) (u32s_one _) ?_))
            obtain ⟨F3, hF3⟩ := hH2.head
            exact bodyPost_ret (v := stV t) (results_cell_row Try.results86 _ _ _ _ _ _ _ rfl hF3.1 Try.underlying137 rfl (stSize rfl)) rfl ⟨by rw [HBT.out], hH2.base⟩
end Go.Proofs.Ytkkhcpknldlpoaa
