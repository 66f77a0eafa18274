/- PLAIN: the words of a block, one by one. -/
import Derived.Test.YthghflfgldcmbaaRot
namespace Go.Proofs.Ythghflfgldcmbaa
set_option maxRecDepth 4000
set_option linter.unusedVariables false
set_option linter.unusedSimpArgs false
open Go
theorem u8_wrap (n : Int) : IntKind.u8.wrap n = n % 256 := IntKind.wrap_u8' n
theorem or24 (x y : Nat) (i : Nat) (hx : x % 2 ^ i = 0) (hy : y < 2 ^ i) : x ||| y = x + y := nat_join i x y hx hy
theorem four_sum (a b c d : UInt8) : (((a.toNat : Int) * 256 + b.toNat) * 256 + c.toNat) * 256 + d.toNat = wv (fourB a b c d) := by
  have ha := a.toNat_lt
  have hb := b.toNat_lt
  have hc := c.toNat_lt
  have hd := d.toNat_lt
  unfold wv fourB
  have e : ∀ x : UInt8, (w8 x).toNat = x.toNat := fun x => by have := wv_u8 x; unfold wv at this; omega
  have p24 : (2 : Nat) ^ 24 = 16777216 := rfl
  have p16 : (2 : Nat) ^ 16 = 65536 := rfl
  have p8 : (2 : Nat) ^ 8 = 256 := rfl
  have p32 : (2 : Nat) ^ 32 = 4294967296 := rfl
  rw [BitVec.toNat_or, BitVec.toNat_or, BitVec.toNat_or, BitVec.toNat_shiftLeft, BitVec.toNat_shiftLeft, BitVec.toNat_shiftLeft, e, e, e, e, Nat.shiftLeft_eq, Nat.shiftLeft_eq, Nat.shiftLeft_eq, p24, p16, p8, p32]
  rw [Nat.mod_eq_of_lt (a := a.toNat * 16777216) (by omega), Nat.mod_eq_of_lt (a := b.toNat * 65536) (by omega), Nat.mod_eq_of_lt (a := c.toNat * 256) (by omega)]
  rw [or24 (a.toNat * 16777216) (b.toNat * 65536) 24 (by rw [p24]; omega) (by rw [p24]; omega), or24 (a.toNat * 16777216 + b.toNat * 65536) (c.toNat * 256) 16 (by rw [p16]; omega) (by rw [p16]; omega), or24 _ d.toNat 8 (by rw [p8]; omega) (by rw [p8]; omega)]
  omega
theorem words_len (n : Nat) : ∀ l : List UInt8, l.length = 4 * n → (words l).length = n := by
  induction n with
  | zero => intro l h; have : l = [] := List.length_eq_zero_iff.1 (by omega); subst this; rfl
  | succ n ih =>
    intro l h
    match l, h with
    | a :: b :: c :: d :: l, h => rw [words, List.length_cons, ih l (by simp at h; omega)]
theorem words_get (n : Nat) : ∀ l : List UInt8, l.length = 4 * n → ∀ i, i < n → (words l).getD i 0 = fourB (l.getD (4 * i) 0) (l.getD (4 * i + 1) 0) (l.getD (4 * i + 2) 0) (l.getD (4 * i + 3) 0) := by
  induction n with
  | zero => intro l h i hi; omega
  | succ n ih =>
    intro l h i hi
    match l, h with
    | a :: b :: c :: d :: l, h =>
      cases i with
      | zero => rfl
      | succ i =>
        rw [words, List.getD_cons_succ, ih l (by simp at h; omega) i (by omega)]
        rw [show 4 * (i + 1) = 4 * i + 4 by omega]
        rfl
theorem words_snoc (n : Nat) (l : List UInt8) (h : l.length = 4 * n) (i : Nat) (hi : i < n) : (words l).take (i + 1) = (words l).take i ++ [fourB (l.getD (4 * i) 0) (l.getD (4 * i + 1) 0) (l.getD (4 * i + 2) 0) (l.getD (4 * i + 3) 0)] := by
  have hl := words_len n l h
  rw [List.take_succ_eq_append_getElem (by omega), ← words_get n l h i hi, List.getD_eq_getElem?_getD, List.getElem?_eq_getElem (by omega)]
  rfl
theorem wGrow_len (n : Nat) : ∀ w : List W32, (wGrow n w).length = w.length + n := by
  induction n with
  | zero => intro w; rfl
  | succ n ih => intro w; rw [wGrow, ih]; simp; omega
theorem wGrow_succ (n : Nat) : ∀ w : List W32, wGrow (n + 1) w = wGrow n w ++ [wNext (wGrow n w) (w.length + n)] := by
  induction n with
  | zero => intro w; rfl
  | succ n ih =>
    intro w
    rw [wGrow, ih, wGrow]
    congr 3
    simp; omega
theorem spread_len (b : List UInt8) (h : b.length = 64) : (spread b).length = 64 := by rw [spread, wGrow_len, words_len 16 b h]
theorem keyL_len : keyL.length = 64 := rfl
theorem zip_take_succ (b : List UInt8) (h : b.length = 64) (i : Nat) (hi : i < 64) : (keyL.zip (spread b)).take (i + 1) = (keyL.zip (spread b)).take i ++ [(keyL.getD i 0, (spread b).getD i 0)] := by
  have hs := spread_len b h
  have hz : (keyL.zip (spread b)).length = 64 := by rw [List.length_zip, hs, keyL_len, Nat.min_self]
  rw [List.take_succ_eq_append_getElem (by omega), List.getElem_zip]
  have h1 : i < keyL.length := by rw [keyL_len]; omega
  have h2 : i < (spread b).length := by omega
  rw [List.getD_eq_getElem?_getD, List.getD_eq_getElem?_getD, List.getElem?_eq_getElem h1, List.getElem?_eq_getElem h2, Option.getD_some, Option.getD_some]
theorem rounds_succ (v : St) (b : List UInt8) (h : b.length = 64) (i : Nat) (hi : i < 64) : rounds v ((keyL.zip (spread b)).take (i + 1)) = round (rounds v ((keyL.zip (spread b)).take i)) (keyL.getD i 0) ((spread b).getD i 0) := by
  rw [zip_take_succ b h i hi, rounds, List.foldl_append, List.foldl_cons, List.foldl_nil, rounds]
theorem rounds_all (v : St) (b : List UInt8) (h : b.length = 64) : rounds v ((keyL.zip (spread b)).take 64) = rounds v (keyL.zip (spread b)) := by
  rw [List.take_of_length_le]
  rw [List.length_zip, spread_len b h, keyL_len]; exact Nat.le_refl _
end Go.Proofs.Ythghflfgldcmbaa
