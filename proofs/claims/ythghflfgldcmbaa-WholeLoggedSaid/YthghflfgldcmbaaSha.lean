/- PLAIN: CRC-32 and SHA-256 of a list of bytes, as the program reckons them; the standards' own texts. -/
import Derived.WalkKit
namespace Go.Proofs.Ythghflfgldcmbaa
set_option maxRecDepth 4000
set_option linter.unusedVariables false
set_option linter.unusedSimpArgs false
/-- a word of 32 bits -/
abbrev W32 := BitVec 32
def crcBit (c : W32) : W32 := if c &&& 1 = 1 then (c >>> 1) ^^^ 0xedb88320 else c >>> 1
def crcTimes : Nat → W32 → W32
  | 0, c => c
  | n + 1, c => crcTimes n (crcBit c)
def w8 (x : UInt8) : W32 := x.toBitVec.setWidth 32
def crcByte (c : W32) (x : UInt8) : W32 := crcTimes 8 (c ^^^ w8 x)
def crcFrom (c : W32) (bs : List UInt8) : W32 := bs.foldl crcByte c
def crc (bs : List UInt8) : W32 := ~~~(crcFrom (~~~0) bs)
theorem crcFrom_append (c : W32) (a b : List UInt8) : crcFrom c (a ++ b) = crcFrom (crcFrom c a) b := List.foldl_append
def keyL : List W32 := [0x428a2f98, 0x71374491, 0xb5c0fbcf, 0xe9b5dba5, 0x3956c25b, 0x59f111f1, 0x923f82a4, 0xab1c5ed5, 0xd807aa98, 0x12835b01, 0x243185be, 0x550c7dc3, 0x72be5d74, 0x80deb1fe, 0x9bdc06a7, 0xc19bf174, 0xe49b69c1, 0xefbe4786, 0x0fc19dc6, 0x240ca1cc, 0x2de92c6f, 0x4a7484aa, 0x5cb0a9dc, 0x76f988da, 0x983e5152, 0xa831c66d, 0xb00327c8, 0xbf597fc7, 0xc6e00bf3, 0xd5a79147, 0x06ca6351, 0x14292967, 0x27b70a85, 0x2e1b2138, 0x4d2c6dfc, 0x53380d13, 0x650a7354, 0x766a0abb, 0x81c2c92e, 0x92722c85, 0xa2bfe8a1, 0xa81a664b, 0xc24b8b70, 0xc76c51a3, 0xd192e819, 0xd6990624, 0xf40e3585, 0x106aa070, 0x19a4c116, 0x1e376c08, 0x2748774c, 0x34b0bcb5, 0x391c0cb3, 0x4ed8aa4a, 0x5b9cca4f, 0x682e6ff3, 0x748f82ee, 0x78a5636f, 0x84c87814, 0x8cc70208, 0x90befffa, 0xa4506ceb, 0xbef9a3f7, 0xc67178f2]
structure St where
  a : W32
  b : W32
  c : W32
  d : W32
  e : W32
  f : W32
  g : W32
  h : W32
def St.begin : St := ⟨0x6a09e667, 0xbb67ae85, 0x3c6ef372, 0xa54ff53a, 0x510e527f, 0x9b05688c, 0x1f83d9ab, 0x5be0cd19⟩
def ror (x : W32) (n : Nat) : W32 := x >>> n ||| x <<< (32 - n)
def fourB (a b c d : UInt8) : W32 := w8 a <<< 24 ||| w8 b <<< 16 ||| w8 c <<< 8 ||| w8 d
def words : List UInt8 → List W32
  | a :: b :: c :: d :: l => fourB a b c d :: words l
  | _ => []
/-- one word more -/
def wNext (w : List W32) (i : Nat) : W32 := w.getD (i - 16) 0 + (ror (w.getD (i - 15) 0) 7 ^^^ ror (w.getD (i - 15) 0) 18 ^^^ w.getD (i - 15) 0 >>> 3) + w.getD (i - 7) 0 + (ror (w.getD (i - 2) 0) 17 ^^^ ror (w.getD (i - 2) 0) 19 ^^^ w.getD (i - 2) 0 >>> 10)
def wGrow : Nat → List W32 → List W32
  | 0, w => w
  | n + 1, w => wGrow n (w ++ [wNext w w.length])
def spread (b : List UInt8) : List W32 := wGrow 48 (words b)
def round (v : St) (k x : W32) : St :=
  let t := v.h + (ror v.e 6 ^^^ ror v.e 11 ^^^ ror v.e 25) + (v.e &&& v.f ^^^ ~~~v.e &&& v.g) + k + x
  let u := (ror v.a 2 ^^^ ror v.a 13 ^^^ ror v.a 22) + (v.a &&& v.b ^^^ v.a &&& v.c ^^^ v.b &&& v.c)
  ⟨t + u, v.a, v.b, v.c, v.d + t, v.e, v.f, v.g⟩
def St.add (s v : St) : St := ⟨s.a + v.a, s.b + v.b, s.c + v.c, s.d + v.d, s.e + v.e, s.f + v.f, s.g + v.g, s.h + v.h⟩
def rounds (v : St) (l : List (W32 × W32)) : St := l.foldl (fun v p => round v p.1 p.2) v
def St.block (s : St) (b : List UInt8) : St := s.add (rounds s (keyL.zip (spread b)))
def b4 (x : W32) : List UInt8 := [⟨(x >>> 24).setWidth 8⟩, ⟨(x >>> 16).setWidth 8⟩, ⟨(x >>> 8).setWidth 8⟩, ⟨x.setWidth 8⟩]
def St.bytes (s : St) : List UInt8 := b4 s.a ++ b4 s.b ++ b4 s.c ++ b4 s.d ++ b4 s.e ++ b4 s.f ++ b4 s.g ++ b4 s.h
/-- the blocks of 64 -/
def eatN : Nat → St → List UInt8 → St × List UInt8
  | 0, s, l => (s, l)
  | n + 1, s, l => if l.length < 64 then (s, l) else eatN n (s.block (l.take 64)) (l.drop 64)
def eat (s : St) (l : List UInt8) : St × List UInt8 := eatN (l.length / 64) s l
theorem eat_small {s : St} {l : List UInt8} (h : l.length < 64) : eat s l = (s, l) := by
  unfold eat
  have : l.length / 64 = 0 := by omega
  rw [this, eatN]
theorem eat_big {s : St} {l : List UInt8} (h : 64 ≤ l.length) : eat s l = eat (s.block (l.take 64)) (l.drop 64) := by
  unfold eat
  have : l.length / 64 = (l.drop 64).length / 64 + 1 := by simp; omega
  rw [this, eatN, if_neg (by omega)]
theorem eat_len (n : Nat) : ∀ (s : St) (l : List UInt8), l.length ≤ n → (eat s l).2.length = l.length % 64 := by
  induction n with
  | zero => intro s l h; rw [eat_small (by omega)]; show l.length = _; omega
  | succ n ih =>
    intro s l h
    rcases Nat.lt_or_ge l.length 64 with h1 | h1
    · rw [eat_small h1]; show l.length = _; omega
    · rw [eat_big h1, ih _ _ (by simp; omega)]; simp; omega
theorem eat_append (n : Nat) : ∀ (s : St) (l m : List UInt8), l.length ≤ n → eat s (l ++ m) = eat (eat s l).1 ((eat s l).2 ++ m) := by
  induction n with
  | zero => intro s l m h; rw [eat_small (s := s) (l := l) (by omega)]
  | succ n ih =>
    intro s l m h
    rcases Nat.lt_or_ge l.length 64 with h1 | h1
    · rw [eat_small (s := s) h1]
    · rw [eat_big (s := s) h1, ← ih _ _ _ (by simp; omega), eat_big (l := l ++ m) (by simp; omega), List.take_append_of_le_length h1, List.drop_append_of_le_length h1]
def zeros (n : Nat) : Nat := (119 - n % 64) % 64
theorem zeros_lt (n : Nat) : zeros n < 64 := Nat.mod_lt _ (by omega)
theorem zeros_is (n k : Nat) (hk : k ≤ zeros n) : (n + 1 + k) % 64 = 56 ↔ k = zeros n := by unfold zeros at *; omega
/-- the length's eight bytes -/
def len8 (n : Nat) : List UInt8 := [56, 48, 40, 32, 24, 16, 8, 0].map fun i => UInt8.ofNat (n * 8 % 18446744073709551616 / 2 ^ i)
def pad (n : Nat) : List UInt8 := 0x80 :: (List.replicate (zeros n) 0 ++ len8 n)
theorem pad_len (n : Nat) : (n + (pad n).length) % 64 = 0 := by simp [pad, len8, zeros]; omega
/-- SHA-256 of a list of bytes -/
def sha (l : List UInt8) : List UInt8 := (eat St.begin (l ++ pad l.length)).1.bytes
theorem sha_len (l : List UInt8) : (sha l).length = 32 := rfl
theorem sha_go (l : List UInt8) : sha l = (eat (eat St.begin l).1 ((eat St.begin l).2 ++ pad l.length)).1.bytes := by
  unfold sha; rw [eat_append _ _ _ _ (Nat.le_refl _)]
theorem sha_abc : (sha [0x61, 0x62, 0x63])[0]? = some 0xba := by decide +kernel
theorem sha_nil : (sha [])[31]? = some 0x55 := by decide +kernel
theorem crc_digits : crc [0x31,0x32,0x33,0x34,0x35,0x36,0x37,0x38,0x39] = 0xcbf43926 := by decide +kernel
end Go.Proofs.Ythghflfgldcmbaa
