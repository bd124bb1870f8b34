/- SHA-256, plainly. -/
import Derived.Test.YthkjfepbmnabkaaDoorU32
namespace Go.Proofs.YthkjfepbmnabkaaDoor.Sha

def K : List UInt32 := [
    0x428a2f98, 0x71374491, 0xb5c0fbcf, 0xe9b5dba5, 0x3956c25b, 0x59f111f1, 0x923f82a4, 0xab1c5ed5,
    0xd807aa98, 0x12835b01, 0x243185be, 0x550c7dc3, 0x72be5d74, 0x80deb1fe, 0x9bdc06a7, 0xc19bf174,
    0xe49b69c1, 0xefbe4786, 0x0fc19dc6, 0x240ca1cc, 0x2de92c6f, 0x4a7484aa, 0x5cb0a9dc, 0x76f988da,
    0x983e5152, 0xa831c66d, 0xb00327c8, 0xbf597fc7, 0xc6e00bf3, 0xd5a79147, 0x06ca6351, 0x14292967,
    0x27b70a85, 0x2e1b2138, 0x4d2c6dfc, 0x53380d13, 0x650a7354, 0x766a0abb, 0x81c2c92e, 0x92722c85,
    0xa2bfe8a1, 0xa81a664b, 0xc24b8b70, 0xc76c51a3, 0xd192e819, 0xd6990624, 0xf40e3585, 0x106aa070,
    0x19a4c116, 0x1e376c08, 0x2748774c, 0x34b0bcb5, 0x391c0cb3, 0x4ed8aa4a, 0x5b9cca4f, 0x682e6ff3,
    0x748f82ee, 0x78a5636f, 0x84c87814, 0x8cc70208, 0x90befffa, 0xa4506ceb, 0xbef9a3f7, 0xc67178f2]

/-- A word turned to the right. -/
def rotr (x : UInt32) (n : Nat) : UInt32 := x >>> UInt32.ofNat n ||| x <<< UInt32.ofNat (32 - n)
theorem rotl_eq (x : UInt32) (n : Nat) : x <<< UInt32.ofNat (32 - n) ||| x >>> UInt32.ofNat n = rotr x n := by unfold rotr; exact UInt32.or_comm _ _
def word (a b c d : UInt8) : UInt32 := UInt32.ofNat (a.toNat * 16777216 + b.toNat * 65536 + c.toNat * 256 + d.toNat)
/-- The word of a text's four bytes from 4i on. -/
def wordAt (p : List UInt8) (i : Nat) : UInt32 := word (p.getD (4 * i) 0) (p.getD (4 * i + 1) 0) (p.getD (4 * i + 2) 0) (p.getD (4 * i + 3) 0)
def s0 (a : UInt32) : UInt32 := rotr a 7 ^^^ rotr a 18 ^^^ a >>> 3
def s1 (b : UInt32) : UInt32 := rotr b 17 ^^^ rotr b 19 ^^^ b >>> 10
def nxt (w : List UInt32) (i : Nat) : UInt32 := w.getD (i - 16) 0 + s0 (w.getD (i - 15) 0) + w.getD (i - 7) 0 + s1 (w.getD (i - 2) 0)
/-- The first n words. -/
def sched (p : List UInt8) : Nat → List UInt32
  | 0 => []
  | n + 1 => let w := sched p n; w ++ [if n < 16 then wordAt p n else nxt w n]
theorem sched_len (p : List UInt8) : ∀ n, (sched p n).length = n
  | 0 => rfl
  | n + 1 => by simp [sched, sched_len p n]
theorem sched_get (p : List UInt8) : ∀ (m n i : Nat), i < n → n ≤ m → (sched p m)[i]? = (sched p n)[i]?
  | 0, n, i, h1, h2 => by omega
  | m + 1, n, i, h1, h2 => by
    by_cases hm : n = m + 1
    · subst hm; rfl
    · rw [sched, List.getElem?_append_left (by rw [sched_len]; omega)]
      exact sched_get p m n i h1 (by omega)
def W (p : List UInt8) : List UInt32 := sched p 64
theorem W_len (p : List UInt8) : (W p).length = 64 := sched_len p 64
theorem W_take (p : List UInt8) {n : Nat} (h : n ≤ 64) : (W p).take n = sched p n := by
  refine List.ext_getElem? fun i => ?_
  rw [List.getElem?_take]
  split
  · rename_i hi; exact sched_get p 64 n i hi h
  · rw [List.getElem?_eq_none]; rw [sched_len]; omega

structure S8 where
  a : UInt32
  b : UInt32
  c : UInt32
  d : UInt32
  e : UInt32
  f : UInt32
  g : UInt32
  h : UInt32
def S8.l (s : S8) : List UInt32 := [s.a, s.b, s.c, s.d, s.e, s.f, s.g, s.h]
def first : S8 := ⟨0x6a09e667, 0xbb67ae85, 0x3c6ef372, 0xa54ff53a, 0x510e527f, 0x9b05688c, 0x1f83d9ab, 0x5be0cd19⟩
def S8.x (s : S8) (k w : UInt32) : UInt32 := s.h + (rotr s.e 6 ^^^ rotr s.e 11 ^^^ rotr s.e 25) + (s.e &&& s.f ^^^ ~~~ s.e &&& s.g) + k + w
def S8.y (s : S8) : UInt32 := rotr s.a 2 ^^^ rotr s.a 13 ^^^ rotr s.a 22
def S8.z (s : S8) : UInt32 := s.a &&& s.b ^^^ s.a &&& s.c ^^^ s.b &&& s.c
def S8.round (s : S8) (k w : UInt32) : S8 := ⟨s.x k w + s.y + s.z, s.a, s.b, s.c, s.d + s.x k w, s.e, s.f, s.g⟩
def rounds (s : S8) (w : List UInt32) : Nat → S8
  | 0 => s
  | n + 1 => (rounds s w n).round (K.getD n 0) (w.getD n 0)
def S8.add (s t : S8) : S8 := ⟨s.a + t.a, s.b + t.b, s.c + t.c, s.d + t.d, s.e + t.e, s.f + t.f, s.g + t.g, s.h + t.h⟩
def step (s : S8) (p : List UInt8) : S8 := s.add (rounds s (W p) 64)
/-- So many blocks. -/
def go : Nat → S8 → List UInt8 → S8
  | 0, s, _ => s
  | n + 1, s, p => go n (step s (p.take 64)) (p.drop 64)
def b4 (x : UInt32) : List UInt8 := [(x >>> 24).toUInt8, (x >>> 16).toUInt8, (x >>> 8).toUInt8, x.toUInt8]
def out (s : S8) : List UInt8 := s.l.flatMap b4
/-- A number's eight bytes. -/
def long (n : Nat) : List UInt8 := [56, 48, 40, 32, 24, 16, 8, 0].map fun k => UInt8.ofNat (n / 2 ^ k)
def zeros (n : Nat) : Nat := (119 - n % 64) % 64
def ends (n : Nat) : List UInt8 := 0x80 :: (List.replicate (zeros n) 0 ++ long (8 * n))
theorem long_len (n : Nat) : (long n).length = 8 := rfl
theorem ends_len (n : Nat) : (ends n).length = 9 + zeros n := by simp [ends, long_len]; omega
theorem pad_mod (p : List UInt8) : (p ++ ends p.length).length % 64 = 0 := by
  rw [List.length_append, ends_len]; unfold zeros; omega
def sum (p : List UInt8) : List UInt8 := let q := p ++ ends p.length; out (go (q.length / 64) first q)
theorem b4_len (x : UInt32) : (b4 x).length = 4 := rfl
theorem out_len (s : S8) : (out s).length = 32 := rfl
theorem sum_len (p : List UInt8) : (sum p).length = 32 := out_len _
end Go.Proofs.YthkjfepbmnabkaaDoor.Sha
