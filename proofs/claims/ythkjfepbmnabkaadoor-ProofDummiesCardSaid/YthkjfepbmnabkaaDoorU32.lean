/- Words of 32 bits: what the model's operations on them are. -/
import Derived.Test.YthkjfepbmnabkaaDoorSxOpen
namespace Go.Proofs.YthkjfepbmnabkaaDoor.Sx
open Go

def u32 (x : UInt32) : Value := .int .u32 (x.toNat : Int)
theorem wrap_u32 (x : Int) : IntKind.u32.wrap x = x % 4294967296 := by simp [IntKind.wrap, IntKind.bits, IntKind.signed]
theorem wrap32_nat (x : Nat) : IntKind.u32.wrap (x : Int) = ((UInt32.ofNat x).toNat : Int) := by
  rw [wrap_u32, UInt32.toNat_ofNat']
  omega
theorem add32 (a b : UInt32) : IntKind.u32.wrap ((a.toNat : Int) + (b.toNat : Int)) = ((a + b).toNat : Int) := by
  rw [wrap_u32, UInt32.toNat_add]
  omega
theorem ofInt32 (a : UInt32) : BitVec.ofInt 32 (a.toNat : Int) = a.toBitVec := by
  apply BitVec.eq_of_toNat_eq
  rw [BitVec.toNat_ofInt]
  have := a.toNat_lt
  have e : a.toBitVec.toNat = a.toNat := rfl
  rw [e]
  omega
theorem back32 (x : BitVec 32) : IntKind.u32.wrap (x.toNat : Int) = ((UInt32.ofBitVec x).toNat : Int) := by
  rw [wrap_u32]
  have := x.isLt
  have e : (UInt32.ofBitVec x).toNat = x.toNat := rfl
  rw [e]
  omega
theorem xor32 (a b : UInt32) : bits .xor .u32 (a.toNat : Int) (b.toNat : Int) = ((a ^^^ b).toNat : Int) := by
  show IntKind.u32.wrap (((BitVec.ofInt 32 (a.toNat : Int)) ^^^ (BitVec.ofInt 32 (b.toNat : Int))).toNat : Int) = _
  rw [ofInt32, ofInt32, back32]
  rfl
theorem and32 (a b : UInt32) : bits .and .u32 (a.toNat : Int) (b.toNat : Int) = ((a &&& b).toNat : Int) := by
  show IntKind.u32.wrap (((BitVec.ofInt 32 (a.toNat : Int)) &&& (BitVec.ofInt 32 (b.toNat : Int))).toNat : Int) = _
  rw [ofInt32, ofInt32, back32]
  rfl
theorem or32 (a b : UInt32) : bits .or .u32 (a.toNat : Int) (b.toNat : Int) = ((a ||| b).toNat : Int) := by
  show IntKind.u32.wrap (((BitVec.ofInt 32 (a.toNat : Int)) ||| (BitVec.ofInt 32 (b.toNat : Int))).toNat : Int) = _
  rw [ofInt32, ofInt32, back32]
  rfl
theorem not32 (a : UInt32) : bits .xor .u32 (if IntKind.u32.signed then -1 else IntKind.u32.max) (a.toNat : Int) = ((~~~ a).toNat : Int) := by
  show IntKind.u32.wrap (((BitVec.ofInt 32 4294967295) ^^^ (BitVec.ofInt 32 (a.toNat : Int))).toNat : Int) = _
  rw [ofInt32, back32]
  have e : UInt32.ofBitVec (BitVec.ofInt 32 4294967295 ^^^ a.toBitVec) = ~~~ a := by
    apply UInt32.toBitVec_inj.1
    show BitVec.ofInt 32 4294967295 ^^^ a.toBitVec = ~~~ a.toBitVec
    have : BitVec.ofInt 32 4294967295 = BitVec.allOnes 32 := by decide
    rw [this, BitVec.allOnes_xor]
  rw [e]
/-- A shift by a number below 32. -/
theorem shl32 (a : UInt32) (n : Nat) (hn : n < 32) : IntKind.u32.wrap ((a.toNat : Int) * 2 ^ (min (n : Int).toNat IntKind.u32.bits)) = ((a <<< UInt32.ofNat n).toNat : Int) := by
  have h1 : min (n : Int).toNat IntKind.u32.bits = n := by show min n 32 = n; omega
  rw [h1, wrap_u32, UInt32.toNat_shiftLeft, UInt32.toNat_ofNat', Nat.mod_eq_of_lt (show n < 2 ^ 32 by omega), Nat.mod_eq_of_lt hn, Nat.shiftLeft_eq]
  have : ((a.toNat : Int) * 2 ^ n) = ((a.toNat * 2 ^ n : Nat) : Int) := by push_cast; rfl
  rw [this]
  omega
theorem shr32 (a : UInt32) (n : Nat) (hn : n < 32) : (a.toNat : Int).fdiv (2 ^ (min (n : Int).toNat IntKind.u32.bits)) = ((a >>> UInt32.ofNat n).toNat : Int) := by
  have h1 : min (n : Int).toNat IntKind.u32.bits = n := by show min n 32 = n; omega
  rw [h1, UInt32.toNat_shiftRight, UInt32.toNat_ofNat', Nat.mod_eq_of_lt (show n < 2 ^ 32 by omega), Nat.mod_eq_of_lt hn, Nat.shiftRight_eq_div_pow]
  have : (2 ^ n : Int) = ((2 ^ n : Nat) : Int) := by push_cast; rfl
  rw [this, Int.fdiv_eq_ediv_of_nonneg _ (Int.natCast_nonneg _)]
  exact (Int.natCast_ediv _ _).symm
#print axioms shr32
end Go.Proofs.YthkjfepbmnabkaaDoor.Sx
