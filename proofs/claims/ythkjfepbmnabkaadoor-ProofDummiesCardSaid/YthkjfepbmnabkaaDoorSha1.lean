/- The words' own functions. -/
import Derived.Test.YthkjfepbmnabkaaDoorSxPlus
import Derived.Test.YthkjfepbmnabkaaDoorShaL
import Derived.Test.YthkjfepbmnabkaaDoorTab
namespace Go.Proofs.YthkjfepbmnabkaaDoor.Sx
open Go Sha
attribute [local irreducible] Calls

theorem rotl_c (w : World) (x : UInt32) (n : Nat) (h1 : 1 ≤ n) (h2 : n < 32) : Pu Tryd.prog n_math_bits_RotateLeft32 #[u32 x, .int .i64 (-(n : Int))] w (u32 (rotr x n)) := by
  refine pu_of (calls_of_sx (cx := cx_math_bits_RotateLeft32 w None_) (good_math_bits_RotateLeft32 w None_) b_math_bits_RotateLeft32 rfl rfl (β := Va.z) [.c (.v (u32 x)), .c (.v (.int .i64 (-(n : Int))))] 0 [] [] rfl rfl (Sat.start rfl) ?_)
  refine ⟨_, rfl, ?_⟩
  refine ⟨((32 - n : Nat) : Int), ?_, ?_⟩
  · have : ∀ n : _root_.Fin 32, 1 ≤ n.val → bits .and .u64 (IntKind.u64.wrap (-(n.val : Int))) 31 = ((32 - n.val : Nat) : Int) := by decide
    exact this ⟨n, h2⟩ h1
  refine ⟨by omega, _, shl32 x (32 - n) (by omega), ?_⟩
  refine ⟨(n : Int), by show IntKind.u64.wrap _ = _; simp only [IntKind.wrap, IntKind.bits, IntKind.signed]; simp; omega, ?_⟩
  refine ⟨by omega, _, shr32 x n h2, ?_⟩
  refine ⟨_, or32 _ _, ?_⟩
  intro β w' hs
  refine ⟨?_, hs.chg⟩
  rw [← rotl_eq]
  rfl
theorem turn_c (w : World) (x : UInt32) (n : Nat) (h1 : 1 ≤ n) (h2 : n < 32) : Pu Tryd.prog n_ostiaryref01_turn #[u32 x, .int .u64 (n : Int)] w (u32 (rotr x n)) := by
  refine pu_of (calls_of_sx (cx := cx_ostiaryref01_turn w None_) (good_ostiaryref01_turn w None_) b_ostiaryref01_turn rfl rfl (β := Va.z) [.c (.v (u32 x)), .c (.v (.int .u64 (n : Int)))] 0 [] [] rfl rfl (Sat.start rfl) ?_)
  refine ⟨by omega, _, shr32 x n h2, ?_⟩
  refine ⟨((32 - n : Nat) : Int), by show IntKind.u64.wrap _ = _; simp only [IntKind.wrap, IntKind.bits, IntKind.signed]; simp; omega, ?_⟩
  refine ⟨by omega, _, shl32 x (32 - n) (by omega), ?_⟩
  refine ⟨_, or32 _ _, ?_⟩
  intro β w' hs
  exact ⟨rfl, hs.chg⟩
theorem or_add {x y k : Nat} (h : y < 2 ^ k) : 2 ^ k * x ||| y = 2 ^ k * x + y := (Nat.two_pow_add_eq_or_of_lt h x).symm
theorem word_or (a b c d : UInt8) : ((UInt32.ofNat a.toNat <<< UInt32.ofNat 24 ||| UInt32.ofNat b.toNat <<< UInt32.ofNat 16) ||| UInt32.ofNat c.toNat <<< UInt32.ofNat 8) ||| UInt32.ofNat d.toNat = word a b c d := by
  apply UInt32.toNat_inj.1
  have h1 := a.toNat_lt
  have h2 := b.toNat_lt
  have h3 := c.toNat_lt
  have h4 := d.toNat_lt
  have sh : ∀ (x : UInt8) (n : Nat), n ≤ 24 → (UInt32.ofNat x.toNat <<< UInt32.ofNat n).toNat = 2 ^ n * x.toNat := by
    intro x n hn
    have hx := x.toNat_lt
    rw [UInt32.toNat_shiftLeft, UInt32.toNat_ofNat', UInt32.toNat_ofNat', Nat.mod_eq_of_lt (show n < 2 ^ 32 by omega), Nat.mod_eq_of_lt (show n < 32 by omega), Nat.shiftLeft_eq, Nat.mod_eq_of_lt (show x.toNat < 2 ^ 32 by omega), Nat.mul_comm]
    refine Nat.mod_eq_of_lt ?_
    have : 2 ^ n ≤ 2 ^ 24 := Nat.pow_le_pow_right (by omega) hn
    calc 2 ^ n * x.toNat ≤ 2 ^ 24 * x.toNat := Nat.mul_le_mul_right _ this
      _ < 2 ^ 32 := by omega
  unfold word
  simp only [UInt32.toNat_or, sh a 24 (by omega), sh b 16 (by omega), sh c 8 (by omega), UInt32.toNat_ofNat']
  rw [Nat.mod_eq_of_lt (show d.toNat < 2 ^ 32 by omega)]
  rw [or_add (show 2 ^ 16 * b.toNat < 2 ^ 24 by omega)]
  rw [show 2 ^ 24 * a.toNat + 2 ^ 16 * b.toNat = 2 ^ 16 * (256 * a.toNat + b.toNat) by omega, or_add (show 2 ^ 8 * c.toNat < 2 ^ 16 by omega)]
  rw [show 2 ^ 16 * (256 * a.toNat + b.toNat) + 2 ^ 8 * c.toNat = 2 ^ 8 * (256 * (256 * a.toNat + b.toNat) + c.toNat) by omega, or_add (show d.toNat < 2 ^ 8 by omega)]
  omega
theorem word_c (w : World) (A : Option Addr) (l : List UInt8) (c : Nat) (hr : Bs w A l) (x y z u : UInt8) (h0 : l[0]? = some x) (h1 : l[1]? = some y) (h2 : l[2]? = some z) (h3 : l[3]? = some u) :
    Pu Tryd.prog n_sha_word #[.slice A l.length c] w (u32 (word x y z u)) := by
  obtain ⟨k0, e0⟩ := List.getElem?_eq_some_iff.1 h0
  obtain ⟨k1, e1⟩ := List.getElem?_eq_some_iff.1 h1
  obtain ⟨k2, e2⟩ := List.getElem?_eq_some_iff.1 h2
  obtain ⟨k3, e3⟩ := List.getElem?_eq_some_iff.1 h3
  have g := good_sha_word w None_
  obtain ⟨ad, hA⟩ := Bs.addr hr (by omega)
  have cv : ∀ b : UInt8, IntKind.u32.wrap (b.toNat : Int) = ((UInt32.ofNat b.toNat).toNat : Int) := fun b => wrap32_nat _
  refine pu_of (calls_of_sx (cx := cx_sha_word w None_) g b_sha_word rfl rfl (β := Va.z) [.c (.v (.slice A l.length c))] 0 [] [bsF A l] rfl rfl ((Sat.start rfl).rd (fun _ h => by cases h) hr) ?_)
  refine draw_rule g p_sha_word_1 (by kernel_rfl) _ _ Sub.refl ?_
  refine ⟨ad, 0, hA, rfl, k0, byte x, fun β w hs => by rw [← e0]; exact Bs.cell (hs.get 0 rfl : Bs w A _) hA (j := 0) k0, ?_⟩
  refine ⟨_, cv x, by omega, _, shl32 (UInt32.ofNat x.toNat) 24 (by omega), ?_⟩
  refine ⟨ad, 1, hA, rfl, k1, byte y, fun β w hs => by rw [← e1]; exact Bs.cell (hs.get 0 rfl : Bs w A _) hA (j := 1) k1, ?_⟩
  refine ⟨_, cv y, by omega, _, shl32 (UInt32.ofNat y.toNat) 16 (by omega), ?_⟩
  refine ⟨_, or32 _ _, ?_⟩
  refine ⟨ad, 2, hA, rfl, k2, byte z, fun β w hs => by rw [← e2]; exact Bs.cell (hs.get 0 rfl : Bs w A _) hA (j := 2) k2, ?_⟩
  refine ⟨_, cv z, by omega, _, shl32 (UInt32.ofNat z.toNat) 8 (by omega), ?_⟩
  refine ⟨_, or32 _ _, ?_⟩
  refine ⟨ad, 3, hA, rfl, k3, byte u, fun β w hs => by rw [← e3]; exact Bs.cell (hs.get 0 rfl : Bs w A _) hA (j := 3) k3, ?_⟩
  refine ⟨_, cv u, _, or32 _ _, ?_⟩
  intro β w' hs
  refine ⟨?_, hs.chg⟩
  rw [← word_or]
  rfl
end Go.Proofs.YthkjfepbmnabkaaDoor.Sx
