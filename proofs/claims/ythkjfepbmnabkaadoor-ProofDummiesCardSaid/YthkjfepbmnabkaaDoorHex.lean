/- Bytes as digits. -/
import Derived.Test.YthkjfepbmnabkaaDoorBld
import Derived.Test.YthkjfepbmnabkaaDoorBk1
namespace Go.Proofs.YthkjfepbmnabkaaDoor.Sx
open Go
attribute [local irreducible] Calls

def dgs : List UInt8 := [48, 49, 50, 51, 52, 53, 54, 55, 56, 57, 97, 98, 99, 100, 101, 102]
def hex2 (x : UInt8) : List UInt8 := [dgs.getD (x.toNat / 16) 0, dgs.getD (x.toNat % 16) 0]
def hexB (l : List UInt8) : List UInt8 := l.flatMap hex2
theorem hexB_len (l : List UInt8) : (hexB l).length = 2 * l.length := by
  induction l with
  | nil => rfl
  | cons x r ih => simp only [hexB, List.flatMap_cons, List.length_append, List.length_cons] at ih ⊢; rw [ih]; simp [hex2]; omega
theorem hexB_snoc (l : List UInt8) (x : UInt8) : hexB (l ++ [x]) = hexB l ++ [dgs.getD (x.toNat / 16) 0] ++ [dgs.getD (x.toNat % 16) 0] := by simp [hexB, hex2]
theorem dgs_at {k : Nat} (h : k < 16) : dgs[k]? = some (dgs.getD k 0) := by
  have hk : k < dgs.length := h
  simp [hk]
theorem and15 (x : UInt8) : bits .and .u8 (x.toNat : Int) 15 = ((x.toNat % 16 : Nat) : Int) := by
  show IntKind.u8.wrap (((BitVec.ofInt 8 (x.toNat : Int)) &&& (BitVec.ofInt 8 15)).toNat : Int) = _
  have h1 : BitVec.ofInt 8 (x.toNat : Int) = x.toBitVec := by
    apply BitVec.eq_of_toNat_eq
    rw [BitVec.toNat_ofInt]
    have := x.toNat_lt
    have e : x.toBitVec.toNat = x.toNat := rfl
    rw [e]
    omega
  have h2 : (BitVec.ofInt 8 15).toNat = 2 ^ 4 - 1 := by decide
  rw [h1, BitVec.toNat_and, h2, Nat.and_two_pow_sub_one_eq_mod, wrap_u8]
  have e : x.toBitVec.toNat = x.toNat := rfl
  rw [e]
  omega

structure HxS where
  k : Nat
  p : Value
  A : Option Addr
  c : Nat
theorem hex_c (w : World) (A : Option Addr) (l : List UInt8) (c : Nat) (hr : Bs w A l) (hne : l ≠ []) (hn : l.length ≤ 1000000) : Pu Tryd.prog n_b64_Hex #[.slice A l.length c] w (.string ⟨(hexB l).toArray⟩) := by
  have g := good_b64_Hex w (Un [])
  have hl0 : 0 < l.length := List.length_pos_iff.2 hne
  refine con_of_sx (cx := cx_b64_Hex w (Un [])) g b_b64_Hex rfl rfl (β := Va.z) [.c (.v (.slice A l.length c))] 0 [] [bsF A l] rfl rfl ((Sat.start rfl).rd (fun _ h => by cases h) hr) ?_
  refine reify_rule g 0 (fun _ => [.pointer none, .slice none 0 0]) rfl rfl (fun _ => rfl) (fun b => ?_)
  refine loop_rule 1 (fun i : HxS => [(6, .c (.v (.slice A l.length c))), (7, .c (.v (.int .i64 l.length))), (8, .c (.v (.int .i64 i.k))), (3, .c (.v (selfV b)))]) (fun _ => []) (fun i => bldF b i.p i.A (hexB (l.take i.k)) i.c ++ [bsF A l])
    (fun i => i.k ≤ l.length ∧ (i.p = .pointer none ∨ i.p = selfV b)) (fun i => l.length - i.k) ⟨0, .pointer none, none, 0⟩ ⟨Nat.zero_le _, .inl rfl⟩ (Ent.mk' ⟨rfl, rfl, rfl, rfl, trivial⟩ rfl ?_) g ?_
  · intro β w' hs
    exact (hs.nilRow ty_uint8 1).perm [1, 0, 2]
  rintro ⟨k, p, A1, c1⟩ ⟨hk, hp⟩
  simp only at hk hp
  have hx0 := hexB_len (l.take k)
  have htl : (l.take k).length ≤ l.length := by simp; omega
  refine BIf.dec (fun hlt => ?_) (fun hge => ?_)
  · have hlt0 : (k : Int) < l.length := hlt
    have hlt : k < l.length := by omega
    obtain ⟨ad, hA⟩ := Bs.addr hr (by omega)
    have hb := l[k].toNat_lt
    refine ⟨ad, k, hA, rfl, hlt, byte l[k], fun β w hs => Bs.cell (hs.get 2 rfl) hA hlt, ?_⟩
    refine ⟨by decide, ((l[k].toNat / 16 : Nat) : Int), shr_nat _ 4, ?_⟩
    refine ⟨l[k].toNat / 16, _, rfl, dgs_at (by omega), ?_⟩
    refine call_con [0, 1] (fun β w' hs => writeByte_c w' b p A1 (hexB (l.take k)) c1 _ hp (by omega) (hs.mem.take (js := [0, 1]) rfl)) ?_
    rintro v Fs ⟨rfl, A2, c2, rfl⟩
    refine ⟨_, and15 l[k], ?_⟩
    refine ⟨l[k].toNat % 16, _, rfl, dgs_at (by omega), ?_⟩
    refine call_con [0, 1] (fun β w' hs => writeByte_c w' b (selfV b) A2 _ c2 _ (.inr rfl) (by simp only [List.length_append, List.length_cons, List.length_nil]; omega) (hs.mem.take (js := [0, 1]) rfl)) ?_
    rintro v Fs ⟨rfl, A3, c3, rfl⟩
    refine ⟨((k + 1 : Nat) : Int), by rw [wrap_i64 (by omega) (by omega)]; rfl, ?_⟩
    refine ⟨⟨k + 1, selfV b, A3, c3⟩, ⟨hlt, .inr rfl⟩, by show l.length - (k + 1) < l.length - k; omega, ?_⟩
    have e : hexB (l.take (k + 1)) = hexB (l.take k) ++ [dgs.getD (l[k].toNat / 16) 0] ++ [dgs.getD (l[k].toNat % 16) 0] := by rw [take_snoc l k hlt, hexB_snoc]
    refine Ent.mk' ⟨rfl, rfl, rfl, rfl, trivial⟩ rfl ?_
    intro β w' hs
    show Sat _ _ _ _ (bldF b (selfV b) A3 (hexB (l.take (k + 1))) c3 ++ [bsF A l]) _
    rw [e]
    exact hs
  · have hge0 : ¬ (k : Int) < l.length := hge
    have hke : k = l.length := by omega
    subst hke
    have hn2 : hexB (l.take l.length) ≠ [] := by
      intro q
      have := congrArg List.length q
      rw [hx0] at this
      simp at this
      omega
    refine call_con [0, 1] (fun β w' hs => text_c w' b p A1 _ c1 hn2 (hs.mem.take (js := [0, 1]) rfl)) ?_
    rintro v Fs ⟨rfl, rfl⟩
    intro β w' hs
    refine hs.fin [] ⟨?_, rfl⟩
    rw [List.take_length]
    rfl
end Go.Proofs.YthkjfepbmnabkaaDoor.Sx
