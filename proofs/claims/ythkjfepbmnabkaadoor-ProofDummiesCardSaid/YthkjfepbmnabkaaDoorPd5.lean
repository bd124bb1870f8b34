/- Bytes compared without haste. -/
import Derived.Test.YthkjfepbmnabkaaDoorPd4
namespace Go.Proofs.YthkjfepbmnabkaaDoor.Sx
open Go Sha
attribute [local irreducible] Calls

theorem ofInt8 (a : UInt8) : BitVec.ofInt 8 (a.toNat : Int) = a.toBitVec := by
  apply BitVec.eq_of_toNat_eq
  rw [BitVec.toNat_ofInt]
  have := a.toNat_lt
  have e : a.toBitVec.toNat = a.toNat := rfl
  rw [e]
  omega
theorem back8 (x : BitVec 8) : IntKind.u8.wrap (x.toNat : Int) = ((UInt8.ofBitVec x).toNat : Int) := by
  rw [wrap_u8]
  have := x.isLt
  have e : (UInt8.ofBitVec x).toNat = x.toNat := rfl
  rw [e]
  omega
theorem xor8 (a b : UInt8) : bits .xor .u8 (a.toNat : Int) (b.toNat : Int) = ((a ^^^ b).toNat : Int) := by
  show IntKind.u8.wrap (((BitVec.ofInt 8 (a.toNat : Int)) ^^^ (BitVec.ofInt 8 (b.toNat : Int))).toNat : Int) = _
  rw [ofInt8, ofInt8, back8]
  rfl
theorem or8 (a b : UInt8) : bits .or .u8 (a.toNat : Int) (b.toNat : Int) = ((a ||| b).toNat : Int) := by
  show IntKind.u8.wrap (((BitVec.ofInt 8 (a.toNat : Int)) ||| (BitVec.ofInt 8 (b.toNat : Int))).toNat : Int) = _
  rw [ofInt8, ofInt8, back8]
  rfl

theorem equal_c (w : World) (A B : Option Addr) (l m : List UInt8) (c d : Nat) (hl : Bs w A l) (hm : Bs w B m) (hn : l.length ≤ 70368744177664) : Pu Tryd.prog n_hmac_Equal #[.slice A l.length c, .slice B m.length d] w (.bool (decide (l = m))) := by
  have g := good_hmac_Equal w None_
  refine pu_of (calls_of_sx (cx := cx_hmac_Equal w None_) g b_hmac_Equal rfl rfl (β := Va.z) [.c (.v (.slice A l.length c)), .c (.v (.slice B m.length d))] 0 [] [oldF w] rfl rfl (old_sat rfl) ?_)
  refine BIf.not (BIf.dec (fun h0 => ?_) (fun h0 => ?_))
  · have hlen : m.length = l.length := by omega
    refine loop_rule (ι := Nat × UInt8) 0 (fun i => [(0, .c (.v (.slice A l.length c))), (1, .c (.v (.slice B m.length d))), (13, .c (.v (.int .i64 l.length))), (14, .c (.v (.int .i64 i.1))), (5, .c (.v (byte i.2)))]) (fun _ => []) (fun _ => [oldF w])
      (fun i => i.1 ≤ l.length ∧ (i.2 = 0 ↔ l.take i.1 = m.take i.1)) (fun i => l.length - i.1) (0, 0) ⟨Nat.zero_le _, by simp⟩ (Ent.same ⟨rfl, rfl, rfl, rfl, rfl, trivial⟩ rfl) g ?_
    rintro ⟨i, acc⟩ ⟨hi, hacc⟩
    simp only at hi hacc
    refine BIf.dec (fun hlt => ?_) (fun hge => ?_)
    · have hlt : i < l.length := by omega
      have hlt2 : i < m.length := by omega
      obtain ⟨ad, hA⟩ := Bs.addr hl (by omega)
      obtain ⟨bd, hB⟩ := Bs.addr hm (by omega)
      refine draw_rule g p_hmac_Equal_7 (by kernel_rfl) _ _ Sub.refl ?_
      refine ⟨ad, i, hA, rfl, hlt, byte l[i], fun β w' hs => Bs.cell (Rd.old hl (hs.get 0 rfl)) hA hlt, ?_⟩
      refine ⟨bd, i, hB, rfl, hlt2, byte m[i], fun β w' hs => Bs.cell (Rd.old hm (hs.get 0 rfl)) hB hlt2, ?_⟩
      refine ⟨_, xor8 _ _, _, or8 _ _, ?_⟩
      refine ⟨((i + 1 : Nat) : Int), by rw [wrap_i64 (by omega) (by omega)]; rfl, ?_⟩
      refine ⟨(i + 1, acc ||| (l[i] ^^^ m[i])), ⟨hlt, ?_⟩, by show l.length - (i + 1) < l.length - i; omega, Ent.same ⟨rfl, rfl, rfl, rfl, rfl, trivial⟩ rfl⟩
      show acc ||| (l[i] ^^^ m[i]) = 0 ↔ l.take (i + 1) = m.take (i + 1)
      rw [take_snoc l i hlt, take_snoc m i hlt2, UInt8.or_eq_zero_iff, UInt8.xor_eq_zero_iff, hacc]
      constructor
      · rintro ⟨h1, h2⟩; rw [h1, h2]
      · intro h
        have := List.append_inj' h rfl
        exact ⟨this.1, by simpa using this.2⟩
    · have hi2 : i = l.length := by omega
      intro β w' hs
      refine ⟨?_, hs.chg⟩
      show Value.bool (decide ((acc.toNat : Int) = 0)) = _
      congr 1
      rw [hi2, List.take_length, List.take_of_length_le (by omega)] at hacc
      refine decide_eq_decide.2 ⟨fun h => hacc.1 (UInt8.toNat_inj.1 (by show acc.toNat = 0; omega)), fun h => by rw [hacc.2 h]; rfl⟩
  · intro β w' hs
    refine ⟨?_, hs.chg⟩
    show Value.bool false = _
    congr 1
    exact (decide_eq_false (fun h => h0 (by rw [h]))).symm
theorem pequal_c (w : World) (A B : Option Addr) (l m : List UInt8) (c d : Nat) (hl : Bs w A l) (hm : Bs w B m) (hn : l.length ≤ 70368744177664) : Pu Tryd.prog n_proof_Equal #[.slice A l.length c, .slice B m.length d] w (.bool (decide (l = m))) := by
  refine pu_of (calls_of_sx (cx := cx_proof_Equal w None_) (good_proof_Equal w None_) b_proof_Equal rfl rfl (β := Va.z) [.c (.v (.slice A l.length c)), .c (.v (.slice B m.length d))] 0 [] [oldF w] rfl rfl (old_sat rfl) ?_)
  refine call_pu (fun β w' hs => equal_c w' A B l m c d (Rd.old hl (hs.get 0 rfl)) (Rd.old hm (hs.get 0 rfl)) hn) ?_
  intro β w' hs
  exact ⟨rfl, hs.chg⟩
end Go.Proofs.YthkjfepbmnabkaaDoor.Sx
