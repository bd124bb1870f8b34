/- What answers a challenge, by a plain box. -/
import Derived.Test.YthkjfepbmnabkaaDoorHex
import Derived.Test.YthkjfepbmnabkaaDoorHa
namespace Go.Proofs.YthkjfepbmnabkaaDoor.Sx
open Go Sha
attribute [local irreducible] Calls

theorem bk_old {W w : World} {b ty : Nat} {cs : List Value} (h : (bkF b ty cs).p W) (ho : (oldF W).p w) : (bkF b ty cs).p w :=
  (ho b (Array.getElem?_eq_some_iff.1 (show W.heap[b]? = some _ from h)).1).trans h
theorem count_c (w : World) (n : Nat) (hn : n < 4294967296) : Pu Tryd.prog n_digest_Count #[.int .u32 n] w (.string ⟨(hexB (Bx.be4 n)).toArray⟩) := by
  have g := good_digest_Count w (Un [])
  refine con_of_sx (cx := cx_digest_Count w (Un [])) g b_digest_Count rfl rfl (β := Va.z) [.c (.v (.int .u32 n))] 0 [] [] rfl rfl (Sat.start rfl) ?_
  refine ⟨by decide, _, shr_nat n 24, _, wrap_u8b _, by decide, _, shr_nat n 16, _, wrap_u8b _, by decide, _, shr_nat n 8, _, wrap_u8b _, _, wrap_u8b _, ?_⟩
  intro b
  refine call_pu (fun β w' hs => hex_c w' (some ⟨b, 0, none⟩) (Bx.be4 n) 4 (row_rd (hs.get 0 rfl)) (by intro q; cases q) (by show 4 ≤ 1000000; decide)) ?_
  intro β w' hs
  exact hs.fin [] ⟨rfl, rfl⟩

def colon : ByteArray := ⟨#[58]⟩
/-- A plain box's hash of texts, with colons between. -/
theorem ha1_c (w : World) (b : Nat) (full : Bool) (L m : Value) (x y z : ByteArray) (hb : (boxF b false full L m).p w) (hs1 : (joinB [x, y, z] colon).size ≤ 100000) (h1 : (oddF 1).p w) (h0 : (firstF 0).p w) :
    Con Tryd.prog n_proof_HA1 #[.pointer (some ⟨b, 0, none⟩), .string x, .string y, .string z] w [] fun v Fs => ∃ A c, v = .slice A 32 c ∧ 32 ≤ c ∧ c ≤ maxLen ∧ Fs = [browF ty_uint8 A (Sha.sum (bl_ (joinB [x, y, z] colon))) c] := by
  have g := good_proof_HA1 w (Un [])
  refine con_of_sx (cx := cx_proof_HA1 w (Un [])) g b_proof_HA1 rfl rfl (β := Va.z) [.c (.v (.pointer (some ⟨b, 0, none⟩))), .c (.v (.string x)), .c (.v (.string y)), .c (.v (.string z))] 0 [] [oldF w] rfl rfl (old_sat rfl) ?_
  intro b1
  refine call_con [] (fun β w' hs => joined_c w' b1 3 [x, y, z] (row_rd (hs.get 0 rfl)) (hs.getLt 0 rfl b1 rfl) (by show 3 ≤ 1000; decide) (Nat.le_refl 3) (Nat.le_trans hs1 (by decide))) ?_
  rintro v Fs ⟨A, c, rfl, rfl⟩
  intro b2
  refine call_con [] (fun β w' hs => hash1_c w' b full L m (some ⟨b2, 0, none⟩) A 1 c (bl_ (joinB [x, y, z] colon)) (bk_old hb (hs.get 3 rfl)) (row_rd (hs.get 0 rfl)) (hs.get 1 rfl) (Nat.le_trans hs1 (by decide)) (Rd.old h1 (hs.get 3 rfl)) (Rd.old h0 (hs.get 3 rfl))) ?_
  rintro v Fs ⟨A3, c3, rfl, q1, q2, rfl⟩
  intro β w' hs
  exact hs.fin [0] ⟨A3, c3, rfl, q1, q2, rfl⟩
end Go.Proofs.YthkjfepbmnabkaaDoor.Sx
