/- What answers a challenge, by a plain box: the whole. -/
import Derived.Test.YthkjfepbmnabkaaDoorAw1
namespace Go.Proofs.YthkjfepbmnabkaaDoor.Sx
open Go Sha
attribute [local irreducible] Calls

/-- An answer's eight parts. -/
structure AnsA where
  user : ByteArray
  realm : ByteArray
  nonce : ByteArray
  uri : ByteArray
  cnonce : ByteArray
  opaq : ByteArray
  nc : Nat
  proof : Value
def AnsA.cells (a : AnsA) : List Value := [.string a.user, .string a.realm, .string a.nonce, .string a.uri, .string a.cnonce, .string a.opaq, .int .u32 a.nc, a.proof]
def AnsA.sls (a : AnsA) : List SL := [.v (.string a.user), .v (.string a.realm), .v (.string a.nonce), .v (.string a.uri), .v (.string a.cnonce), .v (.string a.opaq), .v (.int .u32 a.nc), .v a.proof]
def hexS (l : List UInt8) : ByteArray := ⟨(hexB l).toArray⟩
def auth : ByteArray := ⟨#[97, 117, 116, 104]⟩
def ha2S (method : ByteArray) (a : AnsA) : List UInt8 := Sha.sum (bl_ (joinB [method, a.uri] colon))
def respL (ha1 : List UInt8) (method : ByteArray) (a : AnsA) : List ByteArray := [hexS ha1, a.nonce, hexS (Bx.be4 a.nc), a.cnonce, auth, hexS (ha2S method a)]
def respT (ha1 : List UInt8) (method : ByteArray) (a : AnsA) : ByteArray := joinB (respL ha1 method a) colon
theorem response_c (w : World) (b : Nat) (full : Bool) (L m : Value) (A : Option Addr) (ha1 : List UInt8) (c : Nat) (method : ByteArray) (a : AnsA) (hb : (boxF b false full L m).p w) (hr : Bs w A ha1) (hl : ha1.length = 32) (hn : a.nc < 4294967296)
    (hs1 : (joinB [method, a.uri] colon).size ≤ 100000) (hs2 : (respT ha1 method a).size ≤ 100000) (h1 : (oddF 1).p w) (h0 : (firstF 0).p w) :
    Con Tryd.prog n_proof_Response #[.pointer (some ⟨b, 0, none⟩), .slice A ha1.length c, .string method, .agg a.cells.toArray] w [] fun v Fs => ∃ A c, v = .slice A 32 c ∧ 32 ≤ c ∧ c ≤ maxLen ∧ Fs = [browF ty_uint8 A (Sha.sum (bl_ (respT ha1 method a))) c] := by
  have g := good_proof_Response w (Un [])
  refine con_of_sx (cx := cx_proof_Response w (Un [])) g b_proof_Response rfl rfl (β := Va.z) [.c (.v (.pointer (some ⟨b, 0, none⟩))), .c (.v (.slice A ha1.length c)), .c (.v (.string method)), .agg a.sls] 0 [] [oldF w] rfl rfl (old_sat rfl) ?_
  intro b1
  refine call_con [] (fun β w' hs => joined_c w' b1 2 [method, a.uri] (row_rd (hs.get 0 rfl)) (hs.getLt 0 rfl b1 rfl) (by show 2 ≤ 1000; decide) (Nat.le_refl 2) (Nat.le_trans hs1 (by decide))) ?_
  rintro v Fs ⟨A1, c1, rfl, rfl⟩
  intro b2
  refine call_con [] (fun β w' hs => hash1_c w' b full L m (some ⟨b2, 0, none⟩) A1 1 c1 (bl_ (joinB [method, a.uri] colon)) (bk_old hb (hs.get 3 rfl)) (row_rd (hs.get 0 rfl)) (hs.get 1 rfl) (Nat.le_trans hs1 (by decide)) (Rd.old h1 (hs.get 3 rfl)) (Rd.old h0 (hs.get 3 rfl))) ?_
  rintro v Fs ⟨A3, c3, rfl, q1, q2, rfl⟩
  have hS : ∀ {n : Nat} {F : List Fact}, Sub (cx_proof_Response w (Un [])) n [⟨0, 71, a.sls⟩] F [⟨0, 71, a.sls⟩] [] := fun {n F} => Sub.of (List.Sublist.refl _) (List.nil_sublist _)
  refine draw_rule g p_proof_Response_2 (by kernel_rfl) [⟨0, 71, a.sls⟩] [] hS ?_
  have hne1 : ha1 ≠ [] := by intro q; rw [q] at hl; cases hl
  refine call_pu (fun β w' hs => hex_c w' A ha1 c (hr.old (hs.get 4 rfl)) hne1 (by omega)) ?_
  refine ⟨hS, ?_⟩
  refine call_pu (fun β w' hs => count_c w' a.nc hn) ?_
  refine ⟨hS, ?_⟩
  refine call_pu (fun β w' hs => hex_c w' A3 (ha2S method a) c3 (row_rd (hs.get 0 rfl)) (by intro q; have := congrArg List.length q; rw [ha2S, Sha.sum_len] at this; cases this) (by rw [ha2S, Sha.sum_len]; decide)) ?_
  refine ⟨hS, ?_⟩
  intro b3
  refine ⟨hS, ?_⟩
  refine call_con [] (fun β w' hs => joined_c w' b3 6 (respL ha1 method a) (row_rd (hs.get 0 rfl)) (hs.getLt 0 rfl b3 rfl) (by show 6 ≤ 1000; decide) (Nat.le_refl 6) (Nat.le_trans hs2 (by decide))) ?_
  rintro v Fs ⟨A4, c4, rfl, rfl⟩
  refine ⟨hS, ?_⟩
  intro b4
  refine ⟨hS, ?_⟩
  refine call_con [] (fun β w' hs => hash1_c w' b full L m (some ⟨b4, 0, none⟩) A4 1 c4 (bl_ (respT ha1 method a)) (bk_old hb (hs.get 7 rfl)) (row_rd (hs.get 0 rfl)) (hs.get 1 rfl) (Nat.le_trans hs2 (by decide)) (Rd.old h1 (hs.get 7 rfl)) (Rd.old h0 (hs.get 7 rfl))) ?_
  rintro v Fs ⟨A5, c5, rfl, q3, q4, rfl⟩
  refine ⟨hS, ?_⟩
  intro β w' hs
  exact (hs.keepB (List.nil_sublist _)).fin [0] ⟨A5, c5, rfl, q3, q4, rfl⟩
end Go.Proofs.YthkjfepbmnabkaaDoor.Sx
