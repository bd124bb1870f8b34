/- Nobody's secret. -/
import Derived.Test.YthkjfepbmnabkaaDoorPd1
namespace Go.Proofs.YthkjfepbmnabkaaDoor.Sx
open Go Sha
attribute [local irreducible] Calls

def lit (l : List UInt8) : ByteArray := ⟨l.toArray⟩
def w_salt : ByteArray := ⟨#[115, 97, 108, 116]⟩
def w_stored : ByteArray := ⟨#[115, 116, 111, 114, 101, 100]⟩
def w_server : ByteArray := ⟨#[115, 101, 114, 118, 101, 114]⟩
def w_ha1 : ByteArray := ⟨#[104, 97, 49]⟩
def itOf (i : Int) : Int := if i < 1 ∨ 64 < i then 1 else i
/-- What nobody's secret is, in memory. -/
def dumOut (t u : ByteArray) (i : Int) (v : Value) (Fs : List Fact) : Prop :=
  ∃ A0 c0 cs A1 c1 A2 c2 A3 c3, v = .agg #[.slice (cutA A0 16 0 1) 16 cs, .int .i64 (itOf i), .slice A1 32 c1, .slice A2 32 c2, .slice A3 32 c3] ∧ 16 ≤ cs ∧ cs ≤ maxLen ∧ 32 ≤ c0 ∧ c0 ≤ maxLen ∧ 32 ≤ c1 ∧ c1 ≤ maxLen ∧ 32 ≤ c2 ∧ c2 ≤ maxLen ∧ 32 ≤ c3 ∧ c3 ≤ maxLen ∧
    Fs = [browF ty_uint8 A3 (Sha.sum (bl_ (dtext w_ha1 t u))) c3, browF ty_uint8 A2 (Sha.sum (bl_ (dtext w_server t u))) c2, browF ty_uint8 A1 (Sha.sum (bl_ (dtext w_stored t u))) c1, browF ty_uint8 A0 (Sha.sum (bl_ (dtext w_salt t u))) c0]

def dumOutJ (t u : ByteArray) (j : Int) (v : Value) (Fs : List Fact) : Prop :=
  ∃ B c0 cs A1 c1 A2 c2 A3 c3, v = .agg #[.slice (cutA B 16 0 1) 16 cs, .int .i64 j, .slice A1 32 c1, .slice A2 32 c2, .slice A3 32 c3] ∧ 16 ≤ cs ∧ cs ≤ maxLen ∧ 32 ≤ c0 ∧ c0 ≤ maxLen ∧ 32 ≤ c1 ∧ c1 ≤ maxLen ∧ 32 ≤ c2 ∧ c2 ≤ maxLen ∧ 32 ≤ c3 ∧ c3 ≤ maxLen ∧
    Fs = [browF ty_uint8 A3 (Sha.sum (bl_ (dtext w_ha1 t u))) c3, browF ty_uint8 A2 (Sha.sum (bl_ (dtext w_server t u))) c2, browF ty_uint8 A1 (Sha.sum (bl_ (dtext w_stored t u))) c1, browF ty_uint8 B (Sha.sum (bl_ (dtext w_salt t u))) c0]
theorem dumOut_it {t u : ByteArray} {i j : Int} (h : itOf i = j) : dumOut t u i = dumOutJ t u j := by subst h; rfl
theorem dummy_c (w : World) (ad : Addr) (t u : ByteArray) (i : Int) (hs : t.size + u.size ≤ 900) (h1 : (oddF 1).p w) (h0 : (firstF 0).p w) :
    Con Tryd.prog n_proof_Dummy #[.pointer (some ad), .string t, .string u, .int .i64 i] w [] (dumOut t u i) := by
  have g := good_proof_Dummy w (Un [])
  refine con_of_sx (cx := cx_proof_Dummy w (Un [])) g b_proof_Dummy rfl rfl (β := Va.z) [.c (.v (.pointer (some ad))), .c (.v (.string t)), .c (.v (.string u)), .c (.v (.int .i64 i))] 0 [] [oldF w] rfl rfl (old_sat rfl) ?_
  refine BIf.dec (fun hlt => ?_) (fun hge => ?_)
  · have hit : itOf i = 1 := if_pos (.inl hlt)
    rw [dumOut_it hit]
    refine draw_rule g p_proof_Dummy_6 (by kernel_rfl) [] [] (Sub.of (List.nil_sublist _) (List.nil_sublist _)) ?_
    refine call_con [] (fun β w' hs' => of_c w' w_salt t u (β 0) (β 1) (hs'.blk ⟨0, 9, [.v (.string t)]⟩ (by simp)) (hs'.blk ⟨1, 9, [.v (.string u)]⟩ (by simp)) (by show 4 + _ + _ ≤ 1000; omega) (Rd.old h1 (hs'.get 0 rfl)) (Rd.old h0 (hs'.get 0 rfl))) ?_
    rintro v Fs ⟨A0, c0, rfl, q1, q2, rfl⟩
    refine ⟨Sub.of (List.nil_sublist _) (List.nil_sublist _), ?_⟩
    refine ⟨16, 16, 0, 16, 16, _, rfl, rfl, rfl, by omega, by omega, by omega, rfl, rfl, rfl, ?_⟩
    refine call_con [] (fun β w' hs' => of_c w' w_stored t u (β 0) (β 1) (hs'.blk ⟨0, 9, [.v (.string t)]⟩ (by simp)) (hs'.blk ⟨1, 9, [.v (.string u)]⟩ (by simp)) (by show 6 + _ + _ ≤ 1000; omega) (Rd.old h1 (hs'.get 1 rfl)) (Rd.old h0 (hs'.get 1 rfl))) ?_
    rintro v Fs ⟨A1, c1, rfl, q3, q4, rfl⟩
    refine ⟨Sub.of (List.nil_sublist _) (List.nil_sublist _), ?_⟩
    refine call_con [] (fun β w' hs' => of_c w' w_server t u (β 0) (β 1) (hs'.blk ⟨0, 9, [.v (.string t)]⟩ (by simp)) (hs'.blk ⟨1, 9, [.v (.string u)]⟩ (by simp)) (by show 6 + _ + _ ≤ 1000; omega) (Rd.old h1 (hs'.get 2 rfl)) (Rd.old h0 (hs'.get 2 rfl))) ?_
    rintro v Fs ⟨A2, c2, rfl, q5, q6, rfl⟩
    refine ⟨Sub.of (List.nil_sublist _) (List.nil_sublist _), ?_⟩
    refine call_con [] (fun β w' hs' => of_c w' w_ha1 t u (β 0) (β 1) (hs'.blk ⟨0, 9, [.v (.string t)]⟩ (by simp)) (hs'.blk ⟨1, 9, [.v (.string u)]⟩ (by simp)) (by show 3 + _ + _ ≤ 1000; omega) (Rd.old h1 (hs'.get 3 rfl)) (Rd.old h0 (hs'.get 3 rfl))) ?_
    rintro v Fs ⟨A3, c3, rfl, q7, q8, rfl⟩
    refine ⟨Sub.of (List.nil_sublist _) (List.nil_sublist _), ?_⟩
    refine ⟨Sub.of (List.nil_sublist _) (List.nil_sublist _), ?_⟩
    intro β w' hs'
    exact (hs'.keepB (List.nil_sublist _)).fin [0, 1, 2, 3] ⟨A0, c0, 16, A1, c1, A2, c2, A3, c3, rfl, by omega, by decide, q1, q2, q3, q4, q5, q6, q7, q8, rfl⟩ rfl rfl rfl ⟨rfl, rfl, rfl, rfl, trivial⟩
  refine BIf.dec (fun hgt => ?_) (fun hle => ?_)
  · have hit : itOf i = 1 := if_pos (.inr hgt)
    rw [dumOut_it hit]
    refine draw_rule g p_proof_Dummy_6 (by kernel_rfl) [] [] (Sub.of (List.nil_sublist _) (List.nil_sublist _)) ?_
    refine call_con [] (fun β w' hs' => of_c w' w_salt t u (β 0) (β 1) (hs'.blk ⟨0, 9, [.v (.string t)]⟩ (by simp)) (hs'.blk ⟨1, 9, [.v (.string u)]⟩ (by simp)) (by show 4 + _ + _ ≤ 1000; omega) (Rd.old h1 (hs'.get 0 rfl)) (Rd.old h0 (hs'.get 0 rfl))) ?_
    rintro v Fs ⟨A0, c0, rfl, q1, q2, rfl⟩
    refine ⟨Sub.of (List.nil_sublist _) (List.nil_sublist _), ?_⟩
    refine ⟨16, 16, 0, 16, 16, _, rfl, rfl, rfl, by omega, by omega, by omega, rfl, rfl, rfl, ?_⟩
    refine call_con [] (fun β w' hs' => of_c w' w_stored t u (β 0) (β 1) (hs'.blk ⟨0, 9, [.v (.string t)]⟩ (by simp)) (hs'.blk ⟨1, 9, [.v (.string u)]⟩ (by simp)) (by show 6 + _ + _ ≤ 1000; omega) (Rd.old h1 (hs'.get 1 rfl)) (Rd.old h0 (hs'.get 1 rfl))) ?_
    rintro v Fs ⟨A1, c1, rfl, q3, q4, rfl⟩
    refine ⟨Sub.of (List.nil_sublist _) (List.nil_sublist _), ?_⟩
    refine call_con [] (fun β w' hs' => of_c w' w_server t u (β 0) (β 1) (hs'.blk ⟨0, 9, [.v (.string t)]⟩ (by simp)) (hs'.blk ⟨1, 9, [.v (.string u)]⟩ (by simp)) (by show 6 + _ + _ ≤ 1000; omega) (Rd.old h1 (hs'.get 2 rfl)) (Rd.old h0 (hs'.get 2 rfl))) ?_
    rintro v Fs ⟨A2, c2, rfl, q5, q6, rfl⟩
    refine ⟨Sub.of (List.nil_sublist _) (List.nil_sublist _), ?_⟩
    refine call_con [] (fun β w' hs' => of_c w' w_ha1 t u (β 0) (β 1) (hs'.blk ⟨0, 9, [.v (.string t)]⟩ (by simp)) (hs'.blk ⟨1, 9, [.v (.string u)]⟩ (by simp)) (by show 3 + _ + _ ≤ 1000; omega) (Rd.old h1 (hs'.get 3 rfl)) (Rd.old h0 (hs'.get 3 rfl))) ?_
    rintro v Fs ⟨A3, c3, rfl, q7, q8, rfl⟩
    refine ⟨Sub.of (List.nil_sublist _) (List.nil_sublist _), ?_⟩
    refine ⟨Sub.of (List.nil_sublist _) (List.nil_sublist _), ?_⟩
    intro β w' hs'
    exact (hs'.keepB (List.nil_sublist _)).fin [0, 1, 2, 3] ⟨A0, c0, 16, A1, c1, A2, c2, A3, c3, rfl, by omega, by decide, q1, q2, q3, q4, q5, q6, q7, q8, rfl⟩ rfl rfl rfl ⟨rfl, rfl, rfl, rfl, trivial⟩
  · have hit : itOf i = i := if_neg (by omega)
    rw [dumOut_it hit]
    refine draw_rule g p_proof_Dummy_6 (by kernel_rfl) [] [] (Sub.of (List.nil_sublist _) (List.nil_sublist _)) ?_
    refine call_con [] (fun β w' hs' => of_c w' w_salt t u (β 0) (β 1) (hs'.blk ⟨0, 9, [.v (.string t)]⟩ (by simp)) (hs'.blk ⟨1, 9, [.v (.string u)]⟩ (by simp)) (by show 4 + _ + _ ≤ 1000; omega) (Rd.old h1 (hs'.get 0 rfl)) (Rd.old h0 (hs'.get 0 rfl))) ?_
    rintro v Fs ⟨A0, c0, rfl, q1, q2, rfl⟩
    refine ⟨Sub.of (List.nil_sublist _) (List.nil_sublist _), ?_⟩
    refine ⟨16, 16, 0, 16, 16, _, rfl, rfl, rfl, by omega, by omega, by omega, rfl, rfl, rfl, ?_⟩
    refine call_con [] (fun β w' hs' => of_c w' w_stored t u (β 0) (β 1) (hs'.blk ⟨0, 9, [.v (.string t)]⟩ (by simp)) (hs'.blk ⟨1, 9, [.v (.string u)]⟩ (by simp)) (by show 6 + _ + _ ≤ 1000; omega) (Rd.old h1 (hs'.get 1 rfl)) (Rd.old h0 (hs'.get 1 rfl))) ?_
    rintro v Fs ⟨A1, c1, rfl, q3, q4, rfl⟩
    refine ⟨Sub.of (List.nil_sublist _) (List.nil_sublist _), ?_⟩
    refine call_con [] (fun β w' hs' => of_c w' w_server t u (β 0) (β 1) (hs'.blk ⟨0, 9, [.v (.string t)]⟩ (by simp)) (hs'.blk ⟨1, 9, [.v (.string u)]⟩ (by simp)) (by show 6 + _ + _ ≤ 1000; omega) (Rd.old h1 (hs'.get 2 rfl)) (Rd.old h0 (hs'.get 2 rfl))) ?_
    rintro v Fs ⟨A2, c2, rfl, q5, q6, rfl⟩
    refine ⟨Sub.of (List.nil_sublist _) (List.nil_sublist _), ?_⟩
    refine call_con [] (fun β w' hs' => of_c w' w_ha1 t u (β 0) (β 1) (hs'.blk ⟨0, 9, [.v (.string t)]⟩ (by simp)) (hs'.blk ⟨1, 9, [.v (.string u)]⟩ (by simp)) (by show 3 + _ + _ ≤ 1000; omega) (Rd.old h1 (hs'.get 3 rfl)) (Rd.old h0 (hs'.get 3 rfl))) ?_
    rintro v Fs ⟨A3, c3, rfl, q7, q8, rfl⟩
    refine ⟨Sub.of (List.nil_sublist _) (List.nil_sublist _), ?_⟩
    refine ⟨Sub.of (List.nil_sublist _) (List.nil_sublist _), ?_⟩
    intro β w' hs'
    exact (hs'.keepB (List.nil_sublist _)).fin [0, 1, 2, 3] ⟨A0, c0, 16, A1, c1, A2, c2, A3, c3, rfl, by omega, by decide, q1, q2, q3, q4, q5, q6, q7, q8, rfl⟩ rfl rfl rfl ⟨rfl, rfl, rfl, rfl, trivial⟩
end Go.Proofs.YthkjfepbmnabkaaDoor.Sx
