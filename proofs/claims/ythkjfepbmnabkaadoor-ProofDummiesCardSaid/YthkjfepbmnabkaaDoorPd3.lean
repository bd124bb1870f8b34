/- Nobody's secret, as the document has it. -/
import Derived.Test.YthkjfepbmnabkaaDoorPd2
namespace Go.Proofs.YthkjfepbmnabkaaDoor.Sx
open Go Sha
attribute [local irreducible] Calls

def endT (t u : ByteArray) : ByteArray := sp ++ t ++ sp ++ u
theorem end_bl (what t u : ByteArray) : bl_ (what ++ endT t u) = bl_ (dtext what t u) := by simp only [endT, dtext, bl_app, List.append_assoc]
def rdumJ (t u : ByteArray) (j : Int) (v : Value) (Fs : List Fact) : Prop :=
  ∃ B c0 cs A1 c1 A2 c2 A3 c3, v = .agg #[.slice (cutA B c0 0 1) 16 cs, .int .i64 j, .slice A1 32 c1, .slice A2 32 c2, .slice A3 32 c3] ∧ cs = c0 ∧ 32 ≤ c0 ∧ c0 ≤ maxLen ∧ 32 ≤ c1 ∧ c1 ≤ maxLen ∧ 32 ≤ c2 ∧ c2 ≤ maxLen ∧ 32 ≤ c3 ∧ c3 ≤ maxLen ∧
    Fs = [browF ty_uint8 A3 (Sha.sum (bl_ (dtext w_ha1 t u))) c3, browF ty_uint8 A2 (Sha.sum (bl_ (dtext w_server t u))) c2, browF ty_uint8 A1 (Sha.sum (bl_ (dtext w_stored t u))) c1, browF ty_uint8 B (Sha.sum (bl_ (dtext w_salt t u))) c0]

theorem rsumT_c (w : World) (A : Option Addr) (s : ByteArray) (l : List UInt8) (c : Nat) (hl : bl_ s = l) (hr : Bs w A (bl_ s)) (hk : (oddF 3).p w) (hn : s.size ≤ 2000) :
    Con Tryd.prog n_ostiaryref01_Sum #[.slice A s.size c] w [] fun v Fs => ∃ A' c', v = .slice A' 32 c' ∧ 32 ≤ c' ∧ c' ≤ maxLen ∧ Fs = [browF ty_uint8 A' (Sha.sum l) c'] := by
  subst hl
  exact rsum_c w A (bl_ s) c hr hk (by rw [bl_len]; omega)

def Code.fst : Code → Code
  | .seq a _ => a
  | c => c
def Code.snd : Code → Code
  | .seq _ b => b
  | c => c
def bodyOf (f : Func) : Code := f.body.getD .skip
set_option maxHeartbeats 8000000 in
/-- The four sums, in whatever order the four texts become bytes. -/
theorem rdum_tree (w : World) (t u s : ByteArray) (j : Int) (hes : s.size ≤ 902) (e0 : bl_ (w_salt ++ s) = bl_ (dtext w_salt t u)) (e1 : bl_ (w_stored ++ s) = bl_ (dtext w_stored t u)) (e2 : bl_ (w_server ++ s) = bl_ (dtext w_server t u)) (e3 : bl_ (w_ha1 ++ s) = bl_ (dtext w_ha1 t u)) (h3 : (oddF 3).p w) :
    Tri (cx_ostiaryref19_Dummy w (Un [])) (Code.fst (Code.snd (Code.snd (Code.snd (bodyOf Tryd.f12)))))
      (andThen (cwp (cx_ostiaryref19_Dummy w (Un [])) .ret (fnPost (cx_ostiaryref19_Dummy w (Un [])) Tryd.f12.results.toList (Fin w [] (rdumJ t u j)))) (fnPost (cx_ostiaryref19_Dummy w (Un [])) Tryd.f12.results.toList (Fin w [] (rdumJ t u j))))
      1 [(7, .c (.v (.string s))), (2, .c (.v (.int .i64 j))), (6, .c (.p 0 0))] [⟨0, 28, [.v (.slice none 0 0), .v (.int .i64 0), .v (.slice none 0 0), .v (.slice none 0 0), .v (.slice none 0 0)]⟩] [oldF w] := by
  have g := good_ostiaryref19_Dummy w (Un [])
  have hS : ∀ {n : Nat} {H : List Bk} {F : List Fact}, Sub (cx_ostiaryref19_Dummy w (Un [])) n H F [] [] := fun {n H F} => Sub.of (List.nil_sublist _) (List.nil_sublist _)
  refine draw_rule g p_ostiaryref19_Dummy_4 (by kernel_rfl) [] [] hS ?_
  have z0 : (w_salt ++ s).size ≤ 2000 := by rw [sz_app]; show 4 + _ ≤ _; omega
  have z1 : (w_stored ++ s).size ≤ 2000 := by rw [sz_app]; show 6 + _ ≤ _; omega
  have z2 : (w_server ++ s).size ≤ 2000 := by rw [sz_app]; show 6 + _ ≤ _; omega
  have z3 : (w_ha1 ++ s).size ≤ 2000 := by rw [sz_app]; show 3 + _ ≤ _; omega
  refine ⟨by show 4 + s.size ≤ maxLen; rw [maxLen_eq]; omega, by show 6 + s.size ≤ maxLen; rw [maxLen_eq]; omega, by show 6 + s.size ≤ maxLen; rw [maxLen_eq]; omega, by show 3 + s.size ≤ maxLen; rw [maxLen_eq]; omega, ?_⟩
  have d0 : (⟨#[115, 97, 108, 116]⟩ : ByteArray) ++ s = w_salt ++ s := rfl
  have d1 : (⟨#[115, 116, 111, 114, 101, 100]⟩ : ByteArray) ++ s = w_stored ++ s := rfl
  have d2 : (⟨#[115, 101, 114, 118, 101, 114]⟩ : ByteArray) ++ s = w_server ++ s := rfl
  have d3 : (⟨#[104, 97, 49]⟩ : ByteArray) ++ s = w_ha1 ++ s := rfl
  rw [d0, d1, d2, d3]
  clear d0 d1 d2 d3
  generalize w_salt ++ s = x0 at e0 z0 ⊢
  generalize w_stored ++ s = x1 at e1 z1 ⊢
  generalize w_server ++ s = x2 at e2 z2 ⊢
  generalize w_ha1 ++ s = x3 at e3 z3 ⊢
  refine ⟨?_, ?_, ?_, ?_⟩
  · intro b0 c0 _ _; refine ⟨hS, ?_⟩
    refine ⟨?_, ?_, ?_, ?_⟩
    · refine call_con [] (fun β w' hs' => rsumT_c w' _ x0 _ _ e0 (hs'.get 0 rfl) (Rd.old h3 (hs'.get 1 rfl)) z0) ?_
      rintro v Fs ⟨A0, k0, rfl, q0, r0, rfl⟩
      refine ⟨hS, ⟨_, 16, 0, 16, _, _, rfl, rfl, rfl, Nat.le_refl _, Nat.le_trans (by decide) q0, by omega, rfl, rfl, rfl, ?_⟩⟩
      refine ⟨?_, ?_, ?_⟩
      · intro b1 c1 _ _; refine ⟨hS, ?_⟩
        refine ⟨?_, ?_, ?_⟩
        · refine call_con [] (fun β w' hs' => rsumT_c w' _ x1 _ _ e1 (hs'.get 0 rfl) (Rd.old h3 (hs'.get 3 rfl)) z1) ?_
          rintro v Fs ⟨A1, k1, rfl, q1, r1, rfl⟩
          refine ⟨hS, ?_⟩
          refine ⟨?_, ?_⟩
          · intro b2 c2 _ _; refine ⟨hS, ?_⟩
            refine ⟨?_, ?_⟩
            · refine call_con [] (fun β w' hs' => rsumT_c w' _ x2 _ _ e2 (hs'.get 0 rfl) (Rd.old h3 (hs'.get 5 rfl)) z2) ?_
              rintro v Fs ⟨A2, k2, rfl, q2, r2, rfl⟩
              refine ⟨hS, ?_⟩
              intro b3 c3 _ _; refine ⟨hS, ?_⟩
              refine call_con [] (fun β w' hs' => rsumT_c w' _ x3 _ _ e3 (hs'.get 0 rfl) (Rd.old h3 (hs'.get 7 rfl)) z3) ?_
              rintro v Fs ⟨A3, k3, rfl, q3, r3, rfl⟩
              refine ⟨hS, ⟨hS, ?_⟩⟩
              intro β w' hs'; exact (hs'.keepB (List.nil_sublist _)).fin [0, 2, 4, 6] ⟨A0, k0, k0, A1, k1, A2, k2, A3, k3, rfl, rfl, q0, r0, q1, r1, q2, r2, q3, r3, rfl⟩ rfl rfl rfl ⟨rfl, rfl, rfl, rfl, trivial⟩
            · intro b3 c3 _ _; refine ⟨hS, ?_⟩
              refine call_con [] (fun β w' hs' => rsumT_c w' _ x2 _ _ e2 (hs'.get 1 rfl) (Rd.old h3 (hs'.get 6 rfl)) z2) ?_
              rintro v Fs ⟨A2, k2, rfl, q2, r2, rfl⟩
              refine ⟨hS, ?_⟩
              refine call_con [] (fun β w' hs' => rsumT_c w' _ x3 _ _ e3 (hs'.get 1 rfl) (Rd.old h3 (hs'.get 7 rfl)) z3) ?_
              rintro v Fs ⟨A3, k3, rfl, q3, r3, rfl⟩
              refine ⟨hS, ⟨hS, ?_⟩⟩
              intro β w' hs'; exact (hs'.keepB (List.nil_sublist _)).fin [0, 1, 4, 6] ⟨A0, k0, k0, A1, k1, A2, k2, A3, k3, rfl, rfl, q0, r0, q1, r1, q2, r2, q3, r3, rfl⟩ rfl rfl rfl ⟨rfl, rfl, rfl, rfl, trivial⟩
          · intro b3 c3 _ _; refine ⟨hS, ?_⟩
            intro b2 c2 _ _; refine ⟨hS, ?_⟩
            refine call_con [] (fun β w' hs' => rsumT_c w' _ x2 _ _ e2 (hs'.get 0 rfl) (Rd.old h3 (hs'.get 6 rfl)) z2) ?_
            rintro v Fs ⟨A2, k2, rfl, q2, r2, rfl⟩
            refine ⟨hS, ?_⟩
            refine call_con [] (fun β w' hs' => rsumT_c w' _ x3 _ _ e3 (hs'.get 2 rfl) (Rd.old h3 (hs'.get 7 rfl)) z3) ?_
            rintro v Fs ⟨A3, k3, rfl, q3, r3, rfl⟩
            refine ⟨hS, ⟨hS, ?_⟩⟩
            intro β w' hs'; exact (hs'.keepB (List.nil_sublist _)).fin [0, 1, 4, 6] ⟨A0, k0, k0, A1, k1, A2, k2, A3, k3, rfl, rfl, q0, r0, q1, r1, q2, r2, q3, r3, rfl⟩ rfl rfl rfl ⟨rfl, rfl, rfl, rfl, trivial⟩
        · intro b2 c2 _ _; refine ⟨hS, ?_⟩
          refine ⟨?_, ?_⟩
          · refine call_con [] (fun β w' hs' => rsumT_c w' _ x1 _ _ e1 (hs'.get 1 rfl) (Rd.old h3 (hs'.get 4 rfl)) z1) ?_
            rintro v Fs ⟨A1, k1, rfl, q1, r1, rfl⟩
            refine ⟨hS, ?_⟩
            refine ⟨?_, ?_⟩
            · refine call_con [] (fun β w' hs' => rsumT_c w' _ x2 _ _ e2 (hs'.get 1 rfl) (Rd.old h3 (hs'.get 5 rfl)) z2) ?_
              rintro v Fs ⟨A2, k2, rfl, q2, r2, rfl⟩
              refine ⟨hS, ?_⟩
              intro b3 c3 _ _; refine ⟨hS, ?_⟩
              refine call_con [] (fun β w' hs' => rsumT_c w' _ x3 _ _ e3 (hs'.get 0 rfl) (Rd.old h3 (hs'.get 7 rfl)) z3) ?_
              rintro v Fs ⟨A3, k3, rfl, q3, r3, rfl⟩
              refine ⟨hS, ⟨hS, ?_⟩⟩
              intro β w' hs'; exact (hs'.keepB (List.nil_sublist _)).fin [0, 2, 3, 6] ⟨A0, k0, k0, A1, k1, A2, k2, A3, k3, rfl, rfl, q0, r0, q1, r1, q2, r2, q3, r3, rfl⟩ rfl rfl rfl ⟨rfl, rfl, rfl, rfl, trivial⟩
            · intro b3 c3 _ _; refine ⟨hS, ?_⟩
              refine call_con [] (fun β w' hs' => rsumT_c w' _ x2 _ _ e2 (hs'.get 2 rfl) (Rd.old h3 (hs'.get 6 rfl)) z2) ?_
              rintro v Fs ⟨A2, k2, rfl, q2, r2, rfl⟩
              refine ⟨hS, ?_⟩
              refine call_con [] (fun β w' hs' => rsumT_c w' _ x3 _ _ e3 (hs'.get 1 rfl) (Rd.old h3 (hs'.get 7 rfl)) z3) ?_
              rintro v Fs ⟨A3, k3, rfl, q3, r3, rfl⟩
              refine ⟨hS, ⟨hS, ?_⟩⟩
              intro β w' hs'; exact (hs'.keepB (List.nil_sublist _)).fin [0, 1, 3, 6] ⟨A0, k0, k0, A1, k1, A2, k2, A3, k3, rfl, rfl, q0, r0, q1, r1, q2, r2, q3, r3, rfl⟩ rfl rfl rfl ⟨rfl, rfl, rfl, rfl, trivial⟩
          · intro b3 c3 _ _; refine ⟨hS, ?_⟩
            refine call_con [] (fun β w' hs' => rsumT_c w' _ x1 _ _ e1 (hs'.get 2 rfl) (Rd.old h3 (hs'.get 5 rfl)) z1) ?_
            rintro v Fs ⟨A1, k1, rfl, q1, r1, rfl⟩
            refine ⟨hS, ?_⟩
            refine call_con [] (fun β w' hs' => rsumT_c w' _ x2 _ _ e2 (hs'.get 2 rfl) (Rd.old h3 (hs'.get 6 rfl)) z2) ?_
            rintro v Fs ⟨A2, k2, rfl, q2, r2, rfl⟩
            refine ⟨hS, ?_⟩
            refine call_con [] (fun β w' hs' => rsumT_c w' _ x3 _ _ e3 (hs'.get 2 rfl) (Rd.old h3 (hs'.get 7 rfl)) z3) ?_
            rintro v Fs ⟨A3, k3, rfl, q3, r3, rfl⟩
            refine ⟨hS, ⟨hS, ?_⟩⟩
            intro β w' hs'; exact (hs'.keepB (List.nil_sublist _)).fin [0, 1, 2, 6] ⟨A0, k0, k0, A1, k1, A2, k2, A3, k3, rfl, rfl, q0, r0, q1, r1, q2, r2, q3, r3, rfl⟩ rfl rfl rfl ⟨rfl, rfl, rfl, rfl, trivial⟩
        · intro b3 c3 _ _; refine ⟨hS, ?_⟩
          refine ⟨?_, ?_⟩
          · refine call_con [] (fun β w' hs' => rsumT_c w' _ x1 _ _ e1 (hs'.get 1 rfl) (Rd.old h3 (hs'.get 4 rfl)) z1) ?_
            rintro v Fs ⟨A1, k1, rfl, q1, r1, rfl⟩
            refine ⟨hS, ?_⟩
            intro b2 c2 _ _; refine ⟨hS, ?_⟩
            refine call_con [] (fun β w' hs' => rsumT_c w' _ x2 _ _ e2 (hs'.get 0 rfl) (Rd.old h3 (hs'.get 6 rfl)) z2) ?_
            rintro v Fs ⟨A2, k2, rfl, q2, r2, rfl⟩
            refine ⟨hS, ?_⟩
            refine call_con [] (fun β w' hs' => rsumT_c w' _ x3 _ _ e3 (hs'.get 3 rfl) (Rd.old h3 (hs'.get 7 rfl)) z3) ?_
            rintro v Fs ⟨A3, k3, rfl, q3, r3, rfl⟩
            refine ⟨hS, ⟨hS, ?_⟩⟩
            intro β w' hs'; exact (hs'.keepB (List.nil_sublist _)).fin [0, 1, 3, 6] ⟨A0, k0, k0, A1, k1, A2, k2, A3, k3, rfl, rfl, q0, r0, q1, r1, q2, r2, q3, r3, rfl⟩ rfl rfl rfl ⟨rfl, rfl, rfl, rfl, trivial⟩
          · intro b2 c2 _ _; refine ⟨hS, ?_⟩
            refine call_con [] (fun β w' hs' => rsumT_c w' _ x1 _ _ e1 (hs'.get 2 rfl) (Rd.old h3 (hs'.get 5 rfl)) z1) ?_
            rintro v Fs ⟨A1, k1, rfl, q1, r1, rfl⟩
            refine ⟨hS, ?_⟩
            refine call_con [] (fun β w' hs' => rsumT_c w' _ x2 _ _ e2 (hs'.get 1 rfl) (Rd.old h3 (hs'.get 6 rfl)) z2) ?_
            rintro v Fs ⟨A2, k2, rfl, q2, r2, rfl⟩
            refine ⟨hS, ?_⟩
            refine call_con [] (fun β w' hs' => rsumT_c w' _ x3 _ _ e3 (hs'.get 3 rfl) (Rd.old h3 (hs'.get 7 rfl)) z3) ?_
            rintro v Fs ⟨A3, k3, rfl, q3, r3, rfl⟩
            refine ⟨hS, ⟨hS, ?_⟩⟩
            intro β w' hs'; exact (hs'.keepB (List.nil_sublist _)).fin [0, 1, 2, 6] ⟨A0, k0, k0, A1, k1, A2, k2, A3, k3, rfl, rfl, q0, r0, q1, r1, q2, r2, q3, r3, rfl⟩ rfl rfl rfl ⟨rfl, rfl, rfl, rfl, trivial⟩
      · intro b2 c2 _ _; refine ⟨hS, ?_⟩
        refine ⟨?_, ?_⟩
        · intro b1 c1 _ _; refine ⟨hS, ?_⟩
          refine ⟨?_, ?_⟩
          · refine call_con [] (fun β w' hs' => rsumT_c w' _ x1 _ _ e1 (hs'.get 0 rfl) (Rd.old h3 (hs'.get 4 rfl)) z1) ?_
            rintro v Fs ⟨A1, k1, rfl, q1, r1, rfl⟩
            refine ⟨hS, ?_⟩
            refine ⟨?_, ?_⟩
            · refine call_con [] (fun β w' hs' => rsumT_c w' _ x2 _ _ e2 (hs'.get 2 rfl) (Rd.old h3 (hs'.get 5 rfl)) z2) ?_
              rintro v Fs ⟨A2, k2, rfl, q2, r2, rfl⟩
              refine ⟨hS, ?_⟩
              intro b3 c3 _ _; refine ⟨hS, ?_⟩
              refine call_con [] (fun β w' hs' => rsumT_c w' _ x3 _ _ e3 (hs'.get 0 rfl) (Rd.old h3 (hs'.get 7 rfl)) z3) ?_
              rintro v Fs ⟨A3, k3, rfl, q3, r3, rfl⟩
              refine ⟨hS, ⟨hS, ?_⟩⟩
              intro β w' hs'; exact (hs'.keepB (List.nil_sublist _)).fin [0, 2, 3, 6] ⟨A0, k0, k0, A1, k1, A2, k2, A3, k3, rfl, rfl, q0, r0, q1, r1, q2, r2, q3, r3, rfl⟩ rfl rfl rfl ⟨rfl, rfl, rfl, rfl, trivial⟩
            · intro b3 c3 _ _; refine ⟨hS, ?_⟩
              refine call_con [] (fun β w' hs' => rsumT_c w' _ x2 _ _ e2 (hs'.get 3 rfl) (Rd.old h3 (hs'.get 6 rfl)) z2) ?_
              rintro v Fs ⟨A2, k2, rfl, q2, r2, rfl⟩
              refine ⟨hS, ?_⟩
              refine call_con [] (fun β w' hs' => rsumT_c w' _ x3 _ _ e3 (hs'.get 1 rfl) (Rd.old h3 (hs'.get 7 rfl)) z3) ?_
              rintro v Fs ⟨A3, k3, rfl, q3, r3, rfl⟩
              refine ⟨hS, ⟨hS, ?_⟩⟩
              intro β w' hs'; exact (hs'.keepB (List.nil_sublist _)).fin [0, 1, 3, 6] ⟨A0, k0, k0, A1, k1, A2, k2, A3, k3, rfl, rfl, q0, r0, q1, r1, q2, r2, q3, r3, rfl⟩ rfl rfl rfl ⟨rfl, rfl, rfl, rfl, trivial⟩
          · intro b3 c3 _ _; refine ⟨hS, ?_⟩
            refine call_con [] (fun β w' hs' => rsumT_c w' _ x1 _ _ e1 (hs'.get 1 rfl) (Rd.old h3 (hs'.get 5 rfl)) z1) ?_
            rintro v Fs ⟨A1, k1, rfl, q1, r1, rfl⟩
            refine ⟨hS, ?_⟩
            refine call_con [] (fun β w' hs' => rsumT_c w' _ x2 _ _ e2 (hs'.get 3 rfl) (Rd.old h3 (hs'.get 6 rfl)) z2) ?_
            rintro v Fs ⟨A2, k2, rfl, q2, r2, rfl⟩
            refine ⟨hS, ?_⟩
            refine call_con [] (fun β w' hs' => rsumT_c w' _ x3 _ _ e3 (hs'.get 2 rfl) (Rd.old h3 (hs'.get 7 rfl)) z3) ?_
            rintro v Fs ⟨A3, k3, rfl, q3, r3, rfl⟩
            refine ⟨hS, ⟨hS, ?_⟩⟩
            intro β w' hs'; exact (hs'.keepB (List.nil_sublist _)).fin [0, 1, 2, 6] ⟨A0, k0, k0, A1, k1, A2, k2, A3, k3, rfl, rfl, q0, r0, q1, r1, q2, r2, q3, r3, rfl⟩ rfl rfl rfl ⟨rfl, rfl, rfl, rfl, trivial⟩
        · intro b3 c3 _ _; refine ⟨hS, ?_⟩
          intro b1 c1 _ _; refine ⟨hS, ?_⟩
          refine call_con [] (fun β w' hs' => rsumT_c w' _ x1 _ _ e1 (hs'.get 0 rfl) (Rd.old h3 (hs'.get 5 rfl)) z1) ?_
          rintro v Fs ⟨A1, k1, rfl, q1, r1, rfl⟩
          refine ⟨hS, ?_⟩
          refine call_con [] (fun β w' hs' => rsumT_c w' _ x2 _ _ e2 (hs'.get 3 rfl) (Rd.old h3 (hs'.get 6 rfl)) z2) ?_
          rintro v Fs ⟨A2, k2, rfl, q2, r2, rfl⟩
          refine ⟨hS, ?_⟩
          refine call_con [] (fun β w' hs' => rsumT_c w' _ x3 _ _ e3 (hs'.get 3 rfl) (Rd.old h3 (hs'.get 7 rfl)) z3) ?_
          rintro v Fs ⟨A3, k3, rfl, q3, r3, rfl⟩
          refine ⟨hS, ⟨hS, ?_⟩⟩
          intro β w' hs'; exact (hs'.keepB (List.nil_sublist _)).fin [0, 1, 2, 6] ⟨A0, k0, k0, A1, k1, A2, k2, A3, k3, rfl, rfl, q0, r0, q1, r1, q2, r2, q3, r3, rfl⟩ rfl rfl rfl ⟨rfl, rfl, rfl, rfl, trivial⟩
      · intro b3 c3 _ _; refine ⟨hS, ?_⟩
        refine ⟨?_, ?_⟩
        · intro b1 c1 _ _; refine ⟨hS, ?_⟩
          refine ⟨?_, ?_⟩
          · refine call_con [] (fun β w' hs' => rsumT_c w' _ x1 _ _ e1 (hs'.get 0 rfl) (Rd.old h3 (hs'.get 4 rfl)) z1) ?_
            rintro v Fs ⟨A1, k1, rfl, q1, r1, rfl⟩
            refine ⟨hS, ?_⟩
            intro b2 c2 _ _; refine ⟨hS, ?_⟩
            refine call_con [] (fun β w' hs' => rsumT_c w' _ x2 _ _ e2 (hs'.get 0 rfl) (Rd.old h3 (hs'.get 6 rfl)) z2) ?_
            rintro v Fs ⟨A2, k2, rfl, q2, r2, rfl⟩
            refine ⟨hS, ?_⟩
            refine call_con [] (fun β w' hs' => rsumT_c w' _ x3 _ _ e3 (hs'.get 4 rfl) (Rd.old h3 (hs'.get 7 rfl)) z3) ?_
            rintro v Fs ⟨A3, k3, rfl, q3, r3, rfl⟩
            refine ⟨hS, ⟨hS, ?_⟩⟩
            intro β w' hs'; exact (hs'.keepB (List.nil_sublist _)).fin [0, 1, 3, 6] ⟨A0, k0, k0, A1, k1, A2, k2, A3, k3, rfl, rfl, q0, r0, q1, r1, q2, r2, q3, r3, rfl⟩ rfl rfl rfl ⟨rfl, rfl, rfl, rfl, trivial⟩
          · intro b2 c2 _ _; refine ⟨hS, ?_⟩
            refine call_con [] (fun β w' hs' => rsumT_c w' _ x1 _ _ e1 (hs'.get 1 rfl) (Rd.old h3 (hs'.get 5 rfl)) z1) ?_
            rintro v Fs ⟨A1, k1, rfl, q1, r1, rfl⟩
            refine ⟨hS, ?_⟩
            refine call_con [] (fun β w' hs' => rsumT_c w' _ x2 _ _ e2 (hs'.get 1 rfl) (Rd.old h3 (hs'.get 6 rfl)) z2) ?_
            rintro v Fs ⟨A2, k2, rfl, q2, r2, rfl⟩
            refine ⟨hS, ?_⟩
            refine call_con [] (fun β w' hs' => rsumT_c w' _ x3 _ _ e3 (hs'.get 4 rfl) (Rd.old h3 (hs'.get 7 rfl)) z3) ?_
            rintro v Fs ⟨A3, k3, rfl, q3, r3, rfl⟩
            refine ⟨hS, ⟨hS, ?_⟩⟩
            intro β w' hs'; exact (hs'.keepB (List.nil_sublist _)).fin [0, 1, 2, 6] ⟨A0, k0, k0, A1, k1, A2, k2, A3, k3, rfl, rfl, q0, r0, q1, r1, q2, r2, q3, r3, rfl⟩ rfl rfl rfl ⟨rfl, rfl, rfl, rfl, trivial⟩
        · intro b2 c2 _ _; refine ⟨hS, ?_⟩
          intro b1 c1 _ _; refine ⟨hS, ?_⟩
          refine call_con [] (fun β w' hs' => rsumT_c w' _ x1 _ _ e1 (hs'.get 0 rfl) (Rd.old h3 (hs'.get 5 rfl)) z1) ?_
          rintro v Fs ⟨A1, k1, rfl, q1, r1, rfl⟩
          refine ⟨hS, ?_⟩
          refine call_con [] (fun β w' hs' => rsumT_c w' _ x2 _ _ e2 (hs'.get 2 rfl) (Rd.old h3 (hs'.get 6 rfl)) z2) ?_
          rintro v Fs ⟨A2, k2, rfl, q2, r2, rfl⟩
          refine ⟨hS, ?_⟩
          refine call_con [] (fun β w' hs' => rsumT_c w' _ x3 _ _ e3 (hs'.get 4 rfl) (Rd.old h3 (hs'.get 7 rfl)) z3) ?_
          rintro v Fs ⟨A3, k3, rfl, q3, r3, rfl⟩
          refine ⟨hS, ⟨hS, ?_⟩⟩
          intro β w' hs'; exact (hs'.keepB (List.nil_sublist _)).fin [0, 1, 2, 6] ⟨A0, k0, k0, A1, k1, A2, k2, A3, k3, rfl, rfl, q0, r0, q1, r1, q2, r2, q3, r3, rfl⟩ rfl rfl rfl ⟨rfl, rfl, rfl, rfl, trivial⟩
    · intro b1 c1 _ _; refine ⟨hS, ?_⟩
      refine ⟨?_, ?_, ?_⟩
      · refine call_con [] (fun β w' hs' => rsumT_c w' _ x0 _ _ e0 (hs'.get 1 rfl) (Rd.old h3 (hs'.get 2 rfl)) z0) ?_
        rintro v Fs ⟨A0, k0, rfl, q0, r0, rfl⟩
        refine ⟨hS, ⟨_, 16, 0, 16, _, _, rfl, rfl, rfl, Nat.le_refl _, Nat.le_trans (by decide) q0, by omega, rfl, rfl, rfl, ?_⟩⟩
        refine ⟨?_, ?_, ?_⟩
        · refine call_con [] (fun β w' hs' => rsumT_c w' _ x1 _ _ e1 (hs'.get 1 rfl) (Rd.old h3 (hs'.get 3 rfl)) z1) ?_
          rintro v Fs ⟨A1, k1, rfl, q1, r1, rfl⟩
          refine ⟨hS, ?_⟩
          refine ⟨?_, ?_⟩
          · intro b2 c2 _ _; refine ⟨hS, ?_⟩
            refine ⟨?_, ?_⟩
            · refine call_con [] (fun β w' hs' => rsumT_c w' _ x2 _ _ e2 (hs'.get 0 rfl) (Rd.old h3 (hs'.get 5 rfl)) z2) ?_
              rintro v Fs ⟨A2, k2, rfl, q2, r2, rfl⟩
              refine ⟨hS, ?_⟩
              intro b3 c3 _ _; refine ⟨hS, ?_⟩
              refine call_con [] (fun β w' hs' => rsumT_c w' _ x3 _ _ e3 (hs'.get 0 rfl) (Rd.old h3 (hs'.get 7 rfl)) z3) ?_
              rintro v Fs ⟨A3, k3, rfl, q3, r3, rfl⟩
              refine ⟨hS, ⟨hS, ?_⟩⟩
              intro β w' hs'; exact (hs'.keepB (List.nil_sublist _)).fin [0, 2, 4, 5] ⟨A0, k0, k0, A1, k1, A2, k2, A3, k3, rfl, rfl, q0, r0, q1, r1, q2, r2, q3, r3, rfl⟩ rfl rfl rfl ⟨rfl, rfl, rfl, rfl, trivial⟩
            · intro b3 c3 _ _; refine ⟨hS, ?_⟩
              refine call_con [] (fun β w' hs' => rsumT_c w' _ x2 _ _ e2 (hs'.get 1 rfl) (Rd.old h3 (hs'.get 6 rfl)) z2) ?_
              rintro v Fs ⟨A2, k2, rfl, q2, r2, rfl⟩
              refine ⟨hS, ?_⟩
              refine call_con [] (fun β w' hs' => rsumT_c w' _ x3 _ _ e3 (hs'.get 1 rfl) (Rd.old h3 (hs'.get 7 rfl)) z3) ?_
              rintro v Fs ⟨A3, k3, rfl, q3, r3, rfl⟩
              refine ⟨hS, ⟨hS, ?_⟩⟩
              intro β w' hs'; exact (hs'.keepB (List.nil_sublist _)).fin [0, 1, 4, 5] ⟨A0, k0, k0, A1, k1, A2, k2, A3, k3, rfl, rfl, q0, r0, q1, r1, q2, r2, q3, r3, rfl⟩ rfl rfl rfl ⟨rfl, rfl, rfl, rfl, trivial⟩
          · intro b3 c3 _ _; refine ⟨hS, ?_⟩
            intro b2 c2 _ _; refine ⟨hS, ?_⟩
            refine call_con [] (fun β w' hs' => rsumT_c w' _ x2 _ _ e2 (hs'.get 0 rfl) (Rd.old h3 (hs'.get 6 rfl)) z2) ?_
            rintro v Fs ⟨A2, k2, rfl, q2, r2, rfl⟩
            refine ⟨hS, ?_⟩
            refine call_con [] (fun β w' hs' => rsumT_c w' _ x3 _ _ e3 (hs'.get 2 rfl) (Rd.old h3 (hs'.get 7 rfl)) z3) ?_
            rintro v Fs ⟨A3, k3, rfl, q3, r3, rfl⟩
            refine ⟨hS, ⟨hS, ?_⟩⟩
            intro β w' hs'; exact (hs'.keepB (List.nil_sublist _)).fin [0, 1, 4, 5] ⟨A0, k0, k0, A1, k1, A2, k2, A3, k3, rfl, rfl, q0, r0, q1, r1, q2, r2, q3, r3, rfl⟩ rfl rfl rfl ⟨rfl, rfl, rfl, rfl, trivial⟩
        · intro b2 c2 _ _; refine ⟨hS, ?_⟩
          refine ⟨?_, ?_⟩
          · refine call_con [] (fun β w' hs' => rsumT_c w' _ x1 _ _ e1 (hs'.get 2 rfl) (Rd.old h3 (hs'.get 4 rfl)) z1) ?_
            rintro v Fs ⟨A1, k1, rfl, q1, r1, rfl⟩
            refine ⟨hS, ?_⟩
            refine ⟨?_, ?_⟩
            · refine call_con [] (fun β w' hs' => rsumT_c w' _ x2 _ _ e2 (hs'.get 1 rfl) (Rd.old h3 (hs'.get 5 rfl)) z2) ?_
              rintro v Fs ⟨A2, k2, rfl, q2, r2, rfl⟩
              refine ⟨hS, ?_⟩
              intro b3 c3 _ _; refine ⟨hS, ?_⟩
              refine call_con [] (fun β w' hs' => rsumT_c w' _ x3 _ _ e3 (hs'.get 0 rfl) (Rd.old h3 (hs'.get 7 rfl)) z3) ?_
              rintro v Fs ⟨A3, k3, rfl, q3, r3, rfl⟩
              refine ⟨hS, ⟨hS, ?_⟩⟩
              intro β w' hs'; exact (hs'.keepB (List.nil_sublist _)).fin [0, 2, 3, 5] ⟨A0, k0, k0, A1, k1, A2, k2, A3, k3, rfl, rfl, q0, r0, q1, r1, q2, r2, q3, r3, rfl⟩ rfl rfl rfl ⟨rfl, rfl, rfl, rfl, trivial⟩
            · intro b3 c3 _ _; refine ⟨hS, ?_⟩
              refine call_con [] (fun β w' hs' => rsumT_c w' _ x2 _ _ e2 (hs'.get 2 rfl) (Rd.old h3 (hs'.get 6 rfl)) z2) ?_
              rintro v Fs ⟨A2, k2, rfl, q2, r2, rfl⟩
              refine ⟨hS, ?_⟩
              refine call_con [] (fun β w' hs' => rsumT_c w' _ x3 _ _ e3 (hs'.get 1 rfl) (Rd.old h3 (hs'.get 7 rfl)) z3) ?_
              rintro v Fs ⟨A3, k3, rfl, q3, r3, rfl⟩
              refine ⟨hS, ⟨hS, ?_⟩⟩
              intro β w' hs'; exact (hs'.keepB (List.nil_sublist _)).fin [0, 1, 3, 5] ⟨A0, k0, k0, A1, k1, A2, k2, A3, k3, rfl, rfl, q0, r0, q1, r1, q2, r2, q3, r3, rfl⟩ rfl rfl rfl ⟨rfl, rfl, rfl, rfl, trivial⟩
          · intro b3 c3 _ _; refine ⟨hS, ?_⟩
            refine call_con [] (fun β w' hs' => rsumT_c w' _ x1 _ _ e1 (hs'.get 3 rfl) (Rd.old h3 (hs'.get 5 rfl)) z1) ?_
            rintro v Fs ⟨A1, k1, rfl, q1, r1, rfl⟩
            refine ⟨hS, ?_⟩
            refine call_con [] (fun β w' hs' => rsumT_c w' _ x2 _ _ e2 (hs'.get 2 rfl) (Rd.old h3 (hs'.get 6 rfl)) z2) ?_
            rintro v Fs ⟨A2, k2, rfl, q2, r2, rfl⟩
            refine ⟨hS, ?_⟩
            refine call_con [] (fun β w' hs' => rsumT_c w' _ x3 _ _ e3 (hs'.get 2 rfl) (Rd.old h3 (hs'.get 7 rfl)) z3) ?_
            rintro v Fs ⟨A3, k3, rfl, q3, r3, rfl⟩
            refine ⟨hS, ⟨hS, ?_⟩⟩
            intro β w' hs'; exact (hs'.keepB (List.nil_sublist _)).fin [0, 1, 2, 5] ⟨A0, k0, k0, A1, k1, A2, k2, A3, k3, rfl, rfl, q0, r0, q1, r1, q2, r2, q3, r3, rfl⟩ rfl rfl rfl ⟨rfl, rfl, rfl, rfl, trivial⟩
        · intro b3 c3 _ _; refine ⟨hS, ?_⟩
          refine ⟨?_, ?_⟩
          · refine call_con [] (fun β w' hs' => rsumT_c w' _ x1 _ _ e1 (hs'.get 2 rfl) (Rd.old h3 (hs'.get 4 rfl)) z1) ?_
            rintro v Fs ⟨A1, k1, rfl, q1, r1, rfl⟩
            refine ⟨hS, ?_⟩
            intro b2 c2 _ _; refine ⟨hS, ?_⟩
            refine call_con [] (fun β w' hs' => rsumT_c w' _ x2 _ _ e2 (hs'.get 0 rfl) (Rd.old h3 (hs'.get 6 rfl)) z2) ?_
            rintro v Fs ⟨A2, k2, rfl, q2, r2, rfl⟩
            refine ⟨hS, ?_⟩
            refine call_con [] (fun β w' hs' => rsumT_c w' _ x3 _ _ e3 (hs'.get 3 rfl) (Rd.old h3 (hs'.get 7 rfl)) z3) ?_
            rintro v Fs ⟨A3, k3, rfl, q3, r3, rfl⟩
            refine ⟨hS, ⟨hS, ?_⟩⟩
            intro β w' hs'; exact (hs'.keepB (List.nil_sublist _)).fin [0, 1, 3, 5] ⟨A0, k0, k0, A1, k1, A2, k2, A3, k3, rfl, rfl, q0, r0, q1, r1, q2, r2, q3, r3, rfl⟩ rfl rfl rfl ⟨rfl, rfl, rfl, rfl, trivial⟩
          · intro b2 c2 _ _; refine ⟨hS, ?_⟩
            refine call_con [] (fun β w' hs' => rsumT_c w' _ x1 _ _ e1 (hs'.get 3 rfl) (Rd.old h3 (hs'.get 5 rfl)) z1) ?_
            rintro v Fs ⟨A1, k1, rfl, q1, r1, rfl⟩
            refine ⟨hS, ?_⟩
            refine call_con [] (fun β w' hs' => rsumT_c w' _ x2 _ _ e2 (hs'.get 1 rfl) (Rd.old h3 (hs'.get 6 rfl)) z2) ?_
            rintro v Fs ⟨A2, k2, rfl, q2, r2, rfl⟩
            refine ⟨hS, ?_⟩
            refine call_con [] (fun β w' hs' => rsumT_c w' _ x3 _ _ e3 (hs'.get 3 rfl) (Rd.old h3 (hs'.get 7 rfl)) z3) ?_
            rintro v Fs ⟨A3, k3, rfl, q3, r3, rfl⟩
            refine ⟨hS, ⟨hS, ?_⟩⟩
            intro β w' hs'; exact (hs'.keepB (List.nil_sublist _)).fin [0, 1, 2, 5] ⟨A0, k0, k0, A1, k1, A2, k2, A3, k3, rfl, rfl, q0, r0, q1, r1, q2, r2, q3, r3, rfl⟩ rfl rfl rfl ⟨rfl, rfl, rfl, rfl, trivial⟩
      · intro b2 c2 _ _; refine ⟨hS, ?_⟩
        refine ⟨?_, ?_⟩
        · refine call_con [] (fun β w' hs' => rsumT_c w' _ x0 _ _ e0 (hs'.get 2 rfl) (Rd.old h3 (hs'.get 3 rfl)) z0) ?_
          rintro v Fs ⟨A0, k0, rfl, q0, r0, rfl⟩
          refine ⟨hS, ⟨_, 16, 0, 16, _, _, rfl, rfl, rfl, Nat.le_refl _, Nat.le_trans (by decide) q0, by omega, rfl, rfl, rfl, ?_⟩⟩
          refine ⟨?_, ?_⟩
          · refine call_con [] (fun β w' hs' => rsumT_c w' _ x1 _ _ e1 (hs'.get 2 rfl) (Rd.old h3 (hs'.get 4 rfl)) z1) ?_
            rintro v Fs ⟨A1, k1, rfl, q1, r1, rfl⟩
            refine ⟨hS, ?_⟩
            refine ⟨?_, ?_⟩
            · refine call_con [] (fun β w' hs' => rsumT_c w' _ x2 _ _ e2 (hs'.get 2 rfl) (Rd.old h3 (hs'.get 5 rfl)) z2) ?_
              rintro v Fs ⟨A2, k2, rfl, q2, r2, rfl⟩
              refine ⟨hS, ?_⟩
              intro b3 c3 _ _; refine ⟨hS, ?_⟩
              refine call_con [] (fun β w' hs' => rsumT_c w' _ x3 _ _ e3 (hs'.get 0 rfl) (Rd.old h3 (hs'.get 7 rfl)) z3) ?_
              rintro v Fs ⟨A3, k3, rfl, q3, r3, rfl⟩
              refine ⟨hS, ⟨hS, ?_⟩⟩
              intro β w' hs'; exact (hs'.keepB (List.nil_sublist _)).fin [0, 2, 3, 4] ⟨A0, k0, k0, A1, k1, A2, k2, A3, k3, rfl, rfl, q0, r0, q1, r1, q2, r2, q3, r3, rfl⟩ rfl rfl rfl ⟨rfl, rfl, rfl, rfl, trivial⟩
            · intro b3 c3 _ _; refine ⟨hS, ?_⟩
              refine call_con [] (fun β w' hs' => rsumT_c w' _ x2 _ _ e2 (hs'.get 3 rfl) (Rd.old h3 (hs'.get 6 rfl)) z2) ?_
              rintro v Fs ⟨A2, k2, rfl, q2, r2, rfl⟩
              refine ⟨hS, ?_⟩
              refine call_con [] (fun β w' hs' => rsumT_c w' _ x3 _ _ e3 (hs'.get 1 rfl) (Rd.old h3 (hs'.get 7 rfl)) z3) ?_
              rintro v Fs ⟨A3, k3, rfl, q3, r3, rfl⟩
              refine ⟨hS, ⟨hS, ?_⟩⟩
              intro β w' hs'; exact (hs'.keepB (List.nil_sublist _)).fin [0, 1, 3, 4] ⟨A0, k0, k0, A1, k1, A2, k2, A3, k3, rfl, rfl, q0, r0, q1, r1, q2, r2, q3, r3, rfl⟩ rfl rfl rfl ⟨rfl, rfl, rfl, rfl, trivial⟩
          · intro b3 c3 _ _; refine ⟨hS, ?_⟩
            refine call_con [] (fun β w' hs' => rsumT_c w' _ x1 _ _ e1 (hs'.get 3 rfl) (Rd.old h3 (hs'.get 5 rfl)) z1) ?_
            rintro v Fs ⟨A1, k1, rfl, q1, r1, rfl⟩
            refine ⟨hS, ?_⟩
            refine call_con [] (fun β w' hs' => rsumT_c w' _ x2 _ _ e2 (hs'.get 3 rfl) (Rd.old h3 (hs'.get 6 rfl)) z2) ?_
            rintro v Fs ⟨A2, k2, rfl, q2, r2, rfl⟩
            refine ⟨hS, ?_⟩
            refine call_con [] (fun β w' hs' => rsumT_c w' _ x3 _ _ e3 (hs'.get 2 rfl) (Rd.old h3 (hs'.get 7 rfl)) z3) ?_
            rintro v Fs ⟨A3, k3, rfl, q3, r3, rfl⟩
            refine ⟨hS, ⟨hS, ?_⟩⟩
            intro β w' hs'; exact (hs'.keepB (List.nil_sublist _)).fin [0, 1, 2, 4] ⟨A0, k0, k0, A1, k1, A2, k2, A3, k3, rfl, rfl, q0, r0, q1, r1, q2, r2, q3, r3, rfl⟩ rfl rfl rfl ⟨rfl, rfl, rfl, rfl, trivial⟩
        · intro b3 c3 _ _; refine ⟨hS, ?_⟩
          refine call_con [] (fun β w' hs' => rsumT_c w' _ x0 _ _ e0 (hs'.get 3 rfl) (Rd.old h3 (hs'.get 4 rfl)) z0) ?_
          rintro v Fs ⟨A0, k0, rfl, q0, r0, rfl⟩
          refine ⟨hS, ⟨_, 16, 0, 16, _, _, rfl, rfl, rfl, Nat.le_refl _, Nat.le_trans (by decide) q0, by omega, rfl, rfl, rfl, ?_⟩⟩
          refine call_con [] (fun β w' hs' => rsumT_c w' _ x1 _ _ e1 (hs'.get 3 rfl) (Rd.old h3 (hs'.get 5 rfl)) z1) ?_
          rintro v Fs ⟨A1, k1, rfl, q1, r1, rfl⟩
          refine ⟨hS, ?_⟩
          refine call_con [] (fun β w' hs' => rsumT_c w' _ x2 _ _ e2 (hs'.get 3 rfl) (Rd.old h3 (hs'.get 6 rfl)) z2) ?_
          rintro v Fs ⟨A2, k2, rfl, q2, r2, rfl⟩
          refine ⟨hS, ?_⟩
          refine call_con [] (fun β w' hs' => rsumT_c w' _ x3 _ _ e3 (hs'.get 3 rfl) (Rd.old h3 (hs'.get 7 rfl)) z3) ?_
          rintro v Fs ⟨A3, k3, rfl, q3, r3, rfl⟩
          refine ⟨hS, ⟨hS, ?_⟩⟩
          intro β w' hs'; exact (hs'.keepB (List.nil_sublist _)).fin [0, 1, 2, 3] ⟨A0, k0, k0, A1, k1, A2, k2, A3, k3, rfl, rfl, q0, r0, q1, r1, q2, r2, q3, r3, rfl⟩ rfl rfl rfl ⟨rfl, rfl, rfl, rfl, trivial⟩
      · intro b3 c3 _ _; refine ⟨hS, ?_⟩
        refine ⟨?_, ?_⟩
        · refine call_con [] (fun β w' hs' => rsumT_c w' _ x0 _ _ e0 (hs'.get 2 rfl) (Rd.old h3 (hs'.get 3 rfl)) z0) ?_
          rintro v Fs ⟨A0, k0, rfl, q0, r0, rfl⟩
          refine ⟨hS, ⟨_, 16, 0, 16, _, _, rfl, rfl, rfl, Nat.le_refl _, Nat.le_trans (by decide) q0, by omega, rfl, rfl, rfl, ?_⟩⟩
          refine ⟨?_, ?_⟩
          · refine call_con [] (fun β w' hs' => rsumT_c w' _ x1 _ _ e1 (hs'.get 2 rfl) (Rd.old h3 (hs'.get 4 rfl)) z1) ?_
            rintro v Fs ⟨A1, k1, rfl, q1, r1, rfl⟩
            refine ⟨hS, ?_⟩
            intro b2 c2 _ _; refine ⟨hS, ?_⟩
            refine call_con [] (fun β w' hs' => rsumT_c w' _ x2 _ _ e2 (hs'.get 0 rfl) (Rd.old h3 (hs'.get 6 rfl)) z2) ?_
            rintro v Fs ⟨A2, k2, rfl, q2, r2, rfl⟩
            refine ⟨hS, ?_⟩
            refine call_con [] (fun β w' hs' => rsumT_c w' _ x3 _ _ e3 (hs'.get 4 rfl) (Rd.old h3 (hs'.get 7 rfl)) z3) ?_
            rintro v Fs ⟨A3, k3, rfl, q3, r3, rfl⟩
            refine ⟨hS, ⟨hS, ?_⟩⟩
            intro β w' hs'; exact (hs'.keepB (List.nil_sublist _)).fin [0, 1, 3, 4] ⟨A0, k0, k0, A1, k1, A2, k2, A3, k3, rfl, rfl, q0, r0, q1, r1, q2, r2, q3, r3, rfl⟩ rfl rfl rfl ⟨rfl, rfl, rfl, rfl, trivial⟩
          · intro b2 c2 _ _; refine ⟨hS, ?_⟩
            refine call_con [] (fun β w' hs' => rsumT_c w' _ x1 _ _ e1 (hs'.get 3 rfl) (Rd.old h3 (hs'.get 5 rfl)) z1) ?_
            rintro v Fs ⟨A1, k1, rfl, q1, r1, rfl⟩
            refine ⟨hS, ?_⟩
            refine call_con [] (fun β w' hs' => rsumT_c w' _ x2 _ _ e2 (hs'.get 1 rfl) (Rd.old h3 (hs'.get 6 rfl)) z2) ?_
            rintro v Fs ⟨A2, k2, rfl, q2, r2, rfl⟩
            refine ⟨hS, ?_⟩
            refine call_con [] (fun β w' hs' => rsumT_c w' _ x3 _ _ e3 (hs'.get 4 rfl) (Rd.old h3 (hs'.get 7 rfl)) z3) ?_
            rintro v Fs ⟨A3, k3, rfl, q3, r3, rfl⟩
            refine ⟨hS, ⟨hS, ?_⟩⟩
            intro β w' hs'; exact (hs'.keepB (List.nil_sublist _)).fin [0, 1, 2, 4] ⟨A0, k0, k0, A1, k1, A2, k2, A3, k3, rfl, rfl, q0, r0, q1, r1, q2, r2, q3, r3, rfl⟩ rfl rfl rfl ⟨rfl, rfl, rfl, rfl, trivial⟩
        · intro b2 c2 _ _; refine ⟨hS, ?_⟩
          refine call_con [] (fun β w' hs' => rsumT_c w' _ x0 _ _ e0 (hs'.get 3 rfl) (Rd.old h3 (hs'.get 4 rfl)) z0) ?_
          rintro v Fs ⟨A0, k0, rfl, q0, r0, rfl⟩
          refine ⟨hS, ⟨_, 16, 0, 16, _, _, rfl, rfl, rfl, Nat.le_refl _, Nat.le_trans (by decide) q0, by omega, rfl, rfl, rfl, ?_⟩⟩
          refine call_con [] (fun β w' hs' => rsumT_c w' _ x1 _ _ e1 (hs'.get 3 rfl) (Rd.old h3 (hs'.get 5 rfl)) z1) ?_
          rintro v Fs ⟨A1, k1, rfl, q1, r1, rfl⟩
          refine ⟨hS, ?_⟩
          refine call_con [] (fun β w' hs' => rsumT_c w' _ x2 _ _ e2 (hs'.get 2 rfl) (Rd.old h3 (hs'.get 6 rfl)) z2) ?_
          rintro v Fs ⟨A2, k2, rfl, q2, r2, rfl⟩
          refine ⟨hS, ?_⟩
          refine call_con [] (fun β w' hs' => rsumT_c w' _ x3 _ _ e3 (hs'.get 4 rfl) (Rd.old h3 (hs'.get 7 rfl)) z3) ?_
          rintro v Fs ⟨A3, k3, rfl, q3, r3, rfl⟩
          refine ⟨hS, ⟨hS, ?_⟩⟩
          intro β w' hs'; exact (hs'.keepB (List.nil_sublist _)).fin [0, 1, 2, 3] ⟨A0, k0, k0, A1, k1, A2, k2, A3, k3, rfl, rfl, q0, r0, q1, r1, q2, r2, q3, r3, rfl⟩ rfl rfl rfl ⟨rfl, rfl, rfl, rfl, trivial⟩
    · intro b2 c2 _ _; refine ⟨hS, ?_⟩
      refine ⟨?_, ?_, ?_⟩
      · refine call_con [] (fun β w' hs' => rsumT_c w' _ x0 _ _ e0 (hs'.get 1 rfl) (Rd.old h3 (hs'.get 2 rfl)) z0) ?_
        rintro v Fs ⟨A0, k0, rfl, q0, r0, rfl⟩
        refine ⟨hS, ⟨_, 16, 0, 16, _, _, rfl, rfl, rfl, Nat.le_refl _, Nat.le_trans (by decide) q0, by omega, rfl, rfl, rfl, ?_⟩⟩
        refine ⟨?_, ?_⟩
        · intro b1 c1 _ _; refine ⟨hS, ?_⟩
          refine ⟨?_, ?_⟩
          · refine call_con [] (fun β w' hs' => rsumT_c w' _ x1 _ _ e1 (hs'.get 0 rfl) (Rd.old h3 (hs'.get 4 rfl)) z1) ?_
            rintro v Fs ⟨A1, k1, rfl, q1, r1, rfl⟩
            refine ⟨hS, ?_⟩
            refine ⟨?_, ?_⟩
            · refine call_con [] (fun β w' hs' => rsumT_c w' _ x2 _ _ e2 (hs'.get 3 rfl) (Rd.old h3 (hs'.get 5 rfl)) z2) ?_
              rintro v Fs ⟨A2, k2, rfl, q2, r2, rfl⟩
              refine ⟨hS, ?_⟩
              intro b3 c3 _ _; refine ⟨hS, ?_⟩
              refine call_con [] (fun β w' hs' => rsumT_c w' _ x3 _ _ e3 (hs'.get 0 rfl) (Rd.old h3 (hs'.get 7 rfl)) z3) ?_
              rintro v Fs ⟨A3, k3, rfl, q3, r3, rfl⟩
              refine ⟨hS, ⟨hS, ?_⟩⟩
              intro β w' hs'; exact (hs'.keepB (List.nil_sublist _)).fin [0, 2, 3, 5] ⟨A0, k0, k0, A1, k1, A2, k2, A3, k3, rfl, rfl, q0, r0, q1, r1, q2, r2, q3, r3, rfl⟩ rfl rfl rfl ⟨rfl, rfl, rfl, rfl, trivial⟩
            · intro b3 c3 _ _; refine ⟨hS, ?_⟩
              refine call_con [] (fun β w' hs' => rsumT_c w' _ x2 _ _ e2 (hs'.get 4 rfl) (Rd.old h3 (hs'.get 6 rfl)) z2) ?_
              rintro v Fs ⟨A2, k2, rfl, q2, r2, rfl⟩
              refine ⟨hS, ?_⟩
              refine call_con [] (fun β w' hs' => rsumT_c w' _ x3 _ _ e3 (hs'.get 1 rfl) (Rd.old h3 (hs'.get 7 rfl)) z3) ?_
              rintro v Fs ⟨A3, k3, rfl, q3, r3, rfl⟩
              refine ⟨hS, ⟨hS, ?_⟩⟩
              intro β w' hs'; exact (hs'.keepB (List.nil_sublist _)).fin [0, 1, 3, 5] ⟨A0, k0, k0, A1, k1, A2, k2, A3, k3, rfl, rfl, q0, r0, q1, r1, q2, r2, q3, r3, rfl⟩ rfl rfl rfl ⟨rfl, rfl, rfl, rfl, trivial⟩
          · intro b3 c3 _ _; refine ⟨hS, ?_⟩
            refine call_con [] (fun β w' hs' => rsumT_c w' _ x1 _ _ e1 (hs'.get 1 rfl) (Rd.old h3 (hs'.get 5 rfl)) z1) ?_
            rintro v Fs ⟨A1, k1, rfl, q1, r1, rfl⟩
            refine ⟨hS, ?_⟩
            refine call_con [] (fun β w' hs' => rsumT_c w' _ x2 _ _ e2 (hs'.get 4 rfl) (Rd.old h3 (hs'.get 6 rfl)) z2) ?_
            rintro v Fs ⟨A2, k2, rfl, q2, r2, rfl⟩
            refine ⟨hS, ?_⟩
            refine call_con [] (fun β w' hs' => rsumT_c w' _ x3 _ _ e3 (hs'.get 2 rfl) (Rd.old h3 (hs'.get 7 rfl)) z3) ?_
            rintro v Fs ⟨A3, k3, rfl, q3, r3, rfl⟩
            refine ⟨hS, ⟨hS, ?_⟩⟩
            intro β w' hs'; exact (hs'.keepB (List.nil_sublist _)).fin [0, 1, 2, 5] ⟨A0, k0, k0, A1, k1, A2, k2, A3, k3, rfl, rfl, q0, r0, q1, r1, q2, r2, q3, r3, rfl⟩ rfl rfl rfl ⟨rfl, rfl, rfl, rfl, trivial⟩
        · intro b3 c3 _ _; refine ⟨hS, ?_⟩
          intro b1 c1 _ _; refine ⟨hS, ?_⟩
          refine call_con [] (fun β w' hs' => rsumT_c w' _ x1 _ _ e1 (hs'.get 0 rfl) (Rd.old h3 (hs'.get 5 rfl)) z1) ?_
          rintro v Fs ⟨A1, k1, rfl, q1, r1, rfl⟩
          refine ⟨hS, ?_⟩
          refine call_con [] (fun β w' hs' => rsumT_c w' _ x2 _ _ e2 (hs'.get 4 rfl) (Rd.old h3 (hs'.get 6 rfl)) z2) ?_
          rintro v Fs ⟨A2, k2, rfl, q2, r2, rfl⟩
          refine ⟨hS, ?_⟩
          refine call_con [] (fun β w' hs' => rsumT_c w' _ x3 _ _ e3 (hs'.get 3 rfl) (Rd.old h3 (hs'.get 7 rfl)) z3) ?_
          rintro v Fs ⟨A3, k3, rfl, q3, r3, rfl⟩
          refine ⟨hS, ⟨hS, ?_⟩⟩
          intro β w' hs'; exact (hs'.keepB (List.nil_sublist _)).fin [0, 1, 2, 5] ⟨A0, k0, k0, A1, k1, A2, k2, A3, k3, rfl, rfl, q0, r0, q1, r1, q2, r2, q3, r3, rfl⟩ rfl rfl rfl ⟨rfl, rfl, rfl, rfl, trivial⟩
      · intro b1 c1 _ _; refine ⟨hS, ?_⟩
        refine ⟨?_, ?_⟩
        · refine call_con [] (fun β w' hs' => rsumT_c w' _ x0 _ _ e0 (hs'.get 2 rfl) (Rd.old h3 (hs'.get 3 rfl)) z0) ?_
          rintro v Fs ⟨A0, k0, rfl, q0, r0, rfl⟩
          refine ⟨hS, ⟨_, 16, 0, 16, _, _, rfl, rfl, rfl, Nat.le_refl _, Nat.le_trans (by decide) q0, by omega, rfl, rfl, rfl, ?_⟩⟩
          refine ⟨?_, ?_⟩
          · refine call_con [] (fun β w' hs' => rsumT_c w' _ x1 _ _ e1 (hs'.get 1 rfl) (Rd.old h3 (hs'.get 4 rfl)) z1) ?_
            rintro v Fs ⟨A1, k1, rfl, q1, r1, rfl⟩
            refine ⟨hS, ?_⟩
            refine ⟨?_, ?_⟩
            · refine call_con [] (fun β w' hs' => rsumT_c w' _ x2 _ _ e2 (hs'.get 3 rfl) (Rd.old h3 (hs'.get 5 rfl)) z2) ?_
              rintro v Fs ⟨A2, k2, rfl, q2, r2, rfl⟩
              refine ⟨hS, ?_⟩
              intro b3 c3 _ _; refine ⟨hS, ?_⟩
              refine call_con [] (fun β w' hs' => rsumT_c w' _ x3 _ _ e3 (hs'.get 0 rfl) (Rd.old h3 (hs'.get 7 rfl)) z3) ?_
              rintro v Fs ⟨A3, k3, rfl, q3, r3, rfl⟩
              refine ⟨hS, ⟨hS, ?_⟩⟩
              intro β w' hs'; exact (hs'.keepB (List.nil_sublist _)).fin [0, 2, 3, 4] ⟨A0, k0, k0, A1, k1, A2, k2, A3, k3, rfl, rfl, q0, r0, q1, r1, q2, r2, q3, r3, rfl⟩ rfl rfl rfl ⟨rfl, rfl, rfl, rfl, trivial⟩
            · intro b3 c3 _ _; refine ⟨hS, ?_⟩
              refine call_con [] (fun β w' hs' => rsumT_c w' _ x2 _ _ e2 (hs'.get 4 rfl) (Rd.old h3 (hs'.get 6 rfl)) z2) ?_
              rintro v Fs ⟨A2, k2, rfl, q2, r2, rfl⟩
              refine ⟨hS, ?_⟩
              refine call_con [] (fun β w' hs' => rsumT_c w' _ x3 _ _ e3 (hs'.get 1 rfl) (Rd.old h3 (hs'.get 7 rfl)) z3) ?_
              rintro v Fs ⟨A3, k3, rfl, q3, r3, rfl⟩
              refine ⟨hS, ⟨hS, ?_⟩⟩
              intro β w' hs'; exact (hs'.keepB (List.nil_sublist _)).fin [0, 1, 3, 4] ⟨A0, k0, k0, A1, k1, A2, k2, A3, k3, rfl, rfl, q0, r0, q1, r1, q2, r2, q3, r3, rfl⟩ rfl rfl rfl ⟨rfl, rfl, rfl, rfl, trivial⟩
          · intro b3 c3 _ _; refine ⟨hS, ?_⟩
            refine call_con [] (fun β w' hs' => rsumT_c w' _ x1 _ _ e1 (hs'.get 2 rfl) (Rd.old h3 (hs'.get 5 rfl)) z1) ?_
            rintro v Fs ⟨A1, k1, rfl, q1, r1, rfl⟩
            refine ⟨hS, ?_⟩
            refine call_con [] (fun β w' hs' => rsumT_c w' _ x2 _ _ e2 (hs'.get 4 rfl) (Rd.old h3 (hs'.get 6 rfl)) z2) ?_
            rintro v Fs ⟨A2, k2, rfl, q2, r2, rfl⟩
            refine ⟨hS, ?_⟩
            refine call_con [] (fun β w' hs' => rsumT_c w' _ x3 _ _ e3 (hs'.get 2 rfl) (Rd.old h3 (hs'.get 7 rfl)) z3) ?_
            rintro v Fs ⟨A3, k3, rfl, q3, r3, rfl⟩
            refine ⟨hS, ⟨hS, ?_⟩⟩
            intro β w' hs'; exact (hs'.keepB (List.nil_sublist _)).fin [0, 1, 2, 4] ⟨A0, k0, k0, A1, k1, A2, k2, A3, k3, rfl, rfl, q0, r0, q1, r1, q2, r2, q3, r3, rfl⟩ rfl rfl rfl ⟨rfl, rfl, rfl, rfl, trivial⟩
        · intro b3 c3 _ _; refine ⟨hS, ?_⟩
          refine call_con [] (fun β w' hs' => rsumT_c w' _ x0 _ _ e0 (hs'.get 3 rfl) (Rd.old h3 (hs'.get 4 rfl)) z0) ?_
          rintro v Fs ⟨A0, k0, rfl, q0, r0, rfl⟩
          refine ⟨hS, ⟨_, 16, 0, 16, _, _, rfl, rfl, rfl, Nat.le_refl _, Nat.le_trans (by decide) q0, by omega, rfl, rfl, rfl, ?_⟩⟩
          refine call_con [] (fun β w' hs' => rsumT_c w' _ x1 _ _ e1 (hs'.get 2 rfl) (Rd.old h3 (hs'.get 5 rfl)) z1) ?_
          rintro v Fs ⟨A1, k1, rfl, q1, r1, rfl⟩
          refine ⟨hS, ?_⟩
          refine call_con [] (fun β w' hs' => rsumT_c w' _ x2 _ _ e2 (hs'.get 4 rfl) (Rd.old h3 (hs'.get 6 rfl)) z2) ?_
          rintro v Fs ⟨A2, k2, rfl, q2, r2, rfl⟩
          refine ⟨hS, ?_⟩
          refine call_con [] (fun β w' hs' => rsumT_c w' _ x3 _ _ e3 (hs'.get 3 rfl) (Rd.old h3 (hs'.get 7 rfl)) z3) ?_
          rintro v Fs ⟨A3, k3, rfl, q3, r3, rfl⟩
          refine ⟨hS, ⟨hS, ?_⟩⟩
          intro β w' hs'; exact (hs'.keepB (List.nil_sublist _)).fin [0, 1, 2, 3] ⟨A0, k0, k0, A1, k1, A2, k2, A3, k3, rfl, rfl, q0, r0, q1, r1, q2, r2, q3, r3, rfl⟩ rfl rfl rfl ⟨rfl, rfl, rfl, rfl, trivial⟩
      · intro b3 c3 _ _; refine ⟨hS, ?_⟩
        refine ⟨?_, ?_⟩
        · refine call_con [] (fun β w' hs' => rsumT_c w' _ x0 _ _ e0 (hs'.get 2 rfl) (Rd.old h3 (hs'.get 3 rfl)) z0) ?_
          rintro v Fs ⟨A0, k0, rfl, q0, r0, rfl⟩
          refine ⟨hS, ⟨_, 16, 0, 16, _, _, rfl, rfl, rfl, Nat.le_refl _, Nat.le_trans (by decide) q0, by omega, rfl, rfl, rfl, ?_⟩⟩
          intro b1 c1 _ _; refine ⟨hS, ?_⟩
          refine call_con [] (fun β w' hs' => rsumT_c w' _ x1 _ _ e1 (hs'.get 0 rfl) (Rd.old h3 (hs'.get 5 rfl)) z1) ?_
          rintro v Fs ⟨A1, k1, rfl, q1, r1, rfl⟩
          refine ⟨hS, ?_⟩
          refine call_con [] (fun β w' hs' => rsumT_c w' _ x2 _ _ e2 (hs'.get 4 rfl) (Rd.old h3 (hs'.get 6 rfl)) z2) ?_
          rintro v Fs ⟨A2, k2, rfl, q2, r2, rfl⟩
          refine ⟨hS, ?_⟩
          refine call_con [] (fun β w' hs' => rsumT_c w' _ x3 _ _ e3 (hs'.get 4 rfl) (Rd.old h3 (hs'.get 7 rfl)) z3) ?_
          rintro v Fs ⟨A3, k3, rfl, q3, r3, rfl⟩
          refine ⟨hS, ⟨hS, ?_⟩⟩
          intro β w' hs'; exact (hs'.keepB (List.nil_sublist _)).fin [0, 1, 2, 4] ⟨A0, k0, k0, A1, k1, A2, k2, A3, k3, rfl, rfl, q0, r0, q1, r1, q2, r2, q3, r3, rfl⟩ rfl rfl rfl ⟨rfl, rfl, rfl, rfl, trivial⟩
        · intro b1 c1 _ _; refine ⟨hS, ?_⟩
          refine call_con [] (fun β w' hs' => rsumT_c w' _ x0 _ _ e0 (hs'.get 3 rfl) (Rd.old h3 (hs'.get 4 rfl)) z0) ?_
          rintro v Fs ⟨A0, k0, rfl, q0, r0, rfl⟩
          refine ⟨hS, ⟨_, 16, 0, 16, _, _, rfl, rfl, rfl, Nat.le_refl _, Nat.le_trans (by decide) q0, by omega, rfl, rfl, rfl, ?_⟩⟩
          refine call_con [] (fun β w' hs' => rsumT_c w' _ x1 _ _ e1 (hs'.get 1 rfl) (Rd.old h3 (hs'.get 5 rfl)) z1) ?_
          rintro v Fs ⟨A1, k1, rfl, q1, r1, rfl⟩
          refine ⟨hS, ?_⟩
          refine call_con [] (fun β w' hs' => rsumT_c w' _ x2 _ _ e2 (hs'.get 4 rfl) (Rd.old h3 (hs'.get 6 rfl)) z2) ?_
          rintro v Fs ⟨A2, k2, rfl, q2, r2, rfl⟩
          refine ⟨hS, ?_⟩
          refine call_con [] (fun β w' hs' => rsumT_c w' _ x3 _ _ e3 (hs'.get 4 rfl) (Rd.old h3 (hs'.get 7 rfl)) z3) ?_
          rintro v Fs ⟨A3, k3, rfl, q3, r3, rfl⟩
          refine ⟨hS, ⟨hS, ?_⟩⟩
          intro β w' hs'; exact (hs'.keepB (List.nil_sublist _)).fin [0, 1, 2, 3] ⟨A0, k0, k0, A1, k1, A2, k2, A3, k3, rfl, rfl, q0, r0, q1, r1, q2, r2, q3, r3, rfl⟩ rfl rfl rfl ⟨rfl, rfl, rfl, rfl, trivial⟩
    · intro b3 c3 _ _; refine ⟨hS, ?_⟩
      refine ⟨?_, ?_, ?_⟩
      · refine call_con [] (fun β w' hs' => rsumT_c w' _ x0 _ _ e0 (hs'.get 1 rfl) (Rd.old h3 (hs'.get 2 rfl)) z0) ?_
        rintro v Fs ⟨A0, k0, rfl, q0, r0, rfl⟩
        refine ⟨hS, ⟨_, 16, 0, 16, _, _, rfl, rfl, rfl, Nat.le_refl _, Nat.le_trans (by decide) q0, by omega, rfl, rfl, rfl, ?_⟩⟩
        refine ⟨?_, ?_⟩
        · intro b1 c1 _ _; refine ⟨hS, ?_⟩
          refine ⟨?_, ?_⟩
          · refine call_con [] (fun β w' hs' => rsumT_c w' _ x1 _ _ e1 (hs'.get 0 rfl) (Rd.old h3 (hs'.get 4 rfl)) z1) ?_
            rintro v Fs ⟨A1, k1, rfl, q1, r1, rfl⟩
            refine ⟨hS, ?_⟩
            intro b2 c2 _ _; refine ⟨hS, ?_⟩
            refine call_con [] (fun β w' hs' => rsumT_c w' _ x2 _ _ e2 (hs'.get 0 rfl) (Rd.old h3 (hs'.get 6 rfl)) z2) ?_
            rintro v Fs ⟨A2, k2, rfl, q2, r2, rfl⟩
            refine ⟨hS, ?_⟩
            refine call_con [] (fun β w' hs' => rsumT_c w' _ x3 _ _ e3 (hs'.get 5 rfl) (Rd.old h3 (hs'.get 7 rfl)) z3) ?_
            rintro v Fs ⟨A3, k3, rfl, q3, r3, rfl⟩
            refine ⟨hS, ⟨hS, ?_⟩⟩
            intro β w' hs'; exact (hs'.keepB (List.nil_sublist _)).fin [0, 1, 3, 5] ⟨A0, k0, k0, A1, k1, A2, k2, A3, k3, rfl, rfl, q0, r0, q1, r1, q2, r2, q3, r3, rfl⟩ rfl rfl rfl ⟨rfl, rfl, rfl, rfl, trivial⟩
          · intro b2 c2 _ _; refine ⟨hS, ?_⟩
            refine call_con [] (fun β w' hs' => rsumT_c w' _ x1 _ _ e1 (hs'.get 1 rfl) (Rd.old h3 (hs'.get 5 rfl)) z1) ?_
            rintro v Fs ⟨A1, k1, rfl, q1, r1, rfl⟩
            refine ⟨hS, ?_⟩
            refine call_con [] (fun β w' hs' => rsumT_c w' _ x2 _ _ e2 (hs'.get 1 rfl) (Rd.old h3 (hs'.get 6 rfl)) z2) ?_
            rintro v Fs ⟨A2, k2, rfl, q2, r2, rfl⟩
            refine ⟨hS, ?_⟩
            refine call_con [] (fun β w' hs' => rsumT_c w' _ x3 _ _ e3 (hs'.get 5 rfl) (Rd.old h3 (hs'.get 7 rfl)) z3) ?_
            rintro v Fs ⟨A3, k3, rfl, q3, r3, rfl⟩
            refine ⟨hS, ⟨hS, ?_⟩⟩
            intro β w' hs'; exact (hs'.keepB (List.nil_sublist _)).fin [0, 1, 2, 5] ⟨A0, k0, k0, A1, k1, A2, k2, A3, k3, rfl, rfl, q0, r0, q1, r1, q2, r2, q3, r3, rfl⟩ rfl rfl rfl ⟨rfl, rfl, rfl, rfl, trivial⟩
        · intro b2 c2 _ _; refine ⟨hS, ?_⟩
          intro b1 c1 _ _; refine ⟨hS, ?_⟩
          refine call_con [] (fun β w' hs' => rsumT_c w' _ x1 _ _ e1 (hs'.get 0 rfl) (Rd.old h3 (hs'.get 5 rfl)) z1) ?_
          rintro v Fs ⟨A1, k1, rfl, q1, r1, rfl⟩
          refine ⟨hS, ?_⟩
          refine call_con [] (fun β w' hs' => rsumT_c w' _ x2 _ _ e2 (hs'.get 2 rfl) (Rd.old h3 (hs'.get 6 rfl)) z2) ?_
          rintro v Fs ⟨A2, k2, rfl, q2, r2, rfl⟩
          refine ⟨hS, ?_⟩
          refine call_con [] (fun β w' hs' => rsumT_c w' _ x3 _ _ e3 (hs'.get 5 rfl) (Rd.old h3 (hs'.get 7 rfl)) z3) ?_
          rintro v Fs ⟨A3, k3, rfl, q3, r3, rfl⟩
          refine ⟨hS, ⟨hS, ?_⟩⟩
          intro β w' hs'; exact (hs'.keepB (List.nil_sublist _)).fin [0, 1, 2, 5] ⟨A0, k0, k0, A1, k1, A2, k2, A3, k3, rfl, rfl, q0, r0, q1, r1, q2, r2, q3, r3, rfl⟩ rfl rfl rfl ⟨rfl, rfl, rfl, rfl, trivial⟩
      · intro b1 c1 _ _; refine ⟨hS, ?_⟩
        refine ⟨?_, ?_⟩
        · refine call_con [] (fun β w' hs' => rsumT_c w' _ x0 _ _ e0 (hs'.get 2 rfl) (Rd.old h3 (hs'.get 3 rfl)) z0) ?_
          rintro v Fs ⟨A0, k0, rfl, q0, r0, rfl⟩
          refine ⟨hS, ⟨_, 16, 0, 16, _, _, rfl, rfl, rfl, Nat.le_refl _, Nat.le_trans (by decide) q0, by omega, rfl, rfl, rfl, ?_⟩⟩
          refine ⟨?_, ?_⟩
          · refine call_con [] (fun β w' hs' => rsumT_c w' _ x1 _ _ e1 (hs'.get 1 rfl) (Rd.old h3 (hs'.get 4 rfl)) z1) ?_
            rintro v Fs ⟨A1, k1, rfl, q1, r1, rfl⟩
            refine ⟨hS, ?_⟩
            intro b2 c2 _ _; refine ⟨hS, ?_⟩
            refine call_con [] (fun β w' hs' => rsumT_c w' _ x2 _ _ e2 (hs'.get 0 rfl) (Rd.old h3 (hs'.get 6 rfl)) z2) ?_
            rintro v Fs ⟨A2, k2, rfl, q2, r2, rfl⟩
            refine ⟨hS, ?_⟩
            refine call_con [] (fun β w' hs' => rsumT_c w' _ x3 _ _ e3 (hs'.get 5 rfl) (Rd.old h3 (hs'.get 7 rfl)) z3) ?_
            rintro v Fs ⟨A3, k3, rfl, q3, r3, rfl⟩
            refine ⟨hS, ⟨hS, ?_⟩⟩
            intro β w' hs'; exact (hs'.keepB (List.nil_sublist _)).fin [0, 1, 3, 4] ⟨A0, k0, k0, A1, k1, A2, k2, A3, k3, rfl, rfl, q0, r0, q1, r1, q2, r2, q3, r3, rfl⟩ rfl rfl rfl ⟨rfl, rfl, rfl, rfl, trivial⟩
          · intro b2 c2 _ _; refine ⟨hS, ?_⟩
            refine call_con [] (fun β w' hs' => rsumT_c w' _ x1 _ _ e1 (hs'.get 2 rfl) (Rd.old h3 (hs'.get 5 rfl)) z1) ?_
            rintro v Fs ⟨A1, k1, rfl, q1, r1, rfl⟩
            refine ⟨hS, ?_⟩
            refine call_con [] (fun β w' hs' => rsumT_c w' _ x2 _ _ e2 (hs'.get 1 rfl) (Rd.old h3 (hs'.get 6 rfl)) z2) ?_
            rintro v Fs ⟨A2, k2, rfl, q2, r2, rfl⟩
            refine ⟨hS, ?_⟩
            refine call_con [] (fun β w' hs' => rsumT_c w' _ x3 _ _ e3 (hs'.get 5 rfl) (Rd.old h3 (hs'.get 7 rfl)) z3) ?_
            rintro v Fs ⟨A3, k3, rfl, q3, r3, rfl⟩
            refine ⟨hS, ⟨hS, ?_⟩⟩
            intro β w' hs'; exact (hs'.keepB (List.nil_sublist _)).fin [0, 1, 2, 4] ⟨A0, k0, k0, A1, k1, A2, k2, A3, k3, rfl, rfl, q0, r0, q1, r1, q2, r2, q3, r3, rfl⟩ rfl rfl rfl ⟨rfl, rfl, rfl, rfl, trivial⟩
        · intro b2 c2 _ _; refine ⟨hS, ?_⟩
          refine call_con [] (fun β w' hs' => rsumT_c w' _ x0 _ _ e0 (hs'.get 3 rfl) (Rd.old h3 (hs'.get 4 rfl)) z0) ?_
          rintro v Fs ⟨A0, k0, rfl, q0, r0, rfl⟩
          refine ⟨hS, ⟨_, 16, 0, 16, _, _, rfl, rfl, rfl, Nat.le_refl _, Nat.le_trans (by decide) q0, by omega, rfl, rfl, rfl, ?_⟩⟩
          refine call_con [] (fun β w' hs' => rsumT_c w' _ x1 _ _ e1 (hs'.get 2 rfl) (Rd.old h3 (hs'.get 5 rfl)) z1) ?_
          rintro v Fs ⟨A1, k1, rfl, q1, r1, rfl⟩
          refine ⟨hS, ?_⟩
          refine call_con [] (fun β w' hs' => rsumT_c w' _ x2 _ _ e2 (hs'.get 2 rfl) (Rd.old h3 (hs'.get 6 rfl)) z2) ?_
          rintro v Fs ⟨A2, k2, rfl, q2, r2, rfl⟩
          refine ⟨hS, ?_⟩
          refine call_con [] (fun β w' hs' => rsumT_c w' _ x3 _ _ e3 (hs'.get 5 rfl) (Rd.old h3 (hs'.get 7 rfl)) z3) ?_
          rintro v Fs ⟨A3, k3, rfl, q3, r3, rfl⟩
          refine ⟨hS, ⟨hS, ?_⟩⟩
          intro β w' hs'; exact (hs'.keepB (List.nil_sublist _)).fin [0, 1, 2, 3] ⟨A0, k0, k0, A1, k1, A2, k2, A3, k3, rfl, rfl, q0, r0, q1, r1, q2, r2, q3, r3, rfl⟩ rfl rfl rfl ⟨rfl, rfl, rfl, rfl, trivial⟩
      · intro b2 c2 _ _; refine ⟨hS, ?_⟩
        refine ⟨?_, ?_⟩
        · refine call_con [] (fun β w' hs' => rsumT_c w' _ x0 _ _ e0 (hs'.get 2 rfl) (Rd.old h3 (hs'.get 3 rfl)) z0) ?_
          rintro v Fs ⟨A0, k0, rfl, q0, r0, rfl⟩
          refine ⟨hS, ⟨_, 16, 0, 16, _, _, rfl, rfl, rfl, Nat.le_refl _, Nat.le_trans (by decide) q0, by omega, rfl, rfl, rfl, ?_⟩⟩
          intro b1 c1 _ _; refine ⟨hS, ?_⟩
          refine call_con [] (fun β w' hs' => rsumT_c w' _ x1 _ _ e1 (hs'.get 0 rfl) (Rd.old h3 (hs'.get 5 rfl)) z1) ?_
          rintro v Fs ⟨A1, k1, rfl, q1, r1, rfl⟩
          refine ⟨hS, ?_⟩
          refine call_con [] (fun β w' hs' => rsumT_c w' _ x2 _ _ e2 (hs'.get 3 rfl) (Rd.old h3 (hs'.get 6 rfl)) z2) ?_
          rintro v Fs ⟨A2, k2, rfl, q2, r2, rfl⟩
          refine ⟨hS, ?_⟩
          refine call_con [] (fun β w' hs' => rsumT_c w' _ x3 _ _ e3 (hs'.get 5 rfl) (Rd.old h3 (hs'.get 7 rfl)) z3) ?_
          rintro v Fs ⟨A3, k3, rfl, q3, r3, rfl⟩
          refine ⟨hS, ⟨hS, ?_⟩⟩
          intro β w' hs'; exact (hs'.keepB (List.nil_sublist _)).fin [0, 1, 2, 4] ⟨A0, k0, k0, A1, k1, A2, k2, A3, k3, rfl, rfl, q0, r0, q1, r1, q2, r2, q3, r3, rfl⟩ rfl rfl rfl ⟨rfl, rfl, rfl, rfl, trivial⟩
        · intro b1 c1 _ _; refine ⟨hS, ?_⟩
          refine call_con [] (fun β w' hs' => rsumT_c w' _ x0 _ _ e0 (hs'.get 3 rfl) (Rd.old h3 (hs'.get 4 rfl)) z0) ?_
          rintro v Fs ⟨A0, k0, rfl, q0, r0, rfl⟩
          refine ⟨hS, ⟨_, 16, 0, 16, _, _, rfl, rfl, rfl, Nat.le_refl _, Nat.le_trans (by decide) q0, by omega, rfl, rfl, rfl, ?_⟩⟩
          refine call_con [] (fun β w' hs' => rsumT_c w' _ x1 _ _ e1 (hs'.get 1 rfl) (Rd.old h3 (hs'.get 5 rfl)) z1) ?_
          rintro v Fs ⟨A1, k1, rfl, q1, r1, rfl⟩
          refine ⟨hS, ?_⟩
          refine call_con [] (fun β w' hs' => rsumT_c w' _ x2 _ _ e2 (hs'.get 3 rfl) (Rd.old h3 (hs'.get 6 rfl)) z2) ?_
          rintro v Fs ⟨A2, k2, rfl, q2, r2, rfl⟩
          refine ⟨hS, ?_⟩
          refine call_con [] (fun β w' hs' => rsumT_c w' _ x3 _ _ e3 (hs'.get 5 rfl) (Rd.old h3 (hs'.get 7 rfl)) z3) ?_
          rintro v Fs ⟨A3, k3, rfl, q3, r3, rfl⟩
          refine ⟨hS, ⟨hS, ?_⟩⟩
          intro β w' hs'; exact (hs'.keepB (List.nil_sublist _)).fin [0, 1, 2, 3] ⟨A0, k0, k0, A1, k1, A2, k2, A3, k3, rfl, rfl, q0, r0, q1, r1, q2, r2, q3, r3, rfl⟩ rfl rfl rfl ⟨rfl, rfl, rfl, rfl, trivial⟩
  · intro b1 c1 _ _; refine ⟨hS, ?_⟩
    refine ⟨?_, ?_, ?_⟩
    · intro b0 c0 _ _; refine ⟨hS, ?_⟩
      refine ⟨?_, ?_, ?_⟩
      · refine call_con [] (fun β w' hs' => rsumT_c w' _ x0 _ _ e0 (hs'.get 0 rfl) (Rd.old h3 (hs'.get 2 rfl)) z0) ?_
        rintro v Fs ⟨A0, k0, rfl, q0, r0, rfl⟩
        refine ⟨hS, ⟨_, 16, 0, 16, _, _, rfl, rfl, rfl, Nat.le_refl _, Nat.le_trans (by decide) q0, by omega, rfl, rfl, rfl, ?_⟩⟩
        refine ⟨?_, ?_, ?_⟩
        · refine call_con [] (fun β w' hs' => rsumT_c w' _ x1 _ _ e1 (hs'.get 2 rfl) (Rd.old h3 (hs'.get 3 rfl)) z1) ?_
          rintro v Fs ⟨A1, k1, rfl, q1, r1, rfl⟩
          refine ⟨hS, ?_⟩
          refine ⟨?_, ?_⟩
          · intro b2 c2 _ _; refine ⟨hS, ?_⟩
            refine ⟨?_, ?_⟩
            · refine call_con [] (fun β w' hs' => rsumT_c w' _ x2 _ _ e2 (hs'.get 0 rfl) (Rd.old h3 (hs'.get 5 rfl)) z2) ?_
              rintro v Fs ⟨A2, k2, rfl, q2, r2, rfl⟩
              refine ⟨hS, ?_⟩
              intro b3 c3 _ _; refine ⟨hS, ?_⟩
              refine call_con [] (fun β w' hs' => rsumT_c w' _ x3 _ _ e3 (hs'.get 0 rfl) (Rd.old h3 (hs'.get 7 rfl)) z3) ?_
              rintro v Fs ⟨A3, k3, rfl, q3, r3, rfl⟩
              refine ⟨hS, ⟨hS, ?_⟩⟩
              intro β w' hs'; exact (hs'.keepB (List.nil_sublist _)).fin [0, 2, 4, 5] ⟨A0, k0, k0, A1, k1, A2, k2, A3, k3, rfl, rfl, q0, r0, q1, r1, q2, r2, q3, r3, rfl⟩ rfl rfl rfl ⟨rfl, rfl, rfl, rfl, trivial⟩
            · intro b3 c3 _ _; refine ⟨hS, ?_⟩
              refine call_con [] (fun β w' hs' => rsumT_c w' _ x2 _ _ e2 (hs'.get 1 rfl) (Rd.old h3 (hs'.get 6 rfl)) z2) ?_
              rintro v Fs ⟨A2, k2, rfl, q2, r2, rfl⟩
              refine ⟨hS, ?_⟩
              refine call_con [] (fun β w' hs' => rsumT_c w' _ x3 _ _ e3 (hs'.get 1 rfl) (Rd.old h3 (hs'.get 7 rfl)) z3) ?_
              rintro v Fs ⟨A3, k3, rfl, q3, r3, rfl⟩
              refine ⟨hS, ⟨hS, ?_⟩⟩
              intro β w' hs'; exact (hs'.keepB (List.nil_sublist _)).fin [0, 1, 4, 5] ⟨A0, k0, k0, A1, k1, A2, k2, A3, k3, rfl, rfl, q0, r0, q1, r1, q2, r2, q3, r3, rfl⟩ rfl rfl rfl ⟨rfl, rfl, rfl, rfl, trivial⟩
          · intro b3 c3 _ _; refine ⟨hS, ?_⟩
            intro b2 c2 _ _; refine ⟨hS, ?_⟩
            refine call_con [] (fun β w' hs' => rsumT_c w' _ x2 _ _ e2 (hs'.get 0 rfl) (Rd.old h3 (hs'.get 6 rfl)) z2) ?_
            rintro v Fs ⟨A2, k2, rfl, q2, r2, rfl⟩
            refine ⟨hS, ?_⟩
            refine call_con [] (fun β w' hs' => rsumT_c w' _ x3 _ _ e3 (hs'.get 2 rfl) (Rd.old h3 (hs'.get 7 rfl)) z3) ?_
            rintro v Fs ⟨A3, k3, rfl, q3, r3, rfl⟩
            refine ⟨hS, ⟨hS, ?_⟩⟩
            intro β w' hs'; exact (hs'.keepB (List.nil_sublist _)).fin [0, 1, 4, 5] ⟨A0, k0, k0, A1, k1, A2, k2, A3, k3, rfl, rfl, q0, r0, q1, r1, q2, r2, q3, r3, rfl⟩ rfl rfl rfl ⟨rfl, rfl, rfl, rfl, trivial⟩
        · intro b2 c2 _ _; refine ⟨hS, ?_⟩
          refine ⟨?_, ?_⟩
          · refine call_con [] (fun β w' hs' => rsumT_c w' _ x1 _ _ e1 (hs'.get 3 rfl) (Rd.old h3 (hs'.get 4 rfl)) z1) ?_
            rintro v Fs ⟨A1, k1, rfl, q1, r1, rfl⟩
            refine ⟨hS, ?_⟩
            refine ⟨?_, ?_⟩
            · refine call_con [] (fun β w' hs' => rsumT_c w' _ x2 _ _ e2 (hs'.get 1 rfl) (Rd.old h3 (hs'.get 5 rfl)) z2) ?_
              rintro v Fs ⟨A2, k2, rfl, q2, r2, rfl⟩
              refine ⟨hS, ?_⟩
              intro b3 c3 _ _; refine ⟨hS, ?_⟩
              refine call_con [] (fun β w' hs' => rsumT_c w' _ x3 _ _ e3 (hs'.get 0 rfl) (Rd.old h3 (hs'.get 7 rfl)) z3) ?_
              rintro v Fs ⟨A3, k3, rfl, q3, r3, rfl⟩
              refine ⟨hS, ⟨hS, ?_⟩⟩
              intro β w' hs'; exact (hs'.keepB (List.nil_sublist _)).fin [0, 2, 3, 5] ⟨A0, k0, k0, A1, k1, A2, k2, A3, k3, rfl, rfl, q0, r0, q1, r1, q2, r2, q3, r3, rfl⟩ rfl rfl rfl ⟨rfl, rfl, rfl, rfl, trivial⟩
            · intro b3 c3 _ _; refine ⟨hS, ?_⟩
              refine call_con [] (fun β w' hs' => rsumT_c w' _ x2 _ _ e2 (hs'.get 2 rfl) (Rd.old h3 (hs'.get 6 rfl)) z2) ?_
              rintro v Fs ⟨A2, k2, rfl, q2, r2, rfl⟩
              refine ⟨hS, ?_⟩
              refine call_con [] (fun β w' hs' => rsumT_c w' _ x3 _ _ e3 (hs'.get 1 rfl) (Rd.old h3 (hs'.get 7 rfl)) z3) ?_
              rintro v Fs ⟨A3, k3, rfl, q3, r3, rfl⟩
              refine ⟨hS, ⟨hS, ?_⟩⟩
              intro β w' hs'; exact (hs'.keepB (List.nil_sublist _)).fin [0, 1, 3, 5] ⟨A0, k0, k0, A1, k1, A2, k2, A3, k3, rfl, rfl, q0, r0, q1, r1, q2, r2, q3, r3, rfl⟩ rfl rfl rfl ⟨rfl, rfl, rfl, rfl, trivial⟩
          · intro b3 c3 _ _; refine ⟨hS, ?_⟩
            refine call_con [] (fun β w' hs' => rsumT_c w' _ x1 _ _ e1 (hs'.get 4 rfl) (Rd.old h3 (hs'.get 5 rfl)) z1) ?_
            rintro v Fs ⟨A1, k1, rfl, q1, r1, rfl⟩
            refine ⟨hS, ?_⟩
            refine call_con [] (fun β w' hs' => rsumT_c w' _ x2 _ _ e2 (hs'.get 2 rfl) (Rd.old h3 (hs'.get 6 rfl)) z2) ?_
            rintro v Fs ⟨A2, k2, rfl, q2, r2, rfl⟩
            refine ⟨hS, ?_⟩
            refine call_con [] (fun β w' hs' => rsumT_c w' _ x3 _ _ e3 (hs'.get 2 rfl) (Rd.old h3 (hs'.get 7 rfl)) z3) ?_
            rintro v Fs ⟨A3, k3, rfl, q3, r3, rfl⟩
            refine ⟨hS, ⟨hS, ?_⟩⟩
            intro β w' hs'; exact (hs'.keepB (List.nil_sublist _)).fin [0, 1, 2, 5] ⟨A0, k0, k0, A1, k1, A2, k2, A3, k3, rfl, rfl, q0, r0, q1, r1, q2, r2, q3, r3, rfl⟩ rfl rfl rfl ⟨rfl, rfl, rfl, rfl, trivial⟩
        · intro b3 c3 _ _; refine ⟨hS, ?_⟩
          refine ⟨?_, ?_⟩
          · refine call_con [] (fun β w' hs' => rsumT_c w' _ x1 _ _ e1 (hs'.get 3 rfl) (Rd.old h3 (hs'.get 4 rfl)) z1) ?_
            rintro v Fs ⟨A1, k1, rfl, q1, r1, rfl⟩
            refine ⟨hS, ?_⟩
            intro b2 c2 _ _; refine ⟨hS, ?_⟩
            refine call_con [] (fun β w' hs' => rsumT_c w' _ x2 _ _ e2 (hs'.get 0 rfl) (Rd.old h3 (hs'.get 6 rfl)) z2) ?_
            rintro v Fs ⟨A2, k2, rfl, q2, r2, rfl⟩
            refine ⟨hS, ?_⟩
            refine call_con [] (fun β w' hs' => rsumT_c w' _ x3 _ _ e3 (hs'.get 3 rfl) (Rd.old h3 (hs'.get 7 rfl)) z3) ?_
            rintro v Fs ⟨A3, k3, rfl, q3, r3, rfl⟩
            refine ⟨hS, ⟨hS, ?_⟩⟩
            intro β w' hs'; exact (hs'.keepB (List.nil_sublist _)).fin [0, 1, 3, 5] ⟨A0, k0, k0, A1, k1, A2, k2, A3, k3, rfl, rfl, q0, r0, q1, r1, q2, r2, q3, r3, rfl⟩ rfl rfl rfl ⟨rfl, rfl, rfl, rfl, trivial⟩
          · intro b2 c2 _ _; refine ⟨hS, ?_⟩
            refine call_con [] (fun β w' hs' => rsumT_c w' _ x1 _ _ e1 (hs'.get 4 rfl) (Rd.old h3 (hs'.get 5 rfl)) z1) ?_
            rintro v Fs ⟨A1, k1, rfl, q1, r1, rfl⟩
            refine ⟨hS, ?_⟩
            refine call_con [] (fun β w' hs' => rsumT_c w' _ x2 _ _ e2 (hs'.get 1 rfl) (Rd.old h3 (hs'.get 6 rfl)) z2) ?_
            rintro v Fs ⟨A2, k2, rfl, q2, r2, rfl⟩
            refine ⟨hS, ?_⟩
            refine call_con [] (fun β w' hs' => rsumT_c w' _ x3 _ _ e3 (hs'.get 3 rfl) (Rd.old h3 (hs'.get 7 rfl)) z3) ?_
            rintro v Fs ⟨A3, k3, rfl, q3, r3, rfl⟩
            refine ⟨hS, ⟨hS, ?_⟩⟩
            intro β w' hs'; exact (hs'.keepB (List.nil_sublist _)).fin [0, 1, 2, 5] ⟨A0, k0, k0, A1, k1, A2, k2, A3, k3, rfl, rfl, q0, r0, q1, r1, q2, r2, q3, r3, rfl⟩ rfl rfl rfl ⟨rfl, rfl, rfl, rfl, trivial⟩
      · intro b2 c2 _ _; refine ⟨hS, ?_⟩
        refine ⟨?_, ?_⟩
        · refine call_con [] (fun β w' hs' => rsumT_c w' _ x0 _ _ e0 (hs'.get 1 rfl) (Rd.old h3 (hs'.get 3 rfl)) z0) ?_
          rintro v Fs ⟨A0, k0, rfl, q0, r0, rfl⟩
          refine ⟨hS, ⟨_, 16, 0, 16, _, _, rfl, rfl, rfl, Nat.le_refl _, Nat.le_trans (by decide) q0, by omega, rfl, rfl, rfl, ?_⟩⟩
          refine ⟨?_, ?_⟩
          · refine call_con [] (fun β w' hs' => rsumT_c w' _ x1 _ _ e1 (hs'.get 3 rfl) (Rd.old h3 (hs'.get 4 rfl)) z1) ?_
            rintro v Fs ⟨A1, k1, rfl, q1, r1, rfl⟩
            refine ⟨hS, ?_⟩
            refine ⟨?_, ?_⟩
            · refine call_con [] (fun β w' hs' => rsumT_c w' _ x2 _ _ e2 (hs'.get 2 rfl) (Rd.old h3 (hs'.get 5 rfl)) z2) ?_
              rintro v Fs ⟨A2, k2, rfl, q2, r2, rfl⟩
              refine ⟨hS, ?_⟩
              intro b3 c3 _ _; refine ⟨hS, ?_⟩
              refine call_con [] (fun β w' hs' => rsumT_c w' _ x3 _ _ e3 (hs'.get 0 rfl) (Rd.old h3 (hs'.get 7 rfl)) z3) ?_
              rintro v Fs ⟨A3, k3, rfl, q3, r3, rfl⟩
              refine ⟨hS, ⟨hS, ?_⟩⟩
              intro β w' hs'; exact (hs'.keepB (List.nil_sublist _)).fin [0, 2, 3, 4] ⟨A0, k0, k0, A1, k1, A2, k2, A3, k3, rfl, rfl, q0, r0, q1, r1, q2, r2, q3, r3, rfl⟩ rfl rfl rfl ⟨rfl, rfl, rfl, rfl, trivial⟩
            · intro b3 c3 _ _; refine ⟨hS, ?_⟩
              refine call_con [] (fun β w' hs' => rsumT_c w' _ x2 _ _ e2 (hs'.get 3 rfl) (Rd.old h3 (hs'.get 6 rfl)) z2) ?_
              rintro v Fs ⟨A2, k2, rfl, q2, r2, rfl⟩
              refine ⟨hS, ?_⟩
              refine call_con [] (fun β w' hs' => rsumT_c w' _ x3 _ _ e3 (hs'.get 1 rfl) (Rd.old h3 (hs'.get 7 rfl)) z3) ?_
              rintro v Fs ⟨A3, k3, rfl, q3, r3, rfl⟩
              refine ⟨hS, ⟨hS, ?_⟩⟩
              intro β w' hs'; exact (hs'.keepB (List.nil_sublist _)).fin [0, 1, 3, 4] ⟨A0, k0, k0, A1, k1, A2, k2, A3, k3, rfl, rfl, q0, r0, q1, r1, q2, r2, q3, r3, rfl⟩ rfl rfl rfl ⟨rfl, rfl, rfl, rfl, trivial⟩
          · intro b3 c3 _ _; refine ⟨hS, ?_⟩
            refine call_con [] (fun β w' hs' => rsumT_c w' _ x1 _ _ e1 (hs'.get 4 rfl) (Rd.old h3 (hs'.get 5 rfl)) z1) ?_
            rintro v Fs ⟨A1, k1, rfl, q1, r1, rfl⟩
            refine ⟨hS, ?_⟩
            refine call_con [] (fun β w' hs' => rsumT_c w' _ x2 _ _ e2 (hs'.get 3 rfl) (Rd.old h3 (hs'.get 6 rfl)) z2) ?_
            rintro v Fs ⟨A2, k2, rfl, q2, r2, rfl⟩
            refine ⟨hS, ?_⟩
            refine call_con [] (fun β w' hs' => rsumT_c w' _ x3 _ _ e3 (hs'.get 2 rfl) (Rd.old h3 (hs'.get 7 rfl)) z3) ?_
            rintro v Fs ⟨A3, k3, rfl, q3, r3, rfl⟩
            refine ⟨hS, ⟨hS, ?_⟩⟩
            intro β w' hs'; exact (hs'.keepB (List.nil_sublist _)).fin [0, 1, 2, 4] ⟨A0, k0, k0, A1, k1, A2, k2, A3, k3, rfl, rfl, q0, r0, q1, r1, q2, r2, q3, r3, rfl⟩ rfl rfl rfl ⟨rfl, rfl, rfl, rfl, trivial⟩
        · intro b3 c3 _ _; refine ⟨hS, ?_⟩
          refine call_con [] (fun β w' hs' => rsumT_c w' _ x0 _ _ e0 (hs'.get 2 rfl) (Rd.old h3 (hs'.get 4 rfl)) z0) ?_
          rintro v Fs ⟨A0, k0, rfl, q0, r0, rfl⟩
          refine ⟨hS, ⟨_, 16, 0, 16, _, _, rfl, rfl, rfl, Nat.le_refl _, Nat.le_trans (by decide) q0, by omega, rfl, rfl, rfl, ?_⟩⟩
          refine call_con [] (fun β w' hs' => rsumT_c w' _ x1 _ _ e1 (hs'.get 4 rfl) (Rd.old h3 (hs'.get 5 rfl)) z1) ?_
          rintro v Fs ⟨A1, k1, rfl, q1, r1, rfl⟩
          refine ⟨hS, ?_⟩
          refine call_con [] (fun β w' hs' => rsumT_c w' _ x2 _ _ e2 (hs'.get 3 rfl) (Rd.old h3 (hs'.get 6 rfl)) z2) ?_
          rintro v Fs ⟨A2, k2, rfl, q2, r2, rfl⟩
          refine ⟨hS, ?_⟩
          refine call_con [] (fun β w' hs' => rsumT_c w' _ x3 _ _ e3 (hs'.get 3 rfl) (Rd.old h3 (hs'.get 7 rfl)) z3) ?_
          rintro v Fs ⟨A3, k3, rfl, q3, r3, rfl⟩
          refine ⟨hS, ⟨hS, ?_⟩⟩
          intro β w' hs'; exact (hs'.keepB (List.nil_sublist _)).fin [0, 1, 2, 3] ⟨A0, k0, k0, A1, k1, A2, k2, A3, k3, rfl, rfl, q0, r0, q1, r1, q2, r2, q3, r3, rfl⟩ rfl rfl rfl ⟨rfl, rfl, rfl, rfl, trivial⟩
      · intro b3 c3 _ _; refine ⟨hS, ?_⟩
        refine ⟨?_, ?_⟩
        · refine call_con [] (fun β w' hs' => rsumT_c w' _ x0 _ _ e0 (hs'.get 1 rfl) (Rd.old h3 (hs'.get 3 rfl)) z0) ?_
          rintro v Fs ⟨A0, k0, rfl, q0, r0, rfl⟩
          refine ⟨hS, ⟨_, 16, 0, 16, _, _, rfl, rfl, rfl, Nat.le_refl _, Nat.le_trans (by decide) q0, by omega, rfl, rfl, rfl, ?_⟩⟩
          refine ⟨?_, ?_⟩
          · refine call_con [] (fun β w' hs' => rsumT_c w' _ x1 _ _ e1 (hs'.get 3 rfl) (Rd.old h3 (hs'.get 4 rfl)) z1) ?_
            rintro v Fs ⟨A1, k1, rfl, q1, r1, rfl⟩
            refine ⟨hS, ?_⟩
            intro b2 c2 _ _; refine ⟨hS, ?_⟩
            refine call_con [] (fun β w' hs' => rsumT_c w' _ x2 _ _ e2 (hs'.get 0 rfl) (Rd.old h3 (hs'.get 6 rfl)) z2) ?_
            rintro v Fs ⟨A2, k2, rfl, q2, r2, rfl⟩
            refine ⟨hS, ?_⟩
            refine call_con [] (fun β w' hs' => rsumT_c w' _ x3 _ _ e3 (hs'.get 4 rfl) (Rd.old h3 (hs'.get 7 rfl)) z3) ?_
            rintro v Fs ⟨A3, k3, rfl, q3, r3, rfl⟩
            refine ⟨hS, ⟨hS, ?_⟩⟩
            intro β w' hs'; exact (hs'.keepB (List.nil_sublist _)).fin [0, 1, 3, 4] ⟨A0, k0, k0, A1, k1, A2, k2, A3, k3, rfl, rfl, q0, r0, q1, r1, q2, r2, q3, r3, rfl⟩ rfl rfl rfl ⟨rfl, rfl, rfl, rfl, trivial⟩
          · intro b2 c2 _ _; refine ⟨hS, ?_⟩
            refine call_con [] (fun β w' hs' => rsumT_c w' _ x1 _ _ e1 (hs'.get 4 rfl) (Rd.old h3 (hs'.get 5 rfl)) z1) ?_
            rintro v Fs ⟨A1, k1, rfl, q1, r1, rfl⟩
            refine ⟨hS, ?_⟩
            refine call_con [] (fun β w' hs' => rsumT_c w' _ x2 _ _ e2 (hs'.get 1 rfl) (Rd.old h3 (hs'.get 6 rfl)) z2) ?_
            rintro v Fs ⟨A2, k2, rfl, q2, r2, rfl⟩
            refine ⟨hS, ?_⟩
            refine call_con [] (fun β w' hs' => rsumT_c w' _ x3 _ _ e3 (hs'.get 4 rfl) (Rd.old h3 (hs'.get 7 rfl)) z3) ?_
            rintro v Fs ⟨A3, k3, rfl, q3, r3, rfl⟩
            refine ⟨hS, ⟨hS, ?_⟩⟩
            intro β w' hs'; exact (hs'.keepB (List.nil_sublist _)).fin [0, 1, 2, 4] ⟨A0, k0, k0, A1, k1, A2, k2, A3, k3, rfl, rfl, q0, r0, q1, r1, q2, r2, q3, r3, rfl⟩ rfl rfl rfl ⟨rfl, rfl, rfl, rfl, trivial⟩
        · intro b2 c2 _ _; refine ⟨hS, ?_⟩
          refine call_con [] (fun β w' hs' => rsumT_c w' _ x0 _ _ e0 (hs'.get 2 rfl) (Rd.old h3 (hs'.get 4 rfl)) z0) ?_
          rintro v Fs ⟨A0, k0, rfl, q0, r0, rfl⟩
          refine ⟨hS, ⟨_, 16, 0, 16, _, _, rfl, rfl, rfl, Nat.le_refl _, Nat.le_trans (by decide) q0, by omega, rfl, rfl, rfl, ?_⟩⟩
          refine call_con [] (fun β w' hs' => rsumT_c w' _ x1 _ _ e1 (hs'.get 4 rfl) (Rd.old h3 (hs'.get 5 rfl)) z1) ?_
          rintro v Fs ⟨A1, k1, rfl, q1, r1, rfl⟩
          refine ⟨hS, ?_⟩
          refine call_con [] (fun β w' hs' => rsumT_c w' _ x2 _ _ e2 (hs'.get 2 rfl) (Rd.old h3 (hs'.get 6 rfl)) z2) ?_
          rintro v Fs ⟨A2, k2, rfl, q2, r2, rfl⟩
          refine ⟨hS, ?_⟩
          refine call_con [] (fun β w' hs' => rsumT_c w' _ x3 _ _ e3 (hs'.get 4 rfl) (Rd.old h3 (hs'.get 7 rfl)) z3) ?_
          rintro v Fs ⟨A3, k3, rfl, q3, r3, rfl⟩
          refine ⟨hS, ⟨hS, ?_⟩⟩
          intro β w' hs'; exact (hs'.keepB (List.nil_sublist _)).fin [0, 1, 2, 3] ⟨A0, k0, k0, A1, k1, A2, k2, A3, k3, rfl, rfl, q0, r0, q1, r1, q2, r2, q3, r3, rfl⟩ rfl rfl rfl ⟨rfl, rfl, rfl, rfl, trivial⟩
    · intro b2 c2 _ _; refine ⟨hS, ?_⟩
      refine ⟨?_, ?_⟩
      · intro b0 c0 _ _; refine ⟨hS, ?_⟩
        refine ⟨?_, ?_⟩
        · refine call_con [] (fun β w' hs' => rsumT_c w' _ x0 _ _ e0 (hs'.get 0 rfl) (Rd.old h3 (hs'.get 3 rfl)) z0) ?_
          rintro v Fs ⟨A0, k0, rfl, q0, r0, rfl⟩
          refine ⟨hS, ⟨_, 16, 0, 16, _, _, rfl, rfl, rfl, Nat.le_refl _, Nat.le_trans (by decide) q0, by omega, rfl, rfl, rfl, ?_⟩⟩
          refine ⟨?_, ?_⟩
          · refine call_con [] (fun β w' hs' => rsumT_c w' _ x1 _ _ e1 (hs'.get 3 rfl) (Rd.old h3 (hs'.get 4 rfl)) z1) ?_
            rintro v Fs ⟨A1, k1, rfl, q1, r1, rfl⟩
            refine ⟨hS, ?_⟩
            refine ⟨?_, ?_⟩
            · refine call_con [] (fun β w' hs' => rsumT_c w' _ x2 _ _ e2 (hs'.get 3 rfl) (Rd.old h3 (hs'.get 5 rfl)) z2) ?_
              rintro v Fs ⟨A2, k2, rfl, q2, r2, rfl⟩
              refine ⟨hS, ?_⟩
              intro b3 c3 _ _; refine ⟨hS, ?_⟩
              refine call_con [] (fun β w' hs' => rsumT_c w' _ x3 _ _ e3 (hs'.get 0 rfl) (Rd.old h3 (hs'.get 7 rfl)) z3) ?_
              rintro v Fs ⟨A3, k3, rfl, q3, r3, rfl⟩
              refine ⟨hS, ⟨hS, ?_⟩⟩
              intro β w' hs'; exact (hs'.keepB (List.nil_sublist _)).fin [0, 2, 3, 4] ⟨A0, k0, k0, A1, k1, A2, k2, A3, k3, rfl, rfl, q0, r0, q1, r1, q2, r2, q3, r3, rfl⟩ rfl rfl rfl ⟨rfl, rfl, rfl, rfl, trivial⟩
            · intro b3 c3 _ _; refine ⟨hS, ?_⟩
              refine call_con [] (fun β w' hs' => rsumT_c w' _ x2 _ _ e2 (hs'.get 4 rfl) (Rd.old h3 (hs'.get 6 rfl)) z2) ?_
              rintro v Fs ⟨A2, k2, rfl, q2, r2, rfl⟩
              refine ⟨hS, ?_⟩
              refine call_con [] (fun β w' hs' => rsumT_c w' _ x3 _ _ e3 (hs'.get 1 rfl) (Rd.old h3 (hs'.get 7 rfl)) z3) ?_
              rintro v Fs ⟨A3, k3, rfl, q3, r3, rfl⟩
              refine ⟨hS, ⟨hS, ?_⟩⟩
              intro β w' hs'; exact (hs'.keepB (List.nil_sublist _)).fin [0, 1, 3, 4] ⟨A0, k0, k0, A1, k1, A2, k2, A3, k3, rfl, rfl, q0, r0, q1, r1, q2, r2, q3, r3, rfl⟩ rfl rfl rfl ⟨rfl, rfl, rfl, rfl, trivial⟩
          · intro b3 c3 _ _; refine ⟨hS, ?_⟩
            refine call_con [] (fun β w' hs' => rsumT_c w' _ x1 _ _ e1 (hs'.get 4 rfl) (Rd.old h3 (hs'.get 5 rfl)) z1) ?_
            rintro v Fs ⟨A1, k1, rfl, q1, r1, rfl⟩
            refine ⟨hS, ?_⟩
            refine call_con [] (fun β w' hs' => rsumT_c w' _ x2 _ _ e2 (hs'.get 4 rfl) (Rd.old h3 (hs'.get 6 rfl)) z2) ?_
            rintro v Fs ⟨A2, k2, rfl, q2, r2, rfl⟩
            refine ⟨hS, ?_⟩
            refine call_con [] (fun β w' hs' => rsumT_c w' _ x3 _ _ e3 (hs'.get 2 rfl) (Rd.old h3 (hs'.get 7 rfl)) z3) ?_
            rintro v Fs ⟨A3, k3, rfl, q3, r3, rfl⟩
            refine ⟨hS, ⟨hS, ?_⟩⟩
            intro β w' hs'; exact (hs'.keepB (List.nil_sublist _)).fin [0, 1, 2, 4] ⟨A0, k0, k0, A1, k1, A2, k2, A3, k3, rfl, rfl, q0, r0, q1, r1, q2, r2, q3, r3, rfl⟩ rfl rfl rfl ⟨rfl, rfl, rfl, rfl, trivial⟩
        · intro b3 c3 _ _; refine ⟨hS, ?_⟩
          refine call_con [] (fun β w' hs' => rsumT_c w' _ x0 _ _ e0 (hs'.get 1 rfl) (Rd.old h3 (hs'.get 4 rfl)) z0) ?_
          rintro v Fs ⟨A0, k0, rfl, q0, r0, rfl⟩
          refine ⟨hS, ⟨_, 16, 0, 16, _, _, rfl, rfl, rfl, Nat.le_refl _, Nat.le_trans (by decide) q0, by omega, rfl, rfl, rfl, ?_⟩⟩
          refine call_con [] (fun β w' hs' => rsumT_c w' _ x1 _ _ e1 (hs'.get 4 rfl) (Rd.old h3 (hs'.get 5 rfl)) z1) ?_
          rintro v Fs ⟨A1, k1, rfl, q1, r1, rfl⟩
          refine ⟨hS, ?_⟩
          refine call_con [] (fun β w' hs' => rsumT_c w' _ x2 _ _ e2 (hs'.get 4 rfl) (Rd.old h3 (hs'.get 6 rfl)) z2) ?_
          rintro v Fs ⟨A2, k2, rfl, q2, r2, rfl⟩
          refine ⟨hS, ?_⟩
          refine call_con [] (fun β w' hs' => rsumT_c w' _ x3 _ _ e3 (hs'.get 3 rfl) (Rd.old h3 (hs'.get 7 rfl)) z3) ?_
          rintro v Fs ⟨A3, k3, rfl, q3, r3, rfl⟩
          refine ⟨hS, ⟨hS, ?_⟩⟩
          intro β w' hs'; exact (hs'.keepB (List.nil_sublist _)).fin [0, 1, 2, 3] ⟨A0, k0, k0, A1, k1, A2, k2, A3, k3, rfl, rfl, q0, r0, q1, r1, q2, r2, q3, r3, rfl⟩ rfl rfl rfl ⟨rfl, rfl, rfl, rfl, trivial⟩
      · intro b3 c3 _ _; refine ⟨hS, ?_⟩
        intro b0 c0 _ _; refine ⟨hS, ?_⟩
        refine call_con [] (fun β w' hs' => rsumT_c w' _ x0 _ _ e0 (hs'.get 0 rfl) (Rd.old h3 (hs'.get 4 rfl)) z0) ?_
        rintro v Fs ⟨A0, k0, rfl, q0, r0, rfl⟩
        refine ⟨hS, ⟨_, 16, 0, 16, _, _, rfl, rfl, rfl, Nat.le_refl _, Nat.le_trans (by decide) q0, by omega, rfl, rfl, rfl, ?_⟩⟩
        refine call_con [] (fun β w' hs' => rsumT_c w' _ x1 _ _ e1 (hs'.get 4 rfl) (Rd.old h3 (hs'.get 5 rfl)) z1) ?_
        rintro v Fs ⟨A1, k1, rfl, q1, r1, rfl⟩
        refine ⟨hS, ?_⟩
        refine call_con [] (fun β w' hs' => rsumT_c w' _ x2 _ _ e2 (hs'.get 4 rfl) (Rd.old h3 (hs'.get 6 rfl)) z2) ?_
        rintro v Fs ⟨A2, k2, rfl, q2, r2, rfl⟩
        refine ⟨hS, ?_⟩
        refine call_con [] (fun β w' hs' => rsumT_c w' _ x3 _ _ e3 (hs'.get 4 rfl) (Rd.old h3 (hs'.get 7 rfl)) z3) ?_
        rintro v Fs ⟨A3, k3, rfl, q3, r3, rfl⟩
        refine ⟨hS, ⟨hS, ?_⟩⟩
        intro β w' hs'; exact (hs'.keepB (List.nil_sublist _)).fin [0, 1, 2, 3] ⟨A0, k0, k0, A1, k1, A2, k2, A3, k3, rfl, rfl, q0, r0, q1, r1, q2, r2, q3, r3, rfl⟩ rfl rfl rfl ⟨rfl, rfl, rfl, rfl, trivial⟩
    · intro b3 c3 _ _; refine ⟨hS, ?_⟩
      refine ⟨?_, ?_⟩
      · intro b0 c0 _ _; refine ⟨hS, ?_⟩
        refine ⟨?_, ?_⟩
        · refine call_con [] (fun β w' hs' => rsumT_c w' _ x0 _ _ e0 (hs'.get 0 rfl) (Rd.old h3 (hs'.get 3 rfl)) z0) ?_
          rintro v Fs ⟨A0, k0, rfl, q0, r0, rfl⟩
          refine ⟨hS, ⟨_, 16, 0, 16, _, _, rfl, rfl, rfl, Nat.le_refl _, Nat.le_trans (by decide) q0, by omega, rfl, rfl, rfl, ?_⟩⟩
          refine ⟨?_, ?_⟩
          · refine call_con [] (fun β w' hs' => rsumT_c w' _ x1 _ _ e1 (hs'.get 3 rfl) (Rd.old h3 (hs'.get 4 rfl)) z1) ?_
            rintro v Fs ⟨A1, k1, rfl, q1, r1, rfl⟩
            refine ⟨hS, ?_⟩
            intro b2 c2 _ _; refine ⟨hS, ?_⟩
            refine call_con [] (fun β w' hs' => rsumT_c w' _ x2 _ _ e2 (hs'.get 0 rfl) (Rd.old h3 (hs'.get 6 rfl)) z2) ?_
            rintro v Fs ⟨A2, k2, rfl, q2, r2, rfl⟩
            refine ⟨hS, ?_⟩
            refine call_con [] (fun β w' hs' => rsumT_c w' _ x3 _ _ e3 (hs'.get 5 rfl) (Rd.old h3 (hs'.get 7 rfl)) z3) ?_
            rintro v Fs ⟨A3, k3, rfl, q3, r3, rfl⟩
            refine ⟨hS, ⟨hS, ?_⟩⟩
            intro β w' hs'; exact (hs'.keepB (List.nil_sublist _)).fin [0, 1, 3, 4] ⟨A0, k0, k0, A1, k1, A2, k2, A3, k3, rfl, rfl, q0, r0, q1, r1, q2, r2, q3, r3, rfl⟩ rfl rfl rfl ⟨rfl, rfl, rfl, rfl, trivial⟩
          · intro b2 c2 _ _; refine ⟨hS, ?_⟩
            refine call_con [] (fun β w' hs' => rsumT_c w' _ x1 _ _ e1 (hs'.get 4 rfl) (Rd.old h3 (hs'.get 5 rfl)) z1) ?_
            rintro v Fs ⟨A1, k1, rfl, q1, r1, rfl⟩
            refine ⟨hS, ?_⟩
            refine call_con [] (fun β w' hs' => rsumT_c w' _ x2 _ _ e2 (hs'.get 1 rfl) (Rd.old h3 (hs'.get 6 rfl)) z2) ?_
            rintro v Fs ⟨A2, k2, rfl, q2, r2, rfl⟩
            refine ⟨hS, ?_⟩
            refine call_con [] (fun β w' hs' => rsumT_c w' _ x3 _ _ e3 (hs'.get 5 rfl) (Rd.old h3 (hs'.get 7 rfl)) z3) ?_
            rintro v Fs ⟨A3, k3, rfl, q3, r3, rfl⟩
            refine ⟨hS, ⟨hS, ?_⟩⟩
            intro β w' hs'; exact (hs'.keepB (List.nil_sublist _)).fin [0, 1, 2, 4] ⟨A0, k0, k0, A1, k1, A2, k2, A3, k3, rfl, rfl, q0, r0, q1, r1, q2, r2, q3, r3, rfl⟩ rfl rfl rfl ⟨rfl, rfl, rfl, rfl, trivial⟩
        · intro b2 c2 _ _; refine ⟨hS, ?_⟩
          refine call_con [] (fun β w' hs' => rsumT_c w' _ x0 _ _ e0 (hs'.get 1 rfl) (Rd.old h3 (hs'.get 4 rfl)) z0) ?_
          rintro v Fs ⟨A0, k0, rfl, q0, r0, rfl⟩
          refine ⟨hS, ⟨_, 16, 0, 16, _, _, rfl, rfl, rfl, Nat.le_refl _, Nat.le_trans (by decide) q0, by omega, rfl, rfl, rfl, ?_⟩⟩
          refine call_con [] (fun β w' hs' => rsumT_c w' _ x1 _ _ e1 (hs'.get 4 rfl) (Rd.old h3 (hs'.get 5 rfl)) z1) ?_
          rintro v Fs ⟨A1, k1, rfl, q1, r1, rfl⟩
          refine ⟨hS, ?_⟩
          refine call_con [] (fun β w' hs' => rsumT_c w' _ x2 _ _ e2 (hs'.get 2 rfl) (Rd.old h3 (hs'.get 6 rfl)) z2) ?_
          rintro v Fs ⟨A2, k2, rfl, q2, r2, rfl⟩
          refine ⟨hS, ?_⟩
          refine call_con [] (fun β w' hs' => rsumT_c w' _ x3 _ _ e3 (hs'.get 5 rfl) (Rd.old h3 (hs'.get 7 rfl)) z3) ?_
          rintro v Fs ⟨A3, k3, rfl, q3, r3, rfl⟩
          refine ⟨hS, ⟨hS, ?_⟩⟩
          intro β w' hs'; exact (hs'.keepB (List.nil_sublist _)).fin [0, 1, 2, 3] ⟨A0, k0, k0, A1, k1, A2, k2, A3, k3, rfl, rfl, q0, r0, q1, r1, q2, r2, q3, r3, rfl⟩ rfl rfl rfl ⟨rfl, rfl, rfl, rfl, trivial⟩
      · intro b2 c2 _ _; refine ⟨hS, ?_⟩
        intro b0 c0 _ _; refine ⟨hS, ?_⟩
        refine call_con [] (fun β w' hs' => rsumT_c w' _ x0 _ _ e0 (hs'.get 0 rfl) (Rd.old h3 (hs'.get 4 rfl)) z0) ?_
        rintro v Fs ⟨A0, k0, rfl, q0, r0, rfl⟩
        refine ⟨hS, ⟨_, 16, 0, 16, _, _, rfl, rfl, rfl, Nat.le_refl _, Nat.le_trans (by decide) q0, by omega, rfl, rfl, rfl, ?_⟩⟩
        refine call_con [] (fun β w' hs' => rsumT_c w' _ x1 _ _ e1 (hs'.get 4 rfl) (Rd.old h3 (hs'.get 5 rfl)) z1) ?_
        rintro v Fs ⟨A1, k1, rfl, q1, r1, rfl⟩
        refine ⟨hS, ?_⟩
        refine call_con [] (fun β w' hs' => rsumT_c w' _ x2 _ _ e2 (hs'.get 3 rfl) (Rd.old h3 (hs'.get 6 rfl)) z2) ?_
        rintro v Fs ⟨A2, k2, rfl, q2, r2, rfl⟩
        refine ⟨hS, ?_⟩
        refine call_con [] (fun β w' hs' => rsumT_c w' _ x3 _ _ e3 (hs'.get 5 rfl) (Rd.old h3 (hs'.get 7 rfl)) z3) ?_
        rintro v Fs ⟨A3, k3, rfl, q3, r3, rfl⟩
        refine ⟨hS, ⟨hS, ?_⟩⟩
        intro β w' hs'; exact (hs'.keepB (List.nil_sublist _)).fin [0, 1, 2, 3] ⟨A0, k0, k0, A1, k1, A2, k2, A3, k3, rfl, rfl, q0, r0, q1, r1, q2, r2, q3, r3, rfl⟩ rfl rfl rfl ⟨rfl, rfl, rfl, rfl, trivial⟩
  · intro b2 c2 _ _; refine ⟨hS, ?_⟩
    refine ⟨?_, ?_, ?_⟩
    · intro b0 c0 _ _; refine ⟨hS, ?_⟩
      refine ⟨?_, ?_, ?_⟩
      · refine call_con [] (fun β w' hs' => rsumT_c w' _ x0 _ _ e0 (hs'.get 0 rfl) (Rd.old h3 (hs'.get 2 rfl)) z0) ?_
        rintro v Fs ⟨A0, k0, rfl, q0, r0, rfl⟩
        refine ⟨hS, ⟨_, 16, 0, 16, _, _, rfl, rfl, rfl, Nat.le_refl _, Nat.le_trans (by decide) q0, by omega, rfl, rfl, rfl, ?_⟩⟩
        refine ⟨?_, ?_⟩
        · intro b1 c1 _ _; refine ⟨hS, ?_⟩
          refine ⟨?_, ?_⟩
          · refine call_con [] (fun β w' hs' => rsumT_c w' _ x1 _ _ e1 (hs'.get 0 rfl) (Rd.old h3 (hs'.get 4 rfl)) z1) ?_
            rintro v Fs ⟨A1, k1, rfl, q1, r1, rfl⟩
            refine ⟨hS, ?_⟩
            refine ⟨?_, ?_⟩
            · refine call_con [] (fun β w' hs' => rsumT_c w' _ x2 _ _ e2 (hs'.get 4 rfl) (Rd.old h3 (hs'.get 5 rfl)) z2) ?_
              rintro v Fs ⟨A2, k2, rfl, q2, r2, rfl⟩
              refine ⟨hS, ?_⟩
              intro b3 c3 _ _; refine ⟨hS, ?_⟩
              refine call_con [] (fun β w' hs' => rsumT_c w' _ x3 _ _ e3 (hs'.get 0 rfl) (Rd.old h3 (hs'.get 7 rfl)) z3) ?_
              rintro v Fs ⟨A3, k3, rfl, q3, r3, rfl⟩
              refine ⟨hS, ⟨hS, ?_⟩⟩
              intro β w' hs'; exact (hs'.keepB (List.nil_sublist _)).fin [0, 2, 3, 5] ⟨A0, k0, k0, A1, k1, A2, k2, A3, k3, rfl, rfl, q0, r0, q1, r1, q2, r2, q3, r3, rfl⟩ rfl rfl rfl ⟨rfl, rfl, rfl, rfl, trivial⟩
            · intro b3 c3 _ _; refine ⟨hS, ?_⟩
              refine call_con [] (fun β w' hs' => rsumT_c w' _ x2 _ _ e2 (hs'.get 5 rfl) (Rd.old h3 (hs'.get 6 rfl)) z2) ?_
              rintro v Fs ⟨A2, k2, rfl, q2, r2, rfl⟩
              refine ⟨hS, ?_⟩
              refine call_con [] (fun β w' hs' => rsumT_c w' _ x3 _ _ e3 (hs'.get 1 rfl) (Rd.old h3 (hs'.get 7 rfl)) z3) ?_
              rintro v Fs ⟨A3, k3, rfl, q3, r3, rfl⟩
              refine ⟨hS, ⟨hS, ?_⟩⟩
              intro β w' hs'; exact (hs'.keepB (List.nil_sublist _)).fin [0, 1, 3, 5] ⟨A0, k0, k0, A1, k1, A2, k2, A3, k3, rfl, rfl, q0, r0, q1, r1, q2, r2, q3, r3, rfl⟩ rfl rfl rfl ⟨rfl, rfl, rfl, rfl, trivial⟩
          · intro b3 c3 _ _; refine ⟨hS, ?_⟩
            refine call_con [] (fun β w' hs' => rsumT_c w' _ x1 _ _ e1 (hs'.get 1 rfl) (Rd.old h3 (hs'.get 5 rfl)) z1) ?_
            rintro v Fs ⟨A1, k1, rfl, q1, r1, rfl⟩
            refine ⟨hS, ?_⟩
            refine call_con [] (fun β w' hs' => rsumT_c w' _ x2 _ _ e2 (hs'.get 5 rfl) (Rd.old h3 (hs'.get 6 rfl)) z2) ?_
            rintro v Fs ⟨A2, k2, rfl, q2, r2, rfl⟩
            refine ⟨hS, ?_⟩
            refine call_con [] (fun β w' hs' => rsumT_c w' _ x3 _ _ e3 (hs'.get 2 rfl) (Rd.old h3 (hs'.get 7 rfl)) z3) ?_
            rintro v Fs ⟨A3, k3, rfl, q3, r3, rfl⟩
            refine ⟨hS, ⟨hS, ?_⟩⟩
            intro β w' hs'; exact (hs'.keepB (List.nil_sublist _)).fin [0, 1, 2, 5] ⟨A0, k0, k0, A1, k1, A2, k2, A3, k3, rfl, rfl, q0, r0, q1, r1, q2, r2, q3, r3, rfl⟩ rfl rfl rfl ⟨rfl, rfl, rfl, rfl, trivial⟩
        · intro b3 c3 _ _; refine ⟨hS, ?_⟩
          intro b1 c1 _ _; refine ⟨hS, ?_⟩
          refine call_con [] (fun β w' hs' => rsumT_c w' _ x1 _ _ e1 (hs'.get 0 rfl) (Rd.old h3 (hs'.get 5 rfl)) z1) ?_
          rintro v Fs ⟨A1, k1, rfl, q1, r1, rfl⟩
          refine ⟨hS, ?_⟩
          refine call_con [] (fun β w' hs' => rsumT_c w' _ x2 _ _ e2 (hs'.get 5 rfl) (Rd.old h3 (hs'.get 6 rfl)) z2) ?_
          rintro v Fs ⟨A2, k2, rfl, q2, r2, rfl⟩
          refine ⟨hS, ?_⟩
          refine call_con [] (fun β w' hs' => rsumT_c w' _ x3 _ _ e3 (hs'.get 3 rfl) (Rd.old h3 (hs'.get 7 rfl)) z3) ?_
          rintro v Fs ⟨A3, k3, rfl, q3, r3, rfl⟩
          refine ⟨hS, ⟨hS, ?_⟩⟩
          intro β w' hs'; exact (hs'.keepB (List.nil_sublist _)).fin [0, 1, 2, 5] ⟨A0, k0, k0, A1, k1, A2, k2, A3, k3, rfl, rfl, q0, r0, q1, r1, q2, r2, q3, r3, rfl⟩ rfl rfl rfl ⟨rfl, rfl, rfl, rfl, trivial⟩
      · intro b1 c1 _ _; refine ⟨hS, ?_⟩
        refine ⟨?_, ?_⟩
        · refine call_con [] (fun β w' hs' => rsumT_c w' _ x0 _ _ e0 (hs'.get 1 rfl) (Rd.old h3 (hs'.get 3 rfl)) z0) ?_
          rintro v Fs ⟨A0, k0, rfl, q0, r0, rfl⟩
          refine ⟨hS, ⟨_, 16, 0, 16, _, _, rfl, rfl, rfl, Nat.le_refl _, Nat.le_trans (by decide) q0, by omega, rfl, rfl, rfl, ?_⟩⟩
          refine ⟨?_, ?_⟩
          · refine call_con [] (fun β w' hs' => rsumT_c w' _ x1 _ _ e1 (hs'.get 1 rfl) (Rd.old h3 (hs'.get 4 rfl)) z1) ?_
            rintro v Fs ⟨A1, k1, rfl, q1, r1, rfl⟩
            refine ⟨hS, ?_⟩
            refine ⟨?_, ?_⟩
            · refine call_con [] (fun β w' hs' => rsumT_c w' _ x2 _ _ e2 (hs'.get 4 rfl) (Rd.old h3 (hs'.get 5 rfl)) z2) ?_
              rintro v Fs ⟨A2, k2, rfl, q2, r2, rfl⟩
              refine ⟨hS, ?_⟩
              intro b3 c3 _ _; refine ⟨hS, ?_⟩
              refine call_con [] (fun β w' hs' => rsumT_c w' _ x3 _ _ e3 (hs'.get 0 rfl) (Rd.old h3 (hs'.get 7 rfl)) z3) ?_
              rintro v Fs ⟨A3, k3, rfl, q3, r3, rfl⟩
              refine ⟨hS, ⟨hS, ?_⟩⟩
              intro β w' hs'; exact (hs'.keepB (List.nil_sublist _)).fin [0, 2, 3, 4] ⟨A0, k0, k0, A1, k1, A2, k2, A3, k3, rfl, rfl, q0, r0, q1, r1, q2, r2, q3, r3, rfl⟩ rfl rfl rfl ⟨rfl, rfl, rfl, rfl, trivial⟩
            · intro b3 c3 _ _; refine ⟨hS, ?_⟩
              refine call_con [] (fun β w' hs' => rsumT_c w' _ x2 _ _ e2 (hs'.get 5 rfl) (Rd.old h3 (hs'.get 6 rfl)) z2) ?_
              rintro v Fs ⟨A2, k2, rfl, q2, r2, rfl⟩
              refine ⟨hS, ?_⟩
              refine call_con [] (fun β w' hs' => rsumT_c w' _ x3 _ _ e3 (hs'.get 1 rfl) (Rd.old h3 (hs'.get 7 rfl)) z3) ?_
              rintro v Fs ⟨A3, k3, rfl, q3, r3, rfl⟩
              refine ⟨hS, ⟨hS, ?_⟩⟩
              intro β w' hs'; exact (hs'.keepB (List.nil_sublist _)).fin [0, 1, 3, 4] ⟨A0, k0, k0, A1, k1, A2, k2, A3, k3, rfl, rfl, q0, r0, q1, r1, q2, r2, q3, r3, rfl⟩ rfl rfl rfl ⟨rfl, rfl, rfl, rfl, trivial⟩
          · intro b3 c3 _ _; refine ⟨hS, ?_⟩
            refine call_con [] (fun β w' hs' => rsumT_c w' _ x1 _ _ e1 (hs'.get 2 rfl) (Rd.old h3 (hs'.get 5 rfl)) z1) ?_
            rintro v Fs ⟨A1, k1, rfl, q1, r1, rfl⟩
            refine ⟨hS, ?_⟩
            refine call_con [] (fun β w' hs' => rsumT_c w' _ x2 _ _ e2 (hs'.get 5 rfl) (Rd.old h3 (hs'.get 6 rfl)) z2) ?_
            rintro v Fs ⟨A2, k2, rfl, q2, r2, rfl⟩
            refine ⟨hS, ?_⟩
            refine call_con [] (fun β w' hs' => rsumT_c w' _ x3 _ _ e3 (hs'.get 2 rfl) (Rd.old h3 (hs'.get 7 rfl)) z3) ?_
            rintro v Fs ⟨A3, k3, rfl, q3, r3, rfl⟩
            refine ⟨hS, ⟨hS, ?_⟩⟩
            intro β w' hs'; exact (hs'.keepB (List.nil_sublist _)).fin [0, 1, 2, 4] ⟨A0, k0, k0, A1, k1, A2, k2, A3, k3, rfl, rfl, q0, r0, q1, r1, q2, r2, q3, r3, rfl⟩ rfl rfl rfl ⟨rfl, rfl, rfl, rfl, trivial⟩
        · intro b3 c3 _ _; refine ⟨hS, ?_⟩
          refine call_con [] (fun β w' hs' => rsumT_c w' _ x0 _ _ e0 (hs'.get 2 rfl) (Rd.old h3 (hs'.get 4 rfl)) z0) ?_
          rintro v Fs ⟨A0, k0, rfl, q0, r0, rfl⟩
          refine ⟨hS, ⟨_, 16, 0, 16, _, _, rfl, rfl, rfl, Nat.le_refl _, Nat.le_trans (by decide) q0, by omega, rfl, rfl, rfl, ?_⟩⟩
          refine call_con [] (fun β w' hs' => rsumT_c w' _ x1 _ _ e1 (hs'.get 2 rfl) (Rd.old h3 (hs'.get 5 rfl)) z1) ?_
          rintro v Fs ⟨A1, k1, rfl, q1, r1, rfl⟩
          refine ⟨hS, ?_⟩
          refine call_con [] (fun β w' hs' => rsumT_c w' _ x2 _ _ e2 (hs'.get 5 rfl) (Rd.old h3 (hs'.get 6 rfl)) z2) ?_
          rintro v Fs ⟨A2, k2, rfl, q2, r2, rfl⟩
          refine ⟨hS, ?_⟩
          refine call_con [] (fun β w' hs' => rsumT_c w' _ x3 _ _ e3 (hs'.get 3 rfl) (Rd.old h3 (hs'.get 7 rfl)) z3) ?_
          rintro v Fs ⟨A3, k3, rfl, q3, r3, rfl⟩
          refine ⟨hS, ⟨hS, ?_⟩⟩
          intro β w' hs'; exact (hs'.keepB (List.nil_sublist _)).fin [0, 1, 2, 3] ⟨A0, k0, k0, A1, k1, A2, k2, A3, k3, rfl, rfl, q0, r0, q1, r1, q2, r2, q3, r3, rfl⟩ rfl rfl rfl ⟨rfl, rfl, rfl, rfl, trivial⟩
      · intro b3 c3 _ _; refine ⟨hS, ?_⟩
        refine ⟨?_, ?_⟩
        · refine call_con [] (fun β w' hs' => rsumT_c w' _ x0 _ _ e0 (hs'.get 1 rfl) (Rd.old h3 (hs'.get 3 rfl)) z0) ?_
          rintro v Fs ⟨A0, k0, rfl, q0, r0, rfl⟩
          refine ⟨hS, ⟨_, 16, 0, 16, _, _, rfl, rfl, rfl, Nat.le_refl _, Nat.le_trans (by decide) q0, by omega, rfl, rfl, rfl, ?_⟩⟩
          intro b1 c1 _ _; refine ⟨hS, ?_⟩
          refine call_con [] (fun β w' hs' => rsumT_c w' _ x1 _ _ e1 (hs'.get 0 rfl) (Rd.old h3 (hs'.get 5 rfl)) z1) ?_
          rintro v Fs ⟨A1, k1, rfl, q1, r1, rfl⟩
          refine ⟨hS, ?_⟩
          refine call_con [] (fun β w' hs' => rsumT_c w' _ x2 _ _ e2 (hs'.get 5 rfl) (Rd.old h3 (hs'.get 6 rfl)) z2) ?_
          rintro v Fs ⟨A2, k2, rfl, q2, r2, rfl⟩
          refine ⟨hS, ?_⟩
          refine call_con [] (fun β w' hs' => rsumT_c w' _ x3 _ _ e3 (hs'.get 4 rfl) (Rd.old h3 (hs'.get 7 rfl)) z3) ?_
          rintro v Fs ⟨A3, k3, rfl, q3, r3, rfl⟩
          refine ⟨hS, ⟨hS, ?_⟩⟩
          intro β w' hs'; exact (hs'.keepB (List.nil_sublist _)).fin [0, 1, 2, 4] ⟨A0, k0, k0, A1, k1, A2, k2, A3, k3, rfl, rfl, q0, r0, q1, r1, q2, r2, q3, r3, rfl⟩ rfl rfl rfl ⟨rfl, rfl, rfl, rfl, trivial⟩
        · intro b1 c1 _ _; refine ⟨hS, ?_⟩
          refine call_con [] (fun β w' hs' => rsumT_c w' _ x0 _ _ e0 (hs'.get 2 rfl) (Rd.old h3 (hs'.get 4 rfl)) z0) ?_
          rintro v Fs ⟨A0, k0, rfl, q0, r0, rfl⟩
          refine ⟨hS, ⟨_, 16, 0, 16, _, _, rfl, rfl, rfl, Nat.le_refl _, Nat.le_trans (by decide) q0, by omega, rfl, rfl, rfl, ?_⟩⟩
          refine call_con [] (fun β w' hs' => rsumT_c w' _ x1 _ _ e1 (hs'.get 1 rfl) (Rd.old h3 (hs'.get 5 rfl)) z1) ?_
          rintro v Fs ⟨A1, k1, rfl, q1, r1, rfl⟩
          refine ⟨hS, ?_⟩
          refine call_con [] (fun β w' hs' => rsumT_c w' _ x2 _ _ e2 (hs'.get 5 rfl) (Rd.old h3 (hs'.get 6 rfl)) z2) ?_
          rintro v Fs ⟨A2, k2, rfl, q2, r2, rfl⟩
          refine ⟨hS, ?_⟩
          refine call_con [] (fun β w' hs' => rsumT_c w' _ x3 _ _ e3 (hs'.get 4 rfl) (Rd.old h3 (hs'.get 7 rfl)) z3) ?_
          rintro v Fs ⟨A3, k3, rfl, q3, r3, rfl⟩
          refine ⟨hS, ⟨hS, ?_⟩⟩
          intro β w' hs'; exact (hs'.keepB (List.nil_sublist _)).fin [0, 1, 2, 3] ⟨A0, k0, k0, A1, k1, A2, k2, A3, k3, rfl, rfl, q0, r0, q1, r1, q2, r2, q3, r3, rfl⟩ rfl rfl rfl ⟨rfl, rfl, rfl, rfl, trivial⟩
    · intro b1 c1 _ _; refine ⟨hS, ?_⟩
      refine ⟨?_, ?_⟩
      · intro b0 c0 _ _; refine ⟨hS, ?_⟩
        refine ⟨?_, ?_⟩
        · refine call_con [] (fun β w' hs' => rsumT_c w' _ x0 _ _ e0 (hs'.get 0 rfl) (Rd.old h3 (hs'.get 3 rfl)) z0) ?_
          rintro v Fs ⟨A0, k0, rfl, q0, r0, rfl⟩
          refine ⟨hS, ⟨_, 16, 0, 16, _, _, rfl, rfl, rfl, Nat.le_refl _, Nat.le_trans (by decide) q0, by omega, rfl, rfl, rfl, ?_⟩⟩
          refine ⟨?_, ?_⟩
          · refine call_con [] (fun β w' hs' => rsumT_c w' _ x1 _ _ e1 (hs'.get 2 rfl) (Rd.old h3 (hs'.get 4 rfl)) z1) ?_
            rintro v Fs ⟨A1, k1, rfl, q1, r1, rfl⟩
            refine ⟨hS, ?_⟩
            refine ⟨?_, ?_⟩
            · refine call_con [] (fun β w' hs' => rsumT_c w' _ x2 _ _ e2 (hs'.get 4 rfl) (Rd.old h3 (hs'.get 5 rfl)) z2) ?_
              rintro v Fs ⟨A2, k2, rfl, q2, r2, rfl⟩
              refine ⟨hS, ?_⟩
              intro b3 c3 _ _; refine ⟨hS, ?_⟩
              refine call_con [] (fun β w' hs' => rsumT_c w' _ x3 _ _ e3 (hs'.get 0 rfl) (Rd.old h3 (hs'.get 7 rfl)) z3) ?_
              rintro v Fs ⟨A3, k3, rfl, q3, r3, rfl⟩
              refine ⟨hS, ⟨hS, ?_⟩⟩
              intro β w' hs'; exact (hs'.keepB (List.nil_sublist _)).fin [0, 2, 3, 4] ⟨A0, k0, k0, A1, k1, A2, k2, A3, k3, rfl, rfl, q0, r0, q1, r1, q2, r2, q3, r3, rfl⟩ rfl rfl rfl ⟨rfl, rfl, rfl, rfl, trivial⟩
            · intro b3 c3 _ _; refine ⟨hS, ?_⟩
              refine call_con [] (fun β w' hs' => rsumT_c w' _ x2 _ _ e2 (hs'.get 5 rfl) (Rd.old h3 (hs'.get 6 rfl)) z2) ?_
              rintro v Fs ⟨A2, k2, rfl, q2, r2, rfl⟩
              refine ⟨hS, ?_⟩
              refine call_con [] (fun β w' hs' => rsumT_c w' _ x3 _ _ e3 (hs'.get 1 rfl) (Rd.old h3 (hs'.get 7 rfl)) z3) ?_
              rintro v Fs ⟨A3, k3, rfl, q3, r3, rfl⟩
              refine ⟨hS, ⟨hS, ?_⟩⟩
              intro β w' hs'; exact (hs'.keepB (List.nil_sublist _)).fin [0, 1, 3, 4] ⟨A0, k0, k0, A1, k1, A2, k2, A3, k3, rfl, rfl, q0, r0, q1, r1, q2, r2, q3, r3, rfl⟩ rfl rfl rfl ⟨rfl, rfl, rfl, rfl, trivial⟩
          · intro b3 c3 _ _; refine ⟨hS, ?_⟩
            refine call_con [] (fun β w' hs' => rsumT_c w' _ x1 _ _ e1 (hs'.get 3 rfl) (Rd.old h3 (hs'.get 5 rfl)) z1) ?_
            rintro v Fs ⟨A1, k1, rfl, q1, r1, rfl⟩
            refine ⟨hS, ?_⟩
            refine call_con [] (fun β w' hs' => rsumT_c w' _ x2 _ _ e2 (hs'.get 5 rfl) (Rd.old h3 (hs'.get 6 rfl)) z2) ?_
            rintro v Fs ⟨A2, k2, rfl, q2, r2, rfl⟩
            refine ⟨hS, ?_⟩
            refine call_con [] (fun β w' hs' => rsumT_c w' _ x3 _ _ e3 (hs'.get 2 rfl) (Rd.old h3 (hs'.get 7 rfl)) z3) ?_
            rintro v Fs ⟨A3, k3, rfl, q3, r3, rfl⟩
            refine ⟨hS, ⟨hS, ?_⟩⟩
            intro β w' hs'; exact (hs'.keepB (List.nil_sublist _)).fin [0, 1, 2, 4] ⟨A0, k0, k0, A1, k1, A2, k2, A3, k3, rfl, rfl, q0, r0, q1, r1, q2, r2, q3, r3, rfl⟩ rfl rfl rfl ⟨rfl, rfl, rfl, rfl, trivial⟩
        · intro b3 c3 _ _; refine ⟨hS, ?_⟩
          refine call_con [] (fun β w' hs' => rsumT_c w' _ x0 _ _ e0 (hs'.get 1 rfl) (Rd.old h3 (hs'.get 4 rfl)) z0) ?_
          rintro v Fs ⟨A0, k0, rfl, q0, r0, rfl⟩
          refine ⟨hS, ⟨_, 16, 0, 16, _, _, rfl, rfl, rfl, Nat.le_refl _, Nat.le_trans (by decide) q0, by omega, rfl, rfl, rfl, ?_⟩⟩
          refine call_con [] (fun β w' hs' => rsumT_c w' _ x1 _ _ e1 (hs'.get 3 rfl) (Rd.old h3 (hs'.get 5 rfl)) z1) ?_
          rintro v Fs ⟨A1, k1, rfl, q1, r1, rfl⟩
          refine ⟨hS, ?_⟩
          refine call_con [] (fun β w' hs' => rsumT_c w' _ x2 _ _ e2 (hs'.get 5 rfl) (Rd.old h3 (hs'.get 6 rfl)) z2) ?_
          rintro v Fs ⟨A2, k2, rfl, q2, r2, rfl⟩
          refine ⟨hS, ?_⟩
          refine call_con [] (fun β w' hs' => rsumT_c w' _ x3 _ _ e3 (hs'.get 3 rfl) (Rd.old h3 (hs'.get 7 rfl)) z3) ?_
          rintro v Fs ⟨A3, k3, rfl, q3, r3, rfl⟩
          refine ⟨hS, ⟨hS, ?_⟩⟩
          intro β w' hs'; exact (hs'.keepB (List.nil_sublist _)).fin [0, 1, 2, 3] ⟨A0, k0, k0, A1, k1, A2, k2, A3, k3, rfl, rfl, q0, r0, q1, r1, q2, r2, q3, r3, rfl⟩ rfl rfl rfl ⟨rfl, rfl, rfl, rfl, trivial⟩
      · intro b3 c3 _ _; refine ⟨hS, ?_⟩
        intro b0 c0 _ _; refine ⟨hS, ?_⟩
        refine call_con [] (fun β w' hs' => rsumT_c w' _ x0 _ _ e0 (hs'.get 0 rfl) (Rd.old h3 (hs'.get 4 rfl)) z0) ?_
        rintro v Fs ⟨A0, k0, rfl, q0, r0, rfl⟩
        refine ⟨hS, ⟨_, 16, 0, 16, _, _, rfl, rfl, rfl, Nat.le_refl _, Nat.le_trans (by decide) q0, by omega, rfl, rfl, rfl, ?_⟩⟩
        refine call_con [] (fun β w' hs' => rsumT_c w' _ x1 _ _ e1 (hs'.get 3 rfl) (Rd.old h3 (hs'.get 5 rfl)) z1) ?_
        rintro v Fs ⟨A1, k1, rfl, q1, r1, rfl⟩
        refine ⟨hS, ?_⟩
        refine call_con [] (fun β w' hs' => rsumT_c w' _ x2 _ _ e2 (hs'.get 5 rfl) (Rd.old h3 (hs'.get 6 rfl)) z2) ?_
        rintro v Fs ⟨A2, k2, rfl, q2, r2, rfl⟩
        refine ⟨hS, ?_⟩
        refine call_con [] (fun β w' hs' => rsumT_c w' _ x3 _ _ e3 (hs'.get 4 rfl) (Rd.old h3 (hs'.get 7 rfl)) z3) ?_
        rintro v Fs ⟨A3, k3, rfl, q3, r3, rfl⟩
        refine ⟨hS, ⟨hS, ?_⟩⟩
        intro β w' hs'; exact (hs'.keepB (List.nil_sublist _)).fin [0, 1, 2, 3] ⟨A0, k0, k0, A1, k1, A2, k2, A3, k3, rfl, rfl, q0, r0, q1, r1, q2, r2, q3, r3, rfl⟩ rfl rfl rfl ⟨rfl, rfl, rfl, rfl, trivial⟩
    · intro b3 c3 _ _; refine ⟨hS, ?_⟩
      refine ⟨?_, ?_⟩
      · intro b0 c0 _ _; refine ⟨hS, ?_⟩
        refine ⟨?_, ?_⟩
        · refine call_con [] (fun β w' hs' => rsumT_c w' _ x0 _ _ e0 (hs'.get 0 rfl) (Rd.old h3 (hs'.get 3 rfl)) z0) ?_
          rintro v Fs ⟨A0, k0, rfl, q0, r0, rfl⟩
          refine ⟨hS, ⟨_, 16, 0, 16, _, _, rfl, rfl, rfl, Nat.le_refl _, Nat.le_trans (by decide) q0, by omega, rfl, rfl, rfl, ?_⟩⟩
          intro b1 c1 _ _; refine ⟨hS, ?_⟩
          refine call_con [] (fun β w' hs' => rsumT_c w' _ x1 _ _ e1 (hs'.get 0 rfl) (Rd.old h3 (hs'.get 5 rfl)) z1) ?_
          rintro v Fs ⟨A1, k1, rfl, q1, r1, rfl⟩
          refine ⟨hS, ?_⟩
          refine call_con [] (fun β w' hs' => rsumT_c w' _ x2 _ _ e2 (hs'.get 5 rfl) (Rd.old h3 (hs'.get 6 rfl)) z2) ?_
          rintro v Fs ⟨A2, k2, rfl, q2, r2, rfl⟩
          refine ⟨hS, ?_⟩
          refine call_con [] (fun β w' hs' => rsumT_c w' _ x3 _ _ e3 (hs'.get 5 rfl) (Rd.old h3 (hs'.get 7 rfl)) z3) ?_
          rintro v Fs ⟨A3, k3, rfl, q3, r3, rfl⟩
          refine ⟨hS, ⟨hS, ?_⟩⟩
          intro β w' hs'; exact (hs'.keepB (List.nil_sublist _)).fin [0, 1, 2, 4] ⟨A0, k0, k0, A1, k1, A2, k2, A3, k3, rfl, rfl, q0, r0, q1, r1, q2, r2, q3, r3, rfl⟩ rfl rfl rfl ⟨rfl, rfl, rfl, rfl, trivial⟩
        · intro b1 c1 _ _; refine ⟨hS, ?_⟩
          refine call_con [] (fun β w' hs' => rsumT_c w' _ x0 _ _ e0 (hs'.get 1 rfl) (Rd.old h3 (hs'.get 4 rfl)) z0) ?_
          rintro v Fs ⟨A0, k0, rfl, q0, r0, rfl⟩
          refine ⟨hS, ⟨_, 16, 0, 16, _, _, rfl, rfl, rfl, Nat.le_refl _, Nat.le_trans (by decide) q0, by omega, rfl, rfl, rfl, ?_⟩⟩
          refine call_con [] (fun β w' hs' => rsumT_c w' _ x1 _ _ e1 (hs'.get 1 rfl) (Rd.old h3 (hs'.get 5 rfl)) z1) ?_
          rintro v Fs ⟨A1, k1, rfl, q1, r1, rfl⟩
          refine ⟨hS, ?_⟩
          refine call_con [] (fun β w' hs' => rsumT_c w' _ x2 _ _ e2 (hs'.get 5 rfl) (Rd.old h3 (hs'.get 6 rfl)) z2) ?_
          rintro v Fs ⟨A2, k2, rfl, q2, r2, rfl⟩
          refine ⟨hS, ?_⟩
          refine call_con [] (fun β w' hs' => rsumT_c w' _ x3 _ _ e3 (hs'.get 5 rfl) (Rd.old h3 (hs'.get 7 rfl)) z3) ?_
          rintro v Fs ⟨A3, k3, rfl, q3, r3, rfl⟩
          refine ⟨hS, ⟨hS, ?_⟩⟩
          intro β w' hs'; exact (hs'.keepB (List.nil_sublist _)).fin [0, 1, 2, 3] ⟨A0, k0, k0, A1, k1, A2, k2, A3, k3, rfl, rfl, q0, r0, q1, r1, q2, r2, q3, r3, rfl⟩ rfl rfl rfl ⟨rfl, rfl, rfl, rfl, trivial⟩
      · intro b1 c1 _ _; refine ⟨hS, ?_⟩
        intro b0 c0 _ _; refine ⟨hS, ?_⟩
        refine call_con [] (fun β w' hs' => rsumT_c w' _ x0 _ _ e0 (hs'.get 0 rfl) (Rd.old h3 (hs'.get 4 rfl)) z0) ?_
        rintro v Fs ⟨A0, k0, rfl, q0, r0, rfl⟩
        refine ⟨hS, ⟨_, 16, 0, 16, _, _, rfl, rfl, rfl, Nat.le_refl _, Nat.le_trans (by decide) q0, by omega, rfl, rfl, rfl, ?_⟩⟩
        refine call_con [] (fun β w' hs' => rsumT_c w' _ x1 _ _ e1 (hs'.get 2 rfl) (Rd.old h3 (hs'.get 5 rfl)) z1) ?_
        rintro v Fs ⟨A1, k1, rfl, q1, r1, rfl⟩
        refine ⟨hS, ?_⟩
        refine call_con [] (fun β w' hs' => rsumT_c w' _ x2 _ _ e2 (hs'.get 5 rfl) (Rd.old h3 (hs'.get 6 rfl)) z2) ?_
        rintro v Fs ⟨A2, k2, rfl, q2, r2, rfl⟩
        refine ⟨hS, ?_⟩
        refine call_con [] (fun β w' hs' => rsumT_c w' _ x3 _ _ e3 (hs'.get 5 rfl) (Rd.old h3 (hs'.get 7 rfl)) z3) ?_
        rintro v Fs ⟨A3, k3, rfl, q3, r3, rfl⟩
        refine ⟨hS, ⟨hS, ?_⟩⟩
        intro β w' hs'; exact (hs'.keepB (List.nil_sublist _)).fin [0, 1, 2, 3] ⟨A0, k0, k0, A1, k1, A2, k2, A3, k3, rfl, rfl, q0, r0, q1, r1, q2, r2, q3, r3, rfl⟩ rfl rfl rfl ⟨rfl, rfl, rfl, rfl, trivial⟩
  · intro b3 c3 _ _; refine ⟨hS, ?_⟩
    refine ⟨?_, ?_, ?_⟩
    · intro b0 c0 _ _; refine ⟨hS, ?_⟩
      refine ⟨?_, ?_, ?_⟩
      · refine call_con [] (fun β w' hs' => rsumT_c w' _ x0 _ _ e0 (hs'.get 0 rfl) (Rd.old h3 (hs'.get 2 rfl)) z0) ?_
        rintro v Fs ⟨A0, k0, rfl, q0, r0, rfl⟩
        refine ⟨hS, ⟨_, 16, 0, 16, _, _, rfl, rfl, rfl, Nat.le_refl _, Nat.le_trans (by decide) q0, by omega, rfl, rfl, rfl, ?_⟩⟩
        refine ⟨?_, ?_⟩
        · intro b1 c1 _ _; refine ⟨hS, ?_⟩
          refine ⟨?_, ?_⟩
          · refine call_con [] (fun β w' hs' => rsumT_c w' _ x1 _ _ e1 (hs'.get 0 rfl) (Rd.old h3 (hs'.get 4 rfl)) z1) ?_
            rintro v Fs ⟨A1, k1, rfl, q1, r1, rfl⟩
            refine ⟨hS, ?_⟩
            intro b2 c2 _ _; refine ⟨hS, ?_⟩
            refine call_con [] (fun β w' hs' => rsumT_c w' _ x2 _ _ e2 (hs'.get 0 rfl) (Rd.old h3 (hs'.get 6 rfl)) z2) ?_
            rintro v Fs ⟨A2, k2, rfl, q2, r2, rfl⟩
            refine ⟨hS, ?_⟩
            refine call_con [] (fun β w' hs' => rsumT_c w' _ x3 _ _ e3 (hs'.get 6 rfl) (Rd.old h3 (hs'.get 7 rfl)) z3) ?_
            rintro v Fs ⟨A3, k3, rfl, q3, r3, rfl⟩
            refine ⟨hS, ⟨hS, ?_⟩⟩
            intro β w' hs'; exact (hs'.keepB (List.nil_sublist _)).fin [0, 1, 3, 5] ⟨A0, k0, k0, A1, k1, A2, k2, A3, k3, rfl, rfl, q0, r0, q1, r1, q2, r2, q3, r3, rfl⟩ rfl rfl rfl ⟨rfl, rfl, rfl, rfl, trivial⟩
          · intro b2 c2 _ _; refine ⟨hS, ?_⟩
            refine call_con [] (fun β w' hs' => rsumT_c w' _ x1 _ _ e1 (hs'.get 1 rfl) (Rd.old h3 (hs'.get 5 rfl)) z1) ?_
            rintro v Fs ⟨A1, k1, rfl, q1, r1, rfl⟩
            refine ⟨hS, ?_⟩
            refine call_con [] (fun β w' hs' => rsumT_c w' _ x2 _ _ e2 (hs'.get 1 rfl) (Rd.old h3 (hs'.get 6 rfl)) z2) ?_
            rintro v Fs ⟨A2, k2, rfl, q2, r2, rfl⟩
            refine ⟨hS, ?_⟩
            refine call_con [] (fun β w' hs' => rsumT_c w' _ x3 _ _ e3 (hs'.get 6 rfl) (Rd.old h3 (hs'.get 7 rfl)) z3) ?_
            rintro v Fs ⟨A3, k3, rfl, q3, r3, rfl⟩
            refine ⟨hS, ⟨hS, ?_⟩⟩
            intro β w' hs'; exact (hs'.keepB (List.nil_sublist _)).fin [0, 1, 2, 5] ⟨A0, k0, k0, A1, k1, A2, k2, A3, k3, rfl, rfl, q0, r0, q1, r1, q2, r2, q3, r3, rfl⟩ rfl rfl rfl ⟨rfl, rfl, rfl, rfl, trivial⟩
        · intro b2 c2 _ _; refine ⟨hS, ?_⟩
          intro b1 c1 _ _; refine ⟨hS, ?_⟩
          refine call_con [] (fun β w' hs' => rsumT_c w' _ x1 _ _ e1 (hs'.get 0 rfl) (Rd.old h3 (hs'.get 5 rfl)) z1) ?_
          rintro v Fs ⟨A1, k1, rfl, q1, r1, rfl⟩
          refine ⟨hS, ?_⟩
          refine call_con [] (fun β w' hs' => rsumT_c w' _ x2 _ _ e2 (hs'.get 2 rfl) (Rd.old h3 (hs'.get 6 rfl)) z2) ?_
          rintro v Fs ⟨A2, k2, rfl, q2, r2, rfl⟩
          refine ⟨hS, ?_⟩
          refine call_con [] (fun β w' hs' => rsumT_c w' _ x3 _ _ e3 (hs'.get 6 rfl) (Rd.old h3 (hs'.get 7 rfl)) z3) ?_
          rintro v Fs ⟨A3, k3, rfl, q3, r3, rfl⟩
          refine ⟨hS, ⟨hS, ?_⟩⟩
          intro β w' hs'; exact (hs'.keepB (List.nil_sublist _)).fin [0, 1, 2, 5] ⟨A0, k0, k0, A1, k1, A2, k2, A3, k3, rfl, rfl, q0, r0, q1, r1, q2, r2, q3, r3, rfl⟩ rfl rfl rfl ⟨rfl, rfl, rfl, rfl, trivial⟩
      · intro b1 c1 _ _; refine ⟨hS, ?_⟩
        refine ⟨?_, ?_⟩
        · refine call_con [] (fun β w' hs' => rsumT_c w' _ x0 _ _ e0 (hs'.get 1 rfl) (Rd.old h3 (hs'.get 3 rfl)) z0) ?_
          rintro v Fs ⟨A0, k0, rfl, q0, r0, rfl⟩
          refine ⟨hS, ⟨_, 16, 0, 16, _, _, rfl, rfl, rfl, Nat.le_refl _, Nat.le_trans (by decide) q0, by omega, rfl, rfl, rfl, ?_⟩⟩
          refine ⟨?_, ?_⟩
          · refine call_con [] (fun β w' hs' => rsumT_c w' _ x1 _ _ e1 (hs'.get 1 rfl) (Rd.old h3 (hs'.get 4 rfl)) z1) ?_
            rintro v Fs ⟨A1, k1, rfl, q1, r1, rfl⟩
            refine ⟨hS, ?_⟩
            intro b2 c2 _ _; refine ⟨hS, ?_⟩
            refine call_con [] (fun β w' hs' => rsumT_c w' _ x2 _ _ e2 (hs'.get 0 rfl) (Rd.old h3 (hs'.get 6 rfl)) z2) ?_
            rintro v Fs ⟨A2, k2, rfl, q2, r2, rfl⟩
            refine ⟨hS, ?_⟩
            refine call_con [] (fun β w' hs' => rsumT_c w' _ x3 _ _ e3 (hs'.get 6 rfl) (Rd.old h3 (hs'.get 7 rfl)) z3) ?_
            rintro v Fs ⟨A3, k3, rfl, q3, r3, rfl⟩
            refine ⟨hS, ⟨hS, ?_⟩⟩
            intro β w' hs'; exact (hs'.keepB (List.nil_sublist _)).fin [0, 1, 3, 4] ⟨A0, k0, k0, A1, k1, A2, k2, A3, k3, rfl, rfl, q0, r0, q1, r1, q2, r2, q3, r3, rfl⟩ rfl rfl rfl ⟨rfl, rfl, rfl, rfl, trivial⟩
          · intro b2 c2 _ _; refine ⟨hS, ?_⟩
            refine call_con [] (fun β w' hs' => rsumT_c w' _ x1 _ _ e1 (hs'.get 2 rfl) (Rd.old h3 (hs'.get 5 rfl)) z1) ?_
            rintro v Fs ⟨A1, k1, rfl, q1, r1, rfl⟩
            refine ⟨hS, ?_⟩
            refine call_con [] (fun β w' hs' => rsumT_c w' _ x2 _ _ e2 (hs'.get 1 rfl) (Rd.old h3 (hs'.get 6 rfl)) z2) ?_
            rintro v Fs ⟨A2, k2, rfl, q2, r2, rfl⟩
            refine ⟨hS, ?_⟩
            refine call_con [] (fun β w' hs' => rsumT_c w' _ x3 _ _ e3 (hs'.get 6 rfl) (Rd.old h3 (hs'.get 7 rfl)) z3) ?_
            rintro v Fs ⟨A3, k3, rfl, q3, r3, rfl⟩
            refine ⟨hS, ⟨hS, ?_⟩⟩
            intro β w' hs'; exact (hs'.keepB (List.nil_sublist _)).fin [0, 1, 2, 4] ⟨A0, k0, k0, A1, k1, A2, k2, A3, k3, rfl, rfl, q0, r0, q1, r1, q2, r2, q3, r3, rfl⟩ rfl rfl rfl ⟨rfl, rfl, rfl, rfl, trivial⟩
        · intro b2 c2 _ _; refine ⟨hS, ?_⟩
          refine call_con [] (fun β w' hs' => rsumT_c w' _ x0 _ _ e0 (hs'.get 2 rfl) (Rd.old h3 (hs'.get 4 rfl)) z0) ?_
          rintro v Fs ⟨A0, k0, rfl, q0, r0, rfl⟩
          refine ⟨hS, ⟨_, 16, 0, 16, _, _, rfl, rfl, rfl, Nat.le_refl _, Nat.le_trans (by decide) q0, by omega, rfl, rfl, rfl, ?_⟩⟩
          refine call_con [] (fun β w' hs' => rsumT_c w' _ x1 _ _ e1 (hs'.get 2 rfl) (Rd.old h3 (hs'.get 5 rfl)) z1) ?_
          rintro v Fs ⟨A1, k1, rfl, q1, r1, rfl⟩
          refine ⟨hS, ?_⟩
          refine call_con [] (fun β w' hs' => rsumT_c w' _ x2 _ _ e2 (hs'.get 2 rfl) (Rd.old h3 (hs'.get 6 rfl)) z2) ?_
          rintro v Fs ⟨A2, k2, rfl, q2, r2, rfl⟩
          refine ⟨hS, ?_⟩
          refine call_con [] (fun β w' hs' => rsumT_c w' _ x3 _ _ e3 (hs'.get 6 rfl) (Rd.old h3 (hs'.get 7 rfl)) z3) ?_
          rintro v Fs ⟨A3, k3, rfl, q3, r3, rfl⟩
          refine ⟨hS, ⟨hS, ?_⟩⟩
          intro β w' hs'; exact (hs'.keepB (List.nil_sublist _)).fin [0, 1, 2, 3] ⟨A0, k0, k0, A1, k1, A2, k2, A3, k3, rfl, rfl, q0, r0, q1, r1, q2, r2, q3, r3, rfl⟩ rfl rfl rfl ⟨rfl, rfl, rfl, rfl, trivial⟩
      · intro b2 c2 _ _; refine ⟨hS, ?_⟩
        refine ⟨?_, ?_⟩
        · refine call_con [] (fun β w' hs' => rsumT_c w' _ x0 _ _ e0 (hs'.get 1 rfl) (Rd.old h3 (hs'.get 3 rfl)) z0) ?_
          rintro v Fs ⟨A0, k0, rfl, q0, r0, rfl⟩
          refine ⟨hS, ⟨_, 16, 0, 16, _, _, rfl, rfl, rfl, Nat.le_refl _, Nat.le_trans (by decide) q0, by omega, rfl, rfl, rfl, ?_⟩⟩
          intro b1 c1 _ _; refine ⟨hS, ?_⟩
          refine call_con [] (fun β w' hs' => rsumT_c w' _ x1 _ _ e1 (hs'.get 0 rfl) (Rd.old h3 (hs'.get 5 rfl)) z1) ?_
          rintro v Fs ⟨A1, k1, rfl, q1, r1, rfl⟩
          refine ⟨hS, ?_⟩
          refine call_con [] (fun β w' hs' => rsumT_c w' _ x2 _ _ e2 (hs'.get 3 rfl) (Rd.old h3 (hs'.get 6 rfl)) z2) ?_
          rintro v Fs ⟨A2, k2, rfl, q2, r2, rfl⟩
          refine ⟨hS, ?_⟩
          refine call_con [] (fun β w' hs' => rsumT_c w' _ x3 _ _ e3 (hs'.get 6 rfl) (Rd.old h3 (hs'.get 7 rfl)) z3) ?_
          rintro v Fs ⟨A3, k3, rfl, q3, r3, rfl⟩
          refine ⟨hS, ⟨hS, ?_⟩⟩
          intro β w' hs'; exact (hs'.keepB (List.nil_sublist _)).fin [0, 1, 2, 4] ⟨A0, k0, k0, A1, k1, A2, k2, A3, k3, rfl, rfl, q0, r0, q1, r1, q2, r2, q3, r3, rfl⟩ rfl rfl rfl ⟨rfl, rfl, rfl, rfl, trivial⟩
        · intro b1 c1 _ _; refine ⟨hS, ?_⟩
          refine call_con [] (fun β w' hs' => rsumT_c w' _ x0 _ _ e0 (hs'.get 2 rfl) (Rd.old h3 (hs'.get 4 rfl)) z0) ?_
          rintro v Fs ⟨A0, k0, rfl, q0, r0, rfl⟩
          refine ⟨hS, ⟨_, 16, 0, 16, _, _, rfl, rfl, rfl, Nat.le_refl _, Nat.le_trans (by decide) q0, by omega, rfl, rfl, rfl, ?_⟩⟩
          refine call_con [] (fun β w' hs' => rsumT_c w' _ x1 _ _ e1 (hs'.get 1 rfl) (Rd.old h3 (hs'.get 5 rfl)) z1) ?_
          rintro v Fs ⟨A1, k1, rfl, q1, r1, rfl⟩
          refine ⟨hS, ?_⟩
          refine call_con [] (fun β w' hs' => rsumT_c w' _ x2 _ _ e2 (hs'.get 3 rfl) (Rd.old h3 (hs'.get 6 rfl)) z2) ?_
          rintro v Fs ⟨A2, k2, rfl, q2, r2, rfl⟩
          refine ⟨hS, ?_⟩
          refine call_con [] (fun β w' hs' => rsumT_c w' _ x3 _ _ e3 (hs'.get 6 rfl) (Rd.old h3 (hs'.get 7 rfl)) z3) ?_
          rintro v Fs ⟨A3, k3, rfl, q3, r3, rfl⟩
          refine ⟨hS, ⟨hS, ?_⟩⟩
          intro β w' hs'; exact (hs'.keepB (List.nil_sublist _)).fin [0, 1, 2, 3] ⟨A0, k0, k0, A1, k1, A2, k2, A3, k3, rfl, rfl, q0, r0, q1, r1, q2, r2, q3, r3, rfl⟩ rfl rfl rfl ⟨rfl, rfl, rfl, rfl, trivial⟩
    · intro b1 c1 _ _; refine ⟨hS, ?_⟩
      refine ⟨?_, ?_⟩
      · intro b0 c0 _ _; refine ⟨hS, ?_⟩
        refine ⟨?_, ?_⟩
        · refine call_con [] (fun β w' hs' => rsumT_c w' _ x0 _ _ e0 (hs'.get 0 rfl) (Rd.old h3 (hs'.get 3 rfl)) z0) ?_
          rintro v Fs ⟨A0, k0, rfl, q0, r0, rfl⟩
          refine ⟨hS, ⟨_, 16, 0, 16, _, _, rfl, rfl, rfl, Nat.le_refl _, Nat.le_trans (by decide) q0, by omega, rfl, rfl, rfl, ?_⟩⟩
          refine ⟨?_, ?_⟩
          · refine call_con [] (fun β w' hs' => rsumT_c w' _ x1 _ _ e1 (hs'.get 2 rfl) (Rd.old h3 (hs'.get 4 rfl)) z1) ?_
            rintro v Fs ⟨A1, k1, rfl, q1, r1, rfl⟩
            refine ⟨hS, ?_⟩
            intro b2 c2 _ _; refine ⟨hS, ?_⟩
            refine call_con [] (fun β w' hs' => rsumT_c w' _ x2 _ _ e2 (hs'.get 0 rfl) (Rd.old h3 (hs'.get 6 rfl)) z2) ?_
            rintro v Fs ⟨A2, k2, rfl, q2, r2, rfl⟩
            refine ⟨hS, ?_⟩
            refine call_con [] (fun β w' hs' => rsumT_c w' _ x3 _ _ e3 (hs'.get 6 rfl) (Rd.old h3 (hs'.get 7 rfl)) z3) ?_
            rintro v Fs ⟨A3, k3, rfl, q3, r3, rfl⟩
            refine ⟨hS, ⟨hS, ?_⟩⟩
            intro β w' hs'; exact (hs'.keepB (List.nil_sublist _)).fin [0, 1, 3, 4] ⟨A0, k0, k0, A1, k1, A2, k2, A3, k3, rfl, rfl, q0, r0, q1, r1, q2, r2, q3, r3, rfl⟩ rfl rfl rfl ⟨rfl, rfl, rfl, rfl, trivial⟩
          · intro b2 c2 _ _; refine ⟨hS, ?_⟩
            refine call_con [] (fun β w' hs' => rsumT_c w' _ x1 _ _ e1 (hs'.get 3 rfl) (Rd.old h3 (hs'.get 5 rfl)) z1) ?_
            rintro v Fs ⟨A1, k1, rfl, q1, r1, rfl⟩
            refine ⟨hS, ?_⟩
            refine call_con [] (fun β w' hs' => rsumT_c w' _ x2 _ _ e2 (hs'.get 1 rfl) (Rd.old h3 (hs'.get 6 rfl)) z2) ?_
            rintro v Fs ⟨A2, k2, rfl, q2, r2, rfl⟩
            refine ⟨hS, ?_⟩
            refine call_con [] (fun β w' hs' => rsumT_c w' _ x3 _ _ e3 (hs'.get 6 rfl) (Rd.old h3 (hs'.get 7 rfl)) z3) ?_
            rintro v Fs ⟨A3, k3, rfl, q3, r3, rfl⟩
            refine ⟨hS, ⟨hS, ?_⟩⟩
            intro β w' hs'; exact (hs'.keepB (List.nil_sublist _)).fin [0, 1, 2, 4] ⟨A0, k0, k0, A1, k1, A2, k2, A3, k3, rfl, rfl, q0, r0, q1, r1, q2, r2, q3, r3, rfl⟩ rfl rfl rfl ⟨rfl, rfl, rfl, rfl, trivial⟩
        · intro b2 c2 _ _; refine ⟨hS, ?_⟩
          refine call_con [] (fun β w' hs' => rsumT_c w' _ x0 _ _ e0 (hs'.get 1 rfl) (Rd.old h3 (hs'.get 4 rfl)) z0) ?_
          rintro v Fs ⟨A0, k0, rfl, q0, r0, rfl⟩
          refine ⟨hS, ⟨_, 16, 0, 16, _, _, rfl, rfl, rfl, Nat.le_refl _, Nat.le_trans (by decide) q0, by omega, rfl, rfl, rfl, ?_⟩⟩
          refine call_con [] (fun β w' hs' => rsumT_c w' _ x1 _ _ e1 (hs'.get 3 rfl) (Rd.old h3 (hs'.get 5 rfl)) z1) ?_
          rintro v Fs ⟨A1, k1, rfl, q1, r1, rfl⟩
          refine ⟨hS, ?_⟩
          refine call_con [] (fun β w' hs' => rsumT_c w' _ x2 _ _ e2 (hs'.get 2 rfl) (Rd.old h3 (hs'.get 6 rfl)) z2) ?_
          rintro v Fs ⟨A2, k2, rfl, q2, r2, rfl⟩
          refine ⟨hS, ?_⟩
          refine call_con [] (fun β w' hs' => rsumT_c w' _ x3 _ _ e3 (hs'.get 6 rfl) (Rd.old h3 (hs'.get 7 rfl)) z3) ?_
          rintro v Fs ⟨A3, k3, rfl, q3, r3, rfl⟩
          refine ⟨hS, ⟨hS, ?_⟩⟩
          intro β w' hs'; exact (hs'.keepB (List.nil_sublist _)).fin [0, 1, 2, 3] ⟨A0, k0, k0, A1, k1, A2, k2, A3, k3, rfl, rfl, q0, r0, q1, r1, q2, r2, q3, r3, rfl⟩ rfl rfl rfl ⟨rfl, rfl, rfl, rfl, trivial⟩
      · intro b2 c2 _ _; refine ⟨hS, ?_⟩
        intro b0 c0 _ _; refine ⟨hS, ?_⟩
        refine call_con [] (fun β w' hs' => rsumT_c w' _ x0 _ _ e0 (hs'.get 0 rfl) (Rd.old h3 (hs'.get 4 rfl)) z0) ?_
        rintro v Fs ⟨A0, k0, rfl, q0, r0, rfl⟩
        refine ⟨hS, ⟨_, 16, 0, 16, _, _, rfl, rfl, rfl, Nat.le_refl _, Nat.le_trans (by decide) q0, by omega, rfl, rfl, rfl, ?_⟩⟩
        refine call_con [] (fun β w' hs' => rsumT_c w' _ x1 _ _ e1 (hs'.get 3 rfl) (Rd.old h3 (hs'.get 5 rfl)) z1) ?_
        rintro v Fs ⟨A1, k1, rfl, q1, r1, rfl⟩
        refine ⟨hS, ?_⟩
        refine call_con [] (fun β w' hs' => rsumT_c w' _ x2 _ _ e2 (hs'.get 3 rfl) (Rd.old h3 (hs'.get 6 rfl)) z2) ?_
        rintro v Fs ⟨A2, k2, rfl, q2, r2, rfl⟩
        refine ⟨hS, ?_⟩
        refine call_con [] (fun β w' hs' => rsumT_c w' _ x3 _ _ e3 (hs'.get 6 rfl) (Rd.old h3 (hs'.get 7 rfl)) z3) ?_
        rintro v Fs ⟨A3, k3, rfl, q3, r3, rfl⟩
        refine ⟨hS, ⟨hS, ?_⟩⟩
        intro β w' hs'; exact (hs'.keepB (List.nil_sublist _)).fin [0, 1, 2, 3] ⟨A0, k0, k0, A1, k1, A2, k2, A3, k3, rfl, rfl, q0, r0, q1, r1, q2, r2, q3, r3, rfl⟩ rfl rfl rfl ⟨rfl, rfl, rfl, rfl, trivial⟩
    · intro b2 c2 _ _; refine ⟨hS, ?_⟩
      refine ⟨?_, ?_⟩
      · intro b0 c0 _ _; refine ⟨hS, ?_⟩
        refine ⟨?_, ?_⟩
        · refine call_con [] (fun β w' hs' => rsumT_c w' _ x0 _ _ e0 (hs'.get 0 rfl) (Rd.old h3 (hs'.get 3 rfl)) z0) ?_
          rintro v Fs ⟨A0, k0, rfl, q0, r0, rfl⟩
          refine ⟨hS, ⟨_, 16, 0, 16, _, _, rfl, rfl, rfl, Nat.le_refl _, Nat.le_trans (by decide) q0, by omega, rfl, rfl, rfl, ?_⟩⟩
          intro b1 c1 _ _; refine ⟨hS, ?_⟩
          refine call_con [] (fun β w' hs' => rsumT_c w' _ x1 _ _ e1 (hs'.get 0 rfl) (Rd.old h3 (hs'.get 5 rfl)) z1) ?_
          rintro v Fs ⟨A1, k1, rfl, q1, r1, rfl⟩
          refine ⟨hS, ?_⟩
          refine call_con [] (fun β w' hs' => rsumT_c w' _ x2 _ _ e2 (hs'.get 4 rfl) (Rd.old h3 (hs'.get 6 rfl)) z2) ?_
          rintro v Fs ⟨A2, k2, rfl, q2, r2, rfl⟩
          refine ⟨hS, ?_⟩
          refine call_con [] (fun β w' hs' => rsumT_c w' _ x3 _ _ e3 (hs'.get 6 rfl) (Rd.old h3 (hs'.get 7 rfl)) z3) ?_
          rintro v Fs ⟨A3, k3, rfl, q3, r3, rfl⟩
          refine ⟨hS, ⟨hS, ?_⟩⟩
          intro β w' hs'; exact (hs'.keepB (List.nil_sublist _)).fin [0, 1, 2, 4] ⟨A0, k0, k0, A1, k1, A2, k2, A3, k3, rfl, rfl, q0, r0, q1, r1, q2, r2, q3, r3, rfl⟩ rfl rfl rfl ⟨rfl, rfl, rfl, rfl, trivial⟩
        · intro b1 c1 _ _; refine ⟨hS, ?_⟩
          refine call_con [] (fun β w' hs' => rsumT_c w' _ x0 _ _ e0 (hs'.get 1 rfl) (Rd.old h3 (hs'.get 4 rfl)) z0) ?_
          rintro v Fs ⟨A0, k0, rfl, q0, r0, rfl⟩
          refine ⟨hS, ⟨_, 16, 0, 16, _, _, rfl, rfl, rfl, Nat.le_refl _, Nat.le_trans (by decide) q0, by omega, rfl, rfl, rfl, ?_⟩⟩
          refine call_con [] (fun β w' hs' => rsumT_c w' _ x1 _ _ e1 (hs'.get 1 rfl) (Rd.old h3 (hs'.get 5 rfl)) z1) ?_
          rintro v Fs ⟨A1, k1, rfl, q1, r1, rfl⟩
          refine ⟨hS, ?_⟩
          refine call_con [] (fun β w' hs' => rsumT_c w' _ x2 _ _ e2 (hs'.get 4 rfl) (Rd.old h3 (hs'.get 6 rfl)) z2) ?_
          rintro v Fs ⟨A2, k2, rfl, q2, r2, rfl⟩
          refine ⟨hS, ?_⟩
          refine call_con [] (fun β w' hs' => rsumT_c w' _ x3 _ _ e3 (hs'.get 6 rfl) (Rd.old h3 (hs'.get 7 rfl)) z3) ?_
          rintro v Fs ⟨A3, k3, rfl, q3, r3, rfl⟩
          refine ⟨hS, ⟨hS, ?_⟩⟩
          intro β w' hs'; exact (hs'.keepB (List.nil_sublist _)).fin [0, 1, 2, 3] ⟨A0, k0, k0, A1, k1, A2, k2, A3, k3, rfl, rfl, q0, r0, q1, r1, q2, r2, q3, r3, rfl⟩ rfl rfl rfl ⟨rfl, rfl, rfl, rfl, trivial⟩
      · intro b1 c1 _ _; refine ⟨hS, ?_⟩
        intro b0 c0 _ _; refine ⟨hS, ?_⟩
        refine call_con [] (fun β w' hs' => rsumT_c w' _ x0 _ _ e0 (hs'.get 0 rfl) (Rd.old h3 (hs'.get 4 rfl)) z0) ?_
        rintro v Fs ⟨A0, k0, rfl, q0, r0, rfl⟩
        refine ⟨hS, ⟨_, 16, 0, 16, _, _, rfl, rfl, rfl, Nat.le_refl _, Nat.le_trans (by decide) q0, by omega, rfl, rfl, rfl, ?_⟩⟩
        refine call_con [] (fun β w' hs' => rsumT_c w' _ x1 _ _ e1 (hs'.get 2 rfl) (Rd.old h3 (hs'.get 5 rfl)) z1) ?_
        rintro v Fs ⟨A1, k1, rfl, q1, r1, rfl⟩
        refine ⟨hS, ?_⟩
        refine call_con [] (fun β w' hs' => rsumT_c w' _ x2 _ _ e2 (hs'.get 4 rfl) (Rd.old h3 (hs'.get 6 rfl)) z2) ?_
        rintro v Fs ⟨A2, k2, rfl, q2, r2, rfl⟩
        refine ⟨hS, ?_⟩
        refine call_con [] (fun β w' hs' => rsumT_c w' _ x3 _ _ e3 (hs'.get 6 rfl) (Rd.old h3 (hs'.get 7 rfl)) z3) ?_
        rintro v Fs ⟨A3, k3, rfl, q3, r3, rfl⟩
        refine ⟨hS, ⟨hS, ?_⟩⟩
        intro β w' hs'; exact (hs'.keepB (List.nil_sublist _)).fin [0, 1, 2, 3] ⟨A0, k0, k0, A1, k1, A2, k2, A3, k3, rfl, rfl, q0, r0, q1, r1, q2, r2, q3, r3, rfl⟩ rfl rfl rfl ⟨rfl, rfl, rfl, rfl, trivial⟩

theorem rdummy_c (w : World) (t u : ByteArray) (i : Int) (hs : t.size + u.size ≤ 900) (h3 : (oddF 3).p w) :
    Con Tryd.prog n_ostiaryref19_Dummy #[.string t, .string u, .int .i64 i] w [] (rdumJ t u (itOf i)) := by
  have g := good_ostiaryref19_Dummy w (Un [])
  have hsp : sp.size = 1 := rfl
  have hes : (endT t u).size = t.size + u.size + 2 := by simp only [endT, sz_app, hsp]; omega
  have he : (⟨#[32]⟩ : ByteArray) ++ t ++ (⟨#[32]⟩ : ByteArray) ++ u = endT t u := rfl
  have m0 : sp.size + t.size ≤ maxLen := by rw [maxLen_eq]; omega
  have m1 : (sp ++ t).size + sp.size ≤ maxLen := by rw [maxLen_eq, sz_app]; omega
  have m2 : (sp ++ t ++ sp).size + u.size ≤ maxLen := by rw [maxLen_eq, sz_app, sz_app]; omega
  have key := fun j => rdum_tree w t u (endT t u) j (by omega) (end_bl w_salt t u) (end_bl w_stored t u) (end_bl w_server t u) (end_bl w_ha1 t u) h3
  refine con_of_sx (cx := cx_ostiaryref19_Dummy w (Un [])) g b_ostiaryref19_Dummy rfl rfl (β := Va.z) [.c (.v (.string t)), .c (.v (.string u)), .c (.v (.int .i64 i))] 0 [] [oldF w] rfl rfl (old_sat rfl) ?_
  refine BIf.dec (fun hlt => ?_) (fun hge => ?_)
  · have hit : itOf i = 1 := if_pos (.inl hlt)
    rw [hit]
    refine ⟨m0, m1, m2, ?_⟩
    rw [he]
    exact tri_join (ι := Unit) (fun _ => True) 1 _ _ _ (fun _ _ => key 1) (EntX.of () trivial (Ent.same ⟨rfl, rfl, rfl, trivial⟩ rfl))
  refine BIf.dec (fun hgt => ?_) (fun hle => ?_)
  · have hit : itOf i = 1 := if_pos (.inr hgt)
    rw [hit]
    refine ⟨m0, m1, m2, ?_⟩
    rw [he]
    exact tri_join (ι := Unit) (fun _ => True) 1 _ _ _ (fun _ _ => key 1) (EntX.of () trivial (Ent.same ⟨rfl, rfl, rfl, trivial⟩ rfl))
  · have hit : itOf i = i := if_neg (by omega)
    rw [hit]
    refine ⟨m0, m1, m2, ?_⟩
    rw [he]
    exact tri_join (ι := Unit) (fun _ => True) 1 _ _ _ (fun _ _ => key i) (EntX.of () trivial (Ent.same ⟨rfl, rfl, rfl, trivial⟩ rfl))
end Go.Proofs.YthkjfepbmnabkaaDoor.Sx
