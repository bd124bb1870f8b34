/- Nobody's secret: one of its sums. -/
import Derived.Test.YthkjfepbmnabkaaDoorSha9
namespace Go.Proofs.YthkjfepbmnabkaaDoor.Sx
open Go Sha
attribute [local irreducible] Calls

def bl_ (s : ByteArray) : List UInt8 := s.data.toList
theorem bl_app (s t : ByteArray) : bl_ (s ++ t) = bl_ s ++ bl_ t := by simp [bl_]
theorem bl_len (s : ByteArray) : (bl_ s).length = s.size := by simp [bl_]
def sp : ByteArray := ⟨#[32]⟩
def dtext (what t u : ByteArray) : ByteArray := what ++ sp ++ t ++ sp ++ u
theorem sz_app (s t : ByteArray) : (s ++ t).size = s.size + t.size := ByteArray.size_append
theorem dtext_size (what t u : ByteArray) : (dtext what t u).size = what.size + t.size + u.size + 2 := by
  have h : sp.size = 1 := rfl
  simp only [dtext, sz_app, h]; omega
/-- A block of one cell, read behind. -/
theorem old_cell {W w : World} {b ty : Nat} {v : Value} (h : W.heap[b]? = some (.cells #[v] ty (0, 0))) (ho : (oldF W).p w) : w.cell? ⟨b, 0, none⟩ = some v := by
  have hb : b < W.heap.size := (Array.getElem?_eq_some_iff.1 h).1
  have h2 := ho b hb
  rw [h] at h2
  rw [cell_of_row w b 0 _ _ _ h2]
  rfl

theorem of_c (w : World) (what t u : ByteArray) (b5 b6 : Nat) (h5 : w.heap[b5]? = some (.cells #[.string t] 9 (0, 0))) (h6 : w.heap[b6]? = some (.cells #[.string u] 9 (0, 0))) (hs : what.size + t.size + u.size ≤ 1000) (h1 : (oddF 1).p w) (h0 : (firstF 0).p w) :
    Con Tryd.prog n_proof_Dummy_1 #[.string what, .pointer (some ⟨b5, 0, none⟩), .pointer (some ⟨b6, 0, none⟩)] w [] fun v Fs => ∃ A c, v = .slice A 32 c ∧ 32 ≤ c ∧ c ≤ maxLen ∧ Fs = [browF ty_uint8 A (Sha.sum (bl_ (dtext what t u))) c] := by
  have g := good_proof_Dummy_1 w (Un [])
  have hsp : sp.size = 1 := rfl
  refine con_of_sx (cx := cx_proof_Dummy_1 w (Un [])) g b_proof_Dummy_1 rfl rfl (β := Va.z) [.c (.v (.string what)), .c (.v (.pointer (some ⟨b5, 0, none⟩))), .c (.v (.pointer (some ⟨b6, 0, none⟩)))] 0 [] [oldF w] rfl rfl (old_sat rfl) ?_
  refine ⟨by show what.size + sp.size ≤ maxLen; rw [maxLen_eq]; omega, .string t, fun β w' hs' => old_cell h5 (hs'.get 0 rfl), ?_⟩
  refine ⟨by show (what ++ sp).size + t.size ≤ maxLen; rw [maxLen_eq, sz_app]; omega, by show (what ++ sp ++ t).size + sp.size ≤ maxLen; rw [maxLen_eq, sz_app, sz_app]; omega, .string u, fun β w' hs' => old_cell h6 (hs'.get 0 rfl), ?_⟩
  refine ⟨by show (what ++ sp ++ t ++ sp).size + u.size ≤ maxLen; rw [maxLen_eq, sz_app, sz_app, sz_app]; omega, ?_⟩
  have hsz0 := dtext_size what t u
  have hds : what ++ (⟨#[32]⟩ : ByteArray) ++ t ++ (⟨#[32]⟩ : ByteArray) ++ u = dtext what t u := rfl
  rw [hds]
  generalize dtext what t u = s at hsz0 ⊢
  clear hds
  intro b c hc1 hc2 b2
  have hsm : s.size ≤ maxLen := by rw [maxLen_eq]; omega
  refine call_con [] (fun β w' hs' => sum1_c w' (some ⟨b2, 0, none⟩) (some ⟨b, 0, none⟩) 1 c (bl_ s) (row_rd (hs'.get 0 rfl)) (hs'.get 1 rfl) (by rw [bl_len]; omega) (Rd.old h1 (hs'.get 2 rfl)) (Rd.old h0 (hs'.get 2 rfl))) ?_
  rintro v Fs ⟨A3, c3, rfl, h3, h4, rfl⟩
  intro β w' hs'
  exact hs'.fin [0] ⟨A3, c3, rfl, h3, h4, rfl⟩
end Go.Proofs.YthkjfepbmnabkaaDoor.Sx
