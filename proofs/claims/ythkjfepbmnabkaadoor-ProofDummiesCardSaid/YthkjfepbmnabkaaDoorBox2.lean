/- A plain box's hash of one part. -/
import Derived.Test.YthkjfepbmnabkaaDoorBox1
namespace Go.Proofs.YthkjfepbmnabkaaDoor.Sx
open Go Sha
attribute [local irreducible] Calls

theorem hash1_c (w : World) (b : Nat) (full : Bool) (L m : Value) (P A : Option Addr) (cP c : Nat) (l : List UInt8) (hb : (boxF b false full L m).p w) (hP : Rd 1 P 1 [.slice A l.length c] w) (hr : Bs w A l) (hn : l.length ≤ 70368744177664) (h1 : (oddF 1).p w) (h0 : (firstF 0).p w) :
    Con Tryd.prog n_box_Box_Hash #[.pointer (some ⟨b, 0, none⟩), .slice P 1 cP] w [] fun v Fs => ∃ A' c', v = .slice A' 32 c' ∧ 32 ≤ c' ∧ c' ≤ maxLen ∧ Fs = [browF ty_uint8 A' (Sha.sum l) c'] := by
  refine con_of_sx (cx := cx_box_Box_Hash w (Un [])) (good_box_Box_Hash w (Un [])) b_box_Box_Hash rfl rfl (β := Va.z) [.c (.v (.pointer (some ⟨b, 0, none⟩))), .c (.v (.slice P 1 cP))] 0 [] [oldF w] rfl rfl (old_sat rfl) ?_
  refine ⟨.bool false, fun β w' hs => ?_, ?_⟩
  · have hb' : w.heap[b]? = some (.cells #[.bool false, .bool full, L, m] 77 (0, 0)) := hb
    have hlt : b < w.heap.size := (Array.getElem?_eq_some_iff.1 hb').1
    have h2 := (hs.get 0 rfl : (oldF w).p w') b hlt
    rw [hb'] at h2
    show w'.cell? ⟨b, 0, none⟩ = _
    rw [cell_of_row w' b 0 _ _ _ h2]
    rfl
  refine call_con [] (fun β w' hs => sum1_c w' P A cP c l (hP.old (hs.get 0 rfl)) (hr.old (hs.get 0 rfl)) hn (Rd.old h1 (hs.get 0 rfl)) (Rd.old h0 (hs.get 0 rfl))) ?_
  rintro v Fs ⟨A3, c3, rfl, q1, q2, rfl⟩
  intro β w' hs
  exact hs.fin [0] ⟨A3, c3, rfl, q1, q2, rfl⟩
end Go.Proofs.YthkjfepbmnabkaaDoor.Sx
