/- Boxes: a new one; how many terms it has. -/
import Derived.Test.YthkjfepbmnabkaaDoorPd5
namespace Go.Proofs.YthkjfepbmnabkaaDoor.Sx
open Go Sha
attribute [local irreducible] Calls

/-- A box's own block: is it symbolic, is it full; its terms' slice, its map. -/
def boxF (b : Nat) (sym full : Bool) (L m : Value) : Fact := bkF b 77 [.bool sym, .bool full, L, m]
theorem new_c (w : World) (sym : Bool) : Con Tryd.prog n_box_New #[.bool sym] w [] fun v Fs => ∃ b m, v = .pointer (some ⟨b, 0, none⟩) ∧ Fs = [boxF b sym false (.slice none 0 0) (.map (some m)), mapF m []] := by
  refine con_of_sx (cx := cx_box_New w (Un [])) (good_box_New w (Un [])) b_box_New rfl rfl (β := Va.z) [.c (.v (.bool sym))] 0 [] [] rfl rfl (Sat.start rfl) ?_
  intro m
  intro β w' hs
  exact hs.ofBk.fin [0, 1] ⟨β 0, m, rfl, rfl⟩ rfl rfl rfl ⟨rfl, rfl, trivial⟩
theorem len_c (w : World) (b : Nat) (sym full : Bool) (A : Option Addr) (n c : Nat) (m : Value) (h : (boxF b sym full (.slice A n c) m).p w) : Pu Tryd.prog n_box_Box_Len #[.pointer (some ⟨b, 0, none⟩)] w (.int .i64 n) := by
  refine pu_of (calls_of_sx (cx := cx_box_Box_Len w None_) (good_box_Box_Len w None_) b_box_Box_Len rfl rfl (β := Va.z) [.c (.v (.pointer (some ⟨b, 0, none⟩)))] 0 [] [oldF w] rfl rfl (old_sat rfl) ?_)
  refine ⟨.slice A n c, fun β w' hs => ?_, ?_⟩
  · have hb : w.heap[b]? = some (.cells #[.bool sym, .bool full, .slice A n c, m] 77 (0, 0)) := h
    have hlt : b < w.heap.size := (Array.getElem?_eq_some_iff.1 hb).1
    have h2 := (hs.get 0 rfl : (oldF w).p w') b hlt
    rw [hb] at h2
    show w'.cell? ⟨b, 2, none⟩ = _
    rw [cell_of_row w' b 2 _ _ _ h2]
    rfl
  intro β w' hs
  exact ⟨rfl, hs.chg⟩
end Go.Proofs.YthkjfepbmnabkaaDoor.Sx
