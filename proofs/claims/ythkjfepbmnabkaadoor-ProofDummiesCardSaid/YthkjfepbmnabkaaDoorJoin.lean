/- Texts joined: the library's contract as ours; the message. -/
import Derived.Test.YthkjfepbmnabkaaDoorBox2
import Derived.Test.YthkjfepbmnabkaaDoorShelf
namespace Go.Proofs.YthkjfepbmnabkaaDoor.Sx
open Go Sha
attribute [local irreducible] Calls

theorem chg_of {w w' : World} (h : RowKit.Below w.heap.size w w') : Chg None_ w w' := ⟨h.os, h.tape, h.output, h.size, fun k hk _ => h.block k hk⟩
def joinB (xs : List ByteArray) (sep : ByteArray) : ByteArray := ⟨(Lib.join (xs.map (·.data.toList)) sep.data.toList).toArray⟩
theorem join_c (w : World) (b c : Nat) (xs : List ByteArray) (sep : ByteArray) (hP : Rd 1 (some ⟨b, 0, none⟩) xs.length (xs.map Value.string) w) (hb : b < w.heap.size) (hN : xs.length ≤ 1000) (hcap : xs.length ≤ c) (hlen : (Lib.join (xs.map (·.data.toList)) sep.data.toList).length ≤ 140737488355328) :
    Pu Tryd.prog n_strings_Join #[.slice (some ⟨b, 0, none⟩) xs.length c, .string sep] w (.string (joinB xs sep)) := by
  refine pu_of (Calls.mono (Tryd.strings_Join b 0 c xs sep w (fun j x hx => ?_) hb (by omega) hcap hlen) ?_)
  · have hj : j < xs.length := (List.getElem?_eq_some_iff.1 hx).1
    obtain ⟨ad, h1, h2⟩ := hP.2 (by omega)
    obtain rfl := Option.some.inj h1
    have := h2 j (.string x) (by rw [List.getElem?_map, hx]; rfl)
    rw [add_none] at this
    exact this
  · rintro e w' ⟨rfl, hw⟩
    exact ⟨_, rfl, rfl, chg_of hw⟩
theorem byl (s : ByteArray) : (⟨(bl_ s).toArray⟩ : ByteArray) = s := by cases s; simp [bl_]
theorem message_c (w : World) (x y z : ByteArray) (hs : x.size + y.size + z.size ≤ 10000) : Pu Tryd.prog n_proof_Message #[.string x, .string y, .string z] w (.string (x ++ ⟨#[44]⟩ ++ y ++ ⟨#[44]⟩ ++ z)) := by
  refine pu_of (calls_of_sx (cx := cx_proof_Message w None_) (good_proof_Message w None_) b_proof_Message rfl rfl (β := Va.z) [.c (.v (.string x)), .c (.v (.string y)), .c (.v (.string z))] 0 [] [] rfl rfl (Sat.start rfl) ?_)
  have hj : Lib.join ([x, y, z].map (·.data.toList)) [44] = bl_ (x ++ ⟨#[44]⟩ ++ y ++ ⟨#[44]⟩ ++ z) := by
    simp only [bl_app, List.map_cons, List.map_nil]
    simp [Lib.join, List.intercalate, bl_]
  have hl : (Lib.join ([x, y, z].map (·.data.toList)) [44]).length ≤ 140737488355328 := by
    rw [hj, bl_len]
    simp only [sz_app]
    have : (⟨#[44]⟩ : ByteArray).size = 1 := rfl
    rw [this]
    omega
  intro b
  refine call_pu (fun β w' hs => join_c w' b 3 [x, y, z] ⟨#[44]⟩ (row_rd (hs.get 0 rfl)) (hs.getLt 0 rfl b rfl) (by show 3 ≤ 1000; decide) (Nat.le_refl 3) hl) ?_
  intro β w' hs
  refine ⟨?_, hs.chg⟩
  have : joinB [x, y, z] ⟨#[44]⟩ = x ++ ⟨#[44]⟩ ++ y ++ ⟨#[44]⟩ ++ z := by
    unfold joinB
    rw [show (⟨#[44]⟩ : ByteArray).data.toList = [44] from rfl, hj]
    exact byl _
  rw [← this]
  rfl
end Go.Proofs.YthkjfepbmnabkaaDoor.Sx
