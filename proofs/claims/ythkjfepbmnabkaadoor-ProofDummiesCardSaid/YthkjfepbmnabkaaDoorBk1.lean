/- Handles: how they begin, what they are. -/
import Derived.Test.YthkjfepbmnabkaaDoorSxEff
import Derived.Test.YthkjfepbmnabkaaDoorBe
import Derived.Test.YthkjfepbmnabkaaDoorBoxL
namespace Go.Proofs.YthkjfepbmnabkaaDoor.Sx
open Go
attribute [local irreducible] Calls

theorem mark_c (w : World) : Con Tryd.prog n_box_mark #[] w [] fun v Fs => ∃ b, v = .slice (some ⟨b, 0, none⟩) 28 28 ∧ Fs = [browF ty_uint8 (some ⟨b, 0, none⟩) Bx.front 28] := by
  have g := good_box_mark w (Un [])
  refine con_of_sx (cx := cx_box_mark w (Un [])) g b_box_mark rfl rfl (β := Va.z) [] 0 [] [] rfl rfl (Sat.start rfl) ?_
  refine ⟨28, 28, rfl, rfl, Nat.le_refl _, by decide, by decide, ?_⟩
  intro b
  intro b2
  refine ⟨_, _, .c (.v (.int .i64 4)), fun β w' ty hs => hs.copyRow g 1 rfl (row_rd (hs.get 0 rfl)) (bytes_one [241, 84, 82, 77]) ty _ rfl, trivial, ?_⟩
  intro β w' hs
  exact hs.fin [1] ⟨b, rfl, rfl⟩

theorem wrap_u8b (x : Nat) : IntKind.u8.wrap (x : Int) = ((UInt8.ofNat x).toNat : Int) := by
  rw [wrap_u8, UInt8.toNat_ofNat']
  omega
theorem shr_nat (n k : Nat) : (n : Int).fdiv (2 ^ k) = ((n / 2 ^ k : Nat) : Int) := by
  have : (2 ^ k : Int) = ((2 ^ k : Nat) : Int) := by push_cast; rfl
  rw [this, Int.fdiv_eq_ediv_of_nonneg _ (Int.natCast_nonneg _)]
  exact (Int.natCast_ediv _ _).symm
theorem handle_c (w : World) (n : Nat) : Con Tryd.prog n_box_Handle #[.int .i64 n] w [] fun v Fs => ∃ A c, v = .slice A 32 c ∧ 32 ≤ c ∧ c ≤ maxLen ∧ Fs = [browF ty_uint8 A (Bx.handle n) c] := by
  have g := good_box_Handle w (Un [])
  refine con_of_sx (cx := cx_box_Handle w (Un [])) g b_box_Handle rfl rfl (β := Va.z) [.c (.v (.int .i64 n))] 0 [] [] rfl rfl (Sat.start rfl) ?_
  refine call_con [] (fun β w' hs => mark_c w') ?_
  rintro v Fs ⟨b, rfl, rfl⟩
  refine ⟨by decide, _, shr_nat n 24, _, wrap_u8b _, by decide, _, shr_nat n 16, _, wrap_u8b _, by decide, _, shr_nat n 8, _, wrap_u8b _, _, wrap_u8b _, ?_⟩
  intro b2
  refine ⟨1, 28, 32, _, (Bx.be4 n).map byte, (Bx.handle n).map byte, rfl, fun β w' hs => row_rd (hs.get 0 rfl), bytes_one (Bx.be4 n), rfl, by rw [Bx.handle, List.map_append], by decide, by decide, ?_⟩
  intro A c h1 h2 h3
  intro β w' hs
  exact hs.fin [1] ⟨A, c, rfl, h1, h2, rfl⟩
end Go.Proofs.YthkjfepbmnabkaaDoor.Sx
