/- RollTurned: a store's text of which one byte is another one is loaded just if it is one still.: the facts of its form. -/
import Derived.Test.YtloeaiafphkjnaaGreatDoorPRollTurneda
import Derived.Test.YtloeaiafphkjnaaGreatDoorRows
import Derived.Test.YtloeaiafphkjnaaGreatDoorCards
import Derived.Test.YtloeaiafphkjnaaGreatDoorTie
import Derived.WalkKit
import Derived.ProofKit
import Derived.OpenShut
import Derived.ShutString
import Derived.ChangeOld
import Derived.Below
import Derived.LaidMore
import Derived.Stop.Joined
import Derived.SevenTiedAt
import Derived.Lay
namespace Go.Proofs.YtloeaiafphkjnaaGreatDoor.rollTurned
open Go.ChangeShapes Go.WideShapes Go.ChangeAt Go.RowKit
theorem fact1 : Tryz.prog.inPlace 5 = Rows.rollTurnedRow.inPlace := by kernel_rfl
theorem fact2 : Tryz.prog.unfollowed 5 = Rows.rollTurnedRow.unfollowed := by kernel_rfl
theorem fact3 : Tryz.prog.recurses 5 = Rows.rollTurnedRow.recurses := by kernel_rfl
theorem fact4 : Tryz.prog.varsNamed 5 = Rows.rollTurnedRow.named := by kernel_rfl
theorem closed : joinedFacts Tryz.prog 5 Tryz.f5 Rows.rollTurnedSpec Rows.rollTurnedRow = true := by
  unfold joinedFacts
  rw [fact1, fact2, fact3, fact4]
  kernel_rfl
theorem over : Rows.RollTurnedSaid :=
  OpenClaim.holds_of_wide 5 Tryz.f5 rfl rfl rfl rfl rfl rfl rfl ⟨rfl, rfl, rfl, rfl, rfl⟩ rfl rfl rfl rfl rfl (by kernel_rfl) Tryz.func5 closed
    (of_decide_eq_true (by kernel_rfl)) (by unfold Func.isWrapper; first | (rw [if_pos (by decide +kernel)]; kernel_rfl) | (rw [if_neg (by decide +kernel)]; exact ⟨rfl, rfl⟩))
    (fun os started H enc _ => lifted os started H enc)

end Go.Proofs.YtloeaiafphkjnaaGreatDoor.rollTurned
