/- hands without their things answer each command, and panic at none: the facts of its form. -/
import Derived.Test.YteenjgfbbkdlhaaGreatDoorPOrderBarea
import Derived.Test.YteenjgfbbkdlhaaGreatDoorRows
import Derived.Test.YteenjgfbbkdlhaaGreatDoorCards
import Derived.Test.YteenjgfbbkdlhaaGreatDoorTie
import Derived.WalkKit
import Derived.ProofKit
import Derived.OpenShut
import Derived.ShutString
import Derived.ChangeOld
import Derived.Below
import Derived.LaidMore
import Derived.Stop.Joined
import Derived.SevenTiedAt
import Derived.Lay
namespace Go.Proofs.YteenjgfbbkdlhaaGreatDoor.orderBare
open Go.ChangeShapes Go.WideShapes Go.ChangeAt Go.RowKit
theorem fact1 : Tryz.prog.inPlace 4 = Rows.orderBareRow.inPlace := by kernel_rfl
theorem fact2 : Tryz.prog.unfollowed 4 = Rows.orderBareRow.unfollowed := by kernel_rfl
theorem fact3 : Tryz.prog.recurses 4 = Rows.orderBareRow.recurses := by kernel_rfl
theorem fact4 : Tryz.prog.varsNamed 4 = Rows.orderBareRow.named := by kernel_rfl
theorem closed : joinedFacts Tryz.prog 4 Tryz.f4 Rows.orderBareSpec Rows.orderBareRow = true := by
  unfold joinedFacts
  rw [fact1, fact2, fact3, fact4]
  kernel_rfl
theorem over : Rows.OrderBareSaid :=
  OpenClaim.holds_of_wide 4 Tryz.f4 rfl rfl rfl rfl rfl rfl rfl ⟨rfl, rfl, rfl, rfl, rfl⟩ rfl rfl rfl rfl rfl (by kernel_rfl) Tryz.func4 closed
    (of_decide_eq_true (by kernel_rfl)) (by unfold Func.isWrapper; first | (rw [if_pos (by decide +kernel)]; kernel_rfl) | (rw [if_neg (by decide +kernel)]; exact ⟨rfl, rfl⟩))
    (fun os started H enc _ => lifted os started H enc)

end Go.Proofs.YteenjgfbbkdlhaaGreatDoor.orderBare
