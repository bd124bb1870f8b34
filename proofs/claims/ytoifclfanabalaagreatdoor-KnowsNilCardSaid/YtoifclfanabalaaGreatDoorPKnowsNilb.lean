/- KnowsNil: of a nil mind nothing can be made, said or known, and nothing is found; no mind is made of a nil box, nor of one that isn't symbolic: whatever the text.: the facts of its form. -/
import Derived.Test.YtoifclfanabalaaGreatDoorPKnowsNila
import Derived.Test.YtoifclfanabalaaGreatDoorRows
import Derived.Test.YtoifclfanabalaaGreatDoorCards
import Derived.Test.YtoifclfanabalaaGreatDoorTie
import Derived.WalkKit
import Derived.ProofKit
import Derived.OpenShut
import Derived.ShutString
import Derived.ChangeOld
import Derived.Below
import Derived.LaidMore
import Derived.Stop.Joined
import Derived.SevenTiedAt
namespace Go.Proofs.YtoifclfanabalaaGreatDoor.knowsNil
open Go.ChangeShapes Go.WideShapes Go.ChangeAt Go.RowKit
theorem fact1 : Tryz.prog.inPlace 5 = Rows.knowsNilRow.inPlace := by kernel_rfl
theorem fact2 : Tryz.prog.unfollowed 5 = Rows.knowsNilRow.unfollowed := by kernel_rfl
theorem fact3 : Tryz.prog.recurses 5 = Rows.knowsNilRow.recurses := by kernel_rfl
theorem fact4 : Tryz.prog.varsNamed 5 = Rows.knowsNilRow.named := by kernel_rfl
theorem closed : joinedFacts Tryz.prog 5 Tryz.f5 Rows.knowsNilSpec Rows.knowsNilRow = true := by
  unfold joinedFacts
  rw [fact1, fact2, fact3, fact4]
  kernel_rfl
theorem over : Rows.KnowsNilSaid :=
  OpenClaim.holds_of_wide 5 Tryz.f5 rfl rfl rfl rfl rfl rfl rfl ⟨rfl, rfl, rfl, rfl, rfl⟩ rfl rfl rfl rfl rfl (by kernel_rfl) Tryz.func5 closed
    (of_decide_eq_true (by kernel_rfl)) (by unfold Func.isWrapper; first | (rw [if_pos (by decide +kernel)]; kernel_rfl) | (rw [if_neg (by decide +kernel)]; exact ⟨rfl, rfl⟩))
    (fun os started H enc _ => lifted os started H enc)

end Go.Proofs.YtoifclfanabalaaGreatDoor.knowsNil
