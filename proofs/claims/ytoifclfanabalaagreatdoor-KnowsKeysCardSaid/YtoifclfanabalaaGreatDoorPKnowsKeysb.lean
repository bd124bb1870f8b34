/- A sum of a secret key cannot be made, however many others were seen; of a key that is none it can.: the facts of its form. -/
import Derived.Test.YtoifclfanabalaaGreatDoorPKnowsKeysa
import Derived.Test.YtoifclfanabalaaGreatDoorRows
import Derived.Test.YtoifclfanabalaaGreatDoorCards
import Derived.Test.YtoifclfanabalaaGreatDoorTie
import Derived.WalkKit
import Derived.ProofKit
import Derived.OpenShut
import Derived.ShutString
import Derived.ChangeOld
import Derived.Below
import Derived.LaidMore
import Derived.Stop.Joined
import Derived.SevenTiedAt
namespace Go.Proofs.YtoifclfanabalaaGreatDoor.knowsKeys
open Go.ChangeShapes Go.WideShapes Go.ChangeAt Go.RowKit
theorem fact1 : Tryz.prog.inPlace 3 = Rows.knowsKeysRow.inPlace := by kernel_rfl
theorem fact2 : Tryz.prog.unfollowed 3 = Rows.knowsKeysRow.unfollowed := by kernel_rfl
theorem fact3 : Tryz.prog.recurses 3 = Rows.knowsKeysRow.recurses := by kernel_rfl
theorem fact4 : Tryz.prog.varsNamed 3 = Rows.knowsKeysRow.named := by kernel_rfl
theorem closed : joinedFacts Tryz.prog 3 Tryz.f3 Rows.knowsKeysSpec Rows.knowsKeysRow = true := by
  unfold joinedFacts
  rw [fact1, fact2, fact3, fact4]
  kernel_rfl
theorem over : Rows.KnowsKeysSaid :=
  OpenClaim.holds_of_wide 3 Tryz.f3 rfl rfl rfl rfl rfl rfl rfl ⟨rfl, rfl, rfl, rfl, rfl⟩ rfl rfl rfl rfl rfl (by kernel_rfl) Tryz.func3 closed
    (of_decide_eq_true (by kernel_rfl)) (by unfold Func.isWrapper; first | (rw [if_pos (by decide +kernel)]; kernel_rfl) | (rw [if_neg (by decide +kernel)]; exact ⟨rfl, rfl⟩))
    (fun os started H enc _ => lifted os started H enc)

end Go.Proofs.YtoifclfanabalaaGreatDoor.knowsKeys
