/- Every script of keys that come and go, of sums that are made and asked for, has the document's answers, by a plain box and a symbolic one; master and keys aren't kept; for every input, no condition.: the facts of its form. -/
import Derived.Test.YtjlpcjpeljlbeaaGreatDoorPRingPlaysa
import Derived.Test.YtjlpcjpeljlbeaaGreatDoorRows
import Derived.Test.YtjlpcjpeljlbeaaGreatDoorCards
import Derived.Test.YtjlpcjpeljlbeaaGreatDoorTie
import Derived.WalkKit
import Derived.ProofKit
import Derived.OpenShut
import Derived.ShutString
import Derived.ChangeOld
import Derived.Below
import Derived.LaidMore
import Derived.Stop.Joined
import Derived.SevenTiedAt
namespace Go.Proofs.YtjlpcjpeljlbeaaGreatDoor.ringPlays
open Go.ChangeShapes Go.WideShapes Go.ChangeAt Go.RowKit
theorem fact1 : Tryz.prog.inPlace 5 = Rows.ringPlaysRow.inPlace := by kernel_rfl
theorem fact2 : Tryz.prog.unfollowed 5 = Rows.ringPlaysRow.unfollowed := by kernel_rfl
theorem fact3 : Tryz.prog.recurses 5 = Rows.ringPlaysRow.recurses := by kernel_rfl
theorem fact4 : Tryz.prog.varsNamed 5 = Rows.ringPlaysRow.named := by kernel_rfl
theorem closed : joinedFacts Tryz.prog 5 Tryz.f5 Rows.ringPlaysSpec Rows.ringPlaysRow = true := by
  unfold joinedFacts
  rw [fact1, fact2, fact3, fact4]
  kernel_rfl
theorem over : Rows.RingPlaysSaid :=
  OpenClaim.holds_of_wide 5 Tryz.f5 rfl rfl rfl rfl rfl rfl rfl ⟨rfl, rfl, rfl, rfl, rfl⟩ rfl rfl rfl rfl rfl (by kernel_rfl) Tryz.func5 closed
    (of_decide_eq_true (by kernel_rfl)) (by unfold Func.isWrapper; first | (rw [if_pos (by decide +kernel)]; kernel_rfl) | (rw [if_neg (by decide +kernel)]; exact ⟨rfl, rfl⟩))
    (fun os started H enc _ => lifted os started H enc)

end Go.Proofs.YtjlpcjpeljlbeaaGreatDoor.ringPlays
