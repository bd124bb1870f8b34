/- A nil guest, a nil box: GuestNil.: the facts of its form. -/
import Derived.Test.YtnhckgipdoojeaaGreatDoorPGuestNila
import Derived.Test.YtnhckgipdoojeaaGreatDoorRows
import Derived.Test.YtnhckgipdoojeaaGreatDoorCards
import Derived.Test.YtnhckgipdoojeaaGreatDoorTie
import Derived.WalkKit
import Derived.ProofKit
import Derived.OpenShut
import Derived.ShutString
import Derived.ChangeOld
import Derived.Below
import Derived.LaidMore
import Derived.Stop.Joined
import Derived.SevenTiedAt
import Derived.Lay
namespace Go.Proofs.YtnhckgipdoojeaaGreatDoor.guestNil
open Go.ChangeShapes Go.WideShapes Go.ChangeAt Go.RowKit
theorem fact1 : Tryz.prog.inPlace 3 = Rows.guestNilRow.inPlace := by kernel_rfl
theorem fact2 : Tryz.prog.unfollowed 3 = Rows.guestNilRow.unfollowed := by kernel_rfl
theorem fact3 : Tryz.prog.recurses 3 = Rows.guestNilRow.recurses := by kernel_rfl
theorem fact4 : Tryz.prog.varsNamed 3 = Rows.guestNilRow.named := by kernel_rfl
theorem closed : joinedFacts Tryz.prog 3 Tryz.f3 Rows.guestNilSpec Rows.guestNilRow = true := by
  unfold joinedFacts
  rw [fact1, fact2, fact3, fact4]
  kernel_rfl
theorem over : Rows.GuestNilSaid :=
  OpenClaim.holds_of_wide 3 Tryz.f3 rfl rfl rfl rfl rfl rfl rfl ⟨rfl, rfl, rfl, rfl, rfl⟩ rfl rfl rfl rfl rfl (by kernel_rfl) Tryz.func3 closed
    (of_decide_eq_true (by kernel_rfl)) (by unfold Func.isWrapper; first | (rw [if_pos (by decide +kernel)]; kernel_rfl) | (rw [if_neg (by decide +kernel)]; exact ⟨rfl, rfl⟩))
    (fun os started H enc _ => lifted os started H enc)

end Go.Proofs.YtnhckgipdoojeaaGreatDoor.guestNil
