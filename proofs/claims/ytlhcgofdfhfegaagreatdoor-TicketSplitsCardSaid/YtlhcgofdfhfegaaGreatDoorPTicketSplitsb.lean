/- Any text has a body and a Mac, or it is said why not: the program and the document alike.: the facts of its form. -/
import Derived.Test.YtlhcgofdfhfegaaGreatDoorPTicketSplitsa
import Derived.Test.YtlhcgofdfhfegaaGreatDoorRows
import Derived.Test.YtlhcgofdfhfegaaGreatDoorCards
import Derived.Test.YtlhcgofdfhfegaaGreatDoorTie
import Derived.WalkKit
import Derived.ProofKit
import Derived.OpenShut
import Derived.ShutString
import Derived.ChangeOld
import Derived.Below
import Derived.LaidMore
import Derived.Stop.Joined
import Derived.SevenTiedAt
namespace Go.Proofs.YtlhcgofdfhfegaaGreatDoor.ticketSplits
open Go.ChangeShapes Go.WideShapes Go.ChangeAt Go.RowKit
theorem fact1 : Tryz.prog.inPlace 4 = Rows.ticketSplitsRow.inPlace := by kernel_rfl
theorem fact2 : Tryz.prog.unfollowed 4 = Rows.ticketSplitsRow.unfollowed := by kernel_rfl
theorem fact3 : Tryz.prog.recurses 4 = Rows.ticketSplitsRow.recurses := by kernel_rfl
theorem fact4 : Tryz.prog.varsNamed 4 = Rows.ticketSplitsRow.named := by kernel_rfl
theorem closed : joinedFacts Tryz.prog 4 Tryz.f4 Rows.ticketSplitsSpec Rows.ticketSplitsRow = true := by
  unfold joinedFacts
  rw [fact1, fact2, fact3, fact4]
  kernel_rfl
theorem over : Rows.TicketSplitsSaid :=
  OpenClaim.holds_of_wide 4 Tryz.f4 rfl rfl rfl rfl rfl rfl rfl ⟨rfl, rfl, rfl, rfl, rfl⟩ rfl rfl rfl rfl rfl (by kernel_rfl) Tryz.func4 closed
    (of_decide_eq_true (by kernel_rfl)) (by unfold Func.isWrapper; first | (rw [if_pos (by decide +kernel)]; kernel_rfl) | (rw [if_neg (by decide +kernel)]; exact ⟨rfl, rfl⟩))
    (fun os started H enc _ => lifted os started H enc)

end Go.Proofs.YtlhcgofdfhfegaaGreatDoor.ticketSplits
