/- nobody else's ticket is opened: the facts of its form. -/
import Derived.Test.YtlhcgofdfhfegaaGreatDoorPTicketForgeda
import Derived.Test.YtlhcgofdfhfegaaGreatDoorRows
import Derived.Test.YtlhcgofdfhfegaaGreatDoorCards
import Derived.Test.YtlhcgofdfhfegaaGreatDoorTie
import Derived.WalkKit
import Derived.ProofKit
import Derived.OpenShut
import Derived.ShutString
import Derived.ChangeOld
import Derived.Below
import Derived.LaidMore
import Derived.Stop.Joined
import Derived.SevenTiedAt
namespace Go.Proofs.YtlhcgofdfhfegaaGreatDoor.ticketForged
open Go.ChangeShapes Go.WideShapes Go.ChangeAt Go.RowKit
theorem fact1 : Tryz.prog.inPlace 6 = Rows.ticketForgedRow.inPlace := by kernel_rfl
theorem fact2 : Tryz.prog.unfollowed 6 = Rows.ticketForgedRow.unfollowed := by kernel_rfl
theorem fact3 : Tryz.prog.recurses 6 = Rows.ticketForgedRow.recurses := by kernel_rfl
theorem fact4 : Tryz.prog.varsNamed 6 = Rows.ticketForgedRow.named := by kernel_rfl
theorem closed : joinedFacts Tryz.prog 6 Tryz.f6 Rows.ticketForgedSpec Rows.ticketForgedRow = true := by
  unfold joinedFacts
  rw [fact1, fact2, fact3, fact4]
  kernel_rfl
theorem over : Rows.TicketForgedSaid :=
  OpenClaim.holds_of_wide 6 Tryz.f6 rfl rfl rfl rfl rfl rfl rfl ⟨rfl, rfl, rfl, rfl, rfl⟩ rfl rfl rfl rfl rfl (by kernel_rfl) Tryz.func6 closed
    (of_decide_eq_true (by kernel_rfl)) (by unfold Func.isWrapper; first | (rw [if_pos (by decide +kernel)]; kernel_rfl) | (rw [if_neg (by decide +kernel)]; exact ⟨rfl, rfl⟩))
    (fun os started H enc _ => lifted os started H enc)

end Go.Proofs.YtlhcgofdfhfegaaGreatDoor.ticketForged
