/- every script of tickets that are given out, shown, spoilt, revoked and swept, of keys that come and go, as time goes by, has the document's answers, by a plain box and a symbolic one: the facts of its form. -/
import Derived.Test.YtfomhhkoamapmaaGreatDoorPTicketPlaysa
import Derived.Test.YtfomhhkoamapmaaGreatDoorRows
import Derived.Test.YtfomhhkoamapmaaGreatDoorCards
import Derived.Test.YtfomhhkoamapmaaGreatDoorTie
import Derived.WalkKit
import Derived.ProofKit
import Derived.OpenShut
import Derived.ShutString
import Derived.ChangeOld
import Derived.Below
import Derived.LaidMore
import Derived.Stop.Joined
import Derived.SevenTiedAt
namespace Go.Proofs.YtfomhhkoamapmaaGreatDoor.ticketPlays
open Go.ChangeShapes Go.WideShapes Go.ChangeAt Go.RowKit
theorem fact1 : Tryz.prog.inPlace 3 = Rows.ticketPlaysRow.inPlace := by kernel_rfl
theorem fact2 : Tryz.prog.unfollowed 3 = Rows.ticketPlaysRow.unfollowed := by kernel_rfl
theorem fact3 : Tryz.prog.recurses 3 = Rows.ticketPlaysRow.recurses := by kernel_rfl
theorem fact4 : Tryz.prog.varsNamed 3 = Rows.ticketPlaysRow.named := by kernel_rfl
theorem closed : joinedFacts Tryz.prog 3 Tryz.f3 Rows.ticketPlaysSpec Rows.ticketPlaysRow = true := by
  unfold joinedFacts
  rw [fact1, fact2, fact3, fact4]
  kernel_rfl
theorem over : Rows.TicketPlaysSaid :=
  OpenClaim.holds_of_wide 3 Tryz.f3 rfl rfl rfl rfl rfl rfl rfl ⟨rfl, rfl, rfl, rfl, rfl⟩ rfl rfl rfl rfl rfl (by kernel_rfl) Tryz.func3 closed
    (of_decide_eq_true (by kernel_rfl)) (by unfold Func.isWrapper; first | (rw [if_pos (by decide +kernel)]; kernel_rfl) | (rw [if_neg (by decide +kernel)]; exact ⟨rfl, rfl⟩))
    (fun os started H enc _ => lifted os started H enc)

end Go.Proofs.YtfomhhkoamapmaaGreatDoor.ticketPlays
