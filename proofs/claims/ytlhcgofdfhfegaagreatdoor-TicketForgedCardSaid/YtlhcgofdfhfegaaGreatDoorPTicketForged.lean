/- nobody else's ticket is opened -/
import Derived.Test.YtlhcgofdfhfegaaGreatDoorPTicketForgedb
import Derived.Test.YtlhcgofdfhfegaaGreatDoorRows
import Derived.Test.YtlhcgofdfhfegaaGreatDoorCards
import Derived.Test.YtlhcgofdfhfegaaGreatDoorTie
import Derived.WalkKit
import Derived.ProofKit
import Derived.OpenShut
import Derived.ShutString
import Derived.ChangeOld
import Derived.Below
import Derived.LaidMore
import Derived.Stop.Joined
import Derived.SevenTiedAt
namespace Go.Proofs.YtlhcgofdfhfegaaGreatDoor.ticketForged
open Go.ChangeShapes Go.WideShapes Go.ChangeAt Go.RowKit
theorem fact5 : Tryz.prog.mainIs = some (((true, "e0dce2eb1901b594f362ea26d6de3c6ff4bc8f1135221719e045a08b7565f548") : Bool × String).1, ((true, "e0dce2eb1901b594f362ea26d6de3c6ff4bc8f1135221719e045a08b7565f548") : Bool × String).2.toList) := by kernel_rfl
theorem fact6 : false = Tryz.prog.looks [] := by kernel_rfl
theorem fact7 : ([26, 26, 27].all fun u => !Tryz.prog.wantsStandIn u) = true := by kernel_rfl
theorem fact8 : false = Rows.ticketForgedRow.goesBy Tryz.prog := by kernel_rfl
theorem fact9 : Tryz.prog.funcNamed "ostiary/ostiarylaw18.TicketForged" = some 6 := by kernel_rfl
theorem proved : Rows.TicketForgedCardSaid :=
  Claim7.holds_tied_plain_at .later [] [.data, .data, .data, .data, .data, .widerDeep, .widerDeep, .widerDeep, .data] true (true, "e0dce2eb1901b594f362ea26d6de3c6ff4bc8f1135221719e045a08b7565f548") false
    over (fun _ h => by cases h) (by kernel_rfl) (fun _ h => by cases h) ticketForged_row_tie rfl ⟨rfl, rfl⟩ fact5 rfl
    (fun f fn hf hfn => by
      obtain rfl : f = 6 := Option.some.inj (fact9.symm.trans hf) |>.symm
      obtain rfl : fn = Tryz.f6 := (Option.some.inj (Tryz.func6.symm.trans hfn)).symm
      exact ⟨fact6, fun j t ht => by
        rw [Tryz.params6] at ht
        have hm : t ∈ [26, 26, 27] := by simpa using Array.mem_of_getElem? ht
        exact (show Tryz.prog.wantsStandIn t = false by simpa using List.all_eq_true.1 fact7 t hm)⟩)
    fact8
#print axioms proved
end Go.Proofs.YtlhcgofdfhfegaaGreatDoor.ticketForged
