/- every script of tickets that are given out, shown, spoilt, revoked and swept, of keys that come and go, as time goes by, has the document's answers, by a plain box and a symbolic one -/
import Derived.Test.YtfomhhkoamapmaaGreatDoorPTicketPlaysb
import Derived.Test.YtfomhhkoamapmaaGreatDoorRows
import Derived.Test.YtfomhhkoamapmaaGreatDoorCards
import Derived.Test.YtfomhhkoamapmaaGreatDoorTie
import Derived.WalkKit
import Derived.ProofKit
import Derived.OpenShut
import Derived.ShutString
import Derived.ChangeOld
import Derived.Below
import Derived.LaidMore
import Derived.Stop.Joined
import Derived.SevenTiedAt
namespace Go.Proofs.YtfomhhkoamapmaaGreatDoor.ticketPlays
open Go.ChangeShapes Go.WideShapes Go.ChangeAt Go.RowKit
theorem fact5 : Tryz.prog.mainIs = some (((true, "65a80840337d8f83477fb385c333364e3c27db143748acf2dd976291ed27807f") : Bool × String).1, ((true, "65a80840337d8f83477fb385c333364e3c27db143748acf2dd976291ed27807f") : Bool × String).2.toList) := by kernel_rfl
theorem fact6 : false = Tryz.prog.looks [] := by kernel_rfl
theorem fact7 : ([4, 22, 23].all fun u => !Tryz.prog.wantsStandIn u) = true := by kernel_rfl
theorem fact8 : false = Rows.ticketPlaysRow.goesBy Tryz.prog := by kernel_rfl
theorem fact9 : Tryz.prog.funcNamed "ostiary/ostiarylaw18.TicketPlays" = some 3 := by kernel_rfl
theorem proved : Rows.TicketPlaysCardSaid :=
  Claim7.holds_tied_plain_at .later [] [.data, .data, .data, .data, .data, .data, .widerDeep, .widerDeep, .widerDeep, .data] true (true, "65a80840337d8f83477fb385c333364e3c27db143748acf2dd976291ed27807f") false
    over (fun _ h => by cases h) (by kernel_rfl) (fun _ h => by cases h) ticketPlays_row_tie rfl ⟨rfl, rfl⟩ fact5 rfl
    (fun f fn hf hfn => by
      obtain rfl : f = 3 := Option.some.inj (fact9.symm.trans hf) |>.symm
      obtain rfl : fn = Tryz.f3 := (Option.some.inj (Tryz.func3.symm.trans hfn)).symm
      exact ⟨fact6, fun j t ht => by
        rw [Tryz.params3] at ht
        have hm : t ∈ [4, 22, 23] := by simpa using Array.mem_of_getElem? ht
        exact (show Tryz.prog.wantsStandIn t = false by simpa using List.all_eq_true.1 fact7 t hm)⟩)
    fact8
#print axioms proved
end Go.Proofs.YtfomhhkoamapmaaGreatDoor.ticketPlays
