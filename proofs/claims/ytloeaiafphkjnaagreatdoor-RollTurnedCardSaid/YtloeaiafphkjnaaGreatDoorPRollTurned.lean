/- RollTurned: a store's text of which one byte is another one is loaded just if it is one still. -/
import Derived.Test.YtloeaiafphkjnaaGreatDoorPRollTurnedb
import Derived.Test.YtloeaiafphkjnaaGreatDoorRows
import Derived.Test.YtloeaiafphkjnaaGreatDoorCards
import Derived.Test.YtloeaiafphkjnaaGreatDoorTie
import Derived.WalkKit
import Derived.ProofKit
import Derived.OpenShut
import Derived.ShutString
import Derived.ChangeOld
import Derived.Below
import Derived.LaidMore
import Derived.Stop.Joined
import Derived.SevenTiedAt
import Derived.Lay
namespace Go.Proofs.YtloeaiafphkjnaaGreatDoor.rollTurned
open Go.ChangeShapes Go.WideShapes Go.ChangeAt Go.RowKit
theorem fact5 : Tryz.prog.mainIs = some (((true, "88741cba73ef2f4ff328854ac273849b5a32cf735307ccd11b9d06dfb55f900e") : Bool × String).1, ((true, "88741cba73ef2f4ff328854ac273849b5a32cf735307ccd11b9d06dfb55f900e") : Bool × String).2.toList) := by kernel_rfl
theorem fact6 : true = Tryz.prog.looks [] := by kernel_rfl
theorem fact7 : ([38, 39, 5].all fun u => !Tryz.prog.wantsStandIn u) = true := by kernel_rfl
theorem fact8 : false = Rows.rollTurnedRow.goesBy Tryz.prog := by kernel_rfl
theorem fact9 : Tryz.prog.funcNamed "ostiary/ostiarylaw15.RollTurned" = some 5 := by kernel_rfl
theorem proved : Rows.RollTurnedCardSaid :=
  Claim7.holds_tied_plain_at .later [] [.data, .data, .data, .data, .data, .sentinel, .sentinel, .data, .data, .widerDeep, .widerDeep, .widerDeep, .data, .pinned] true (true, "88741cba73ef2f4ff328854ac273849b5a32cf735307ccd11b9d06dfb55f900e") true
    over (fun _ h => by cases h) (by kernel_rfl) (fun _ h => by cases h) rollTurned_row_tie rfl ⟨rfl, rfl⟩ fact5 rfl
    (fun f fn hf hfn => by
      obtain rfl : f = 5 := Option.some.inj (fact9.symm.trans hf) |>.symm
      obtain rfl : fn = Tryz.f5 := (Option.some.inj (Tryz.func5.symm.trans hfn)).symm
      exact ⟨fact6, fun j t ht => by
        rw [Tryz.params5] at ht
        have hm : t ∈ [38, 39, 5] := by simpa using Array.mem_of_getElem? ht
        exact (show Tryz.prog.wantsStandIn t = false by simpa using List.all_eq_true.1 fact7 t hm)⟩)
    fact8
#print axioms proved
end Go.Proofs.YtloeaiafphkjnaaGreatDoor.rollTurned
