/- hands without their things answer each command, and panic at none -/
import Derived.Test.YteenjgfbbkdlhaaGreatDoorPOrderBareb
import Derived.Test.YteenjgfbbkdlhaaGreatDoorRows
import Derived.Test.YteenjgfbbkdlhaaGreatDoorCards
import Derived.Test.YteenjgfbbkdlhaaGreatDoorTie
import Derived.WalkKit
import Derived.ProofKit
import Derived.OpenShut
import Derived.ShutString
import Derived.ChangeOld
import Derived.Below
import Derived.LaidMore
import Derived.Stop.Joined
import Derived.SevenTiedAt
import Derived.Lay
namespace Go.Proofs.YteenjgfbbkdlhaaGreatDoor.orderBare
open Go.ChangeShapes Go.WideShapes Go.ChangeAt Go.RowKit
theorem fact5 : Tryz.prog.mainIs = some (((true, "e6545939ca299f1c3c37d4c72921c1ba6377312b03b9a05919c3368e61feaa34") : Bool × String).1, ((true, "e6545939ca299f1c3c37d4c72921c1ba6377312b03b9a05919c3368e61feaa34") : Bool × String).2.toList) := by kernel_rfl
theorem fact6 : true = Tryz.prog.looks [] := by kernel_rfl
theorem fact7 : ([38].all fun u => !Tryz.prog.wantsStandIn u) = true := by kernel_rfl
theorem fact8 : false = Rows.orderBareRow.goesBy Tryz.prog := by kernel_rfl
theorem fact9 : Tryz.prog.funcNamed "ostiary/ostiarylaw24.OrderBare" = some 4 := by kernel_rfl
theorem proved : Rows.OrderBareCardSaid :=
  Claim7.holds_tied_plain_at .later [] [.data, .data, .data, .data, .sentinel, .sentinel, .data, .data, .widerDeep, .widerDeep, .widerDeep, .data, .data, .pinned] true (true, "e6545939ca299f1c3c37d4c72921c1ba6377312b03b9a05919c3368e61feaa34") true
    over (fun _ h => by cases h) (by kernel_rfl) (fun _ h => by cases h) orderBare_row_tie rfl ⟨rfl, rfl⟩ fact5 rfl
    (fun f fn hf hfn => by
      obtain rfl : f = 4 := Option.some.inj (fact9.symm.trans hf) |>.symm
      obtain rfl : fn = Tryz.f4 := (Option.some.inj (Tryz.func4.symm.trans hfn)).symm
      exact ⟨fact6, fun j t ht => by
        rw [Tryz.params4] at ht
        have hm : t ∈ [38] := by simpa using Array.mem_of_getElem? ht
        exact (show Tryz.prog.wantsStandIn t = false by simpa using List.all_eq_true.1 fact7 t hm)⟩)
    fact8
#print axioms proved
end Go.Proofs.YteenjgfbbkdlhaaGreatDoor.orderBare
