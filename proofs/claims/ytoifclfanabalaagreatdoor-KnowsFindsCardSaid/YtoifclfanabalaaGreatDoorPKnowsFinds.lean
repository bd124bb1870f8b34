/- KnowsFinds: in whatever text a handle's number is found, as the handle stands, in Base64, in its other form, or in Base16; what is found, and the runs of letters, all of them or the first few, are the document's: for every front, end, number, form and stop. -/
import Derived.Test.YtoifclfanabalaaGreatDoorPKnowsFindsb
import Derived.Test.YtoifclfanabalaaGreatDoorRows
import Derived.Test.YtoifclfanabalaaGreatDoorCards
import Derived.Test.YtoifclfanabalaaGreatDoorTie
import Derived.WalkKit
import Derived.ProofKit
import Derived.OpenShut
import Derived.ShutString
import Derived.ChangeOld
import Derived.Below
import Derived.LaidMore
import Derived.Stop.Joined
import Derived.SevenTiedAt
namespace Go.Proofs.YtoifclfanabalaaGreatDoor.knowsFinds
open Go.ChangeShapes Go.WideShapes Go.ChangeAt Go.RowKit
theorem fact5 : Tryz.prog.mainIs = some (((true, "d824295509e793d10da1742f564c872153857c13c09237bc7a21b8b40d0613dc") : Bool × String).1, ((true, "d824295509e793d10da1742f564c872153857c13c09237bc7a21b8b40d0613dc") : Bool × String).2.toList) := by kernel_rfl
theorem fact6 : false = Tryz.prog.looks [] := by kernel_rfl
theorem fact7 : ([22, 22, 41, 5, 5].all fun u => !Tryz.prog.wantsStandIn u) = true := by kernel_rfl
theorem fact8 : false = Rows.knowsFindsRow.goesBy Tryz.prog := by kernel_rfl
theorem fact9 : Tryz.prog.funcNamed "ostiary/ostiarylaw28.KnowsFinds" = some 4 := by kernel_rfl
theorem proved : Rows.KnowsFindsCardSaid :=
  Claim7.holds_tied_plain_at .later [] [.data, .data] true (true, "d824295509e793d10da1742f564c872153857c13c09237bc7a21b8b40d0613dc") false
    over (fun _ h => by cases h) (by kernel_rfl) (fun _ h => by cases h) knowsFinds_row_tie rfl ⟨rfl, rfl⟩ fact5 rfl
    (fun f fn hf hfn => by
      obtain rfl : f = 4 := Option.some.inj (fact9.symm.trans hf) |>.symm
      obtain rfl : fn = Tryz.f4 := (Option.some.inj (Tryz.func4.symm.trans hfn)).symm
      exact ⟨fact6, fun j t ht => by
        rw [Tryz.params4] at ht
        have hm : t ∈ [22, 22, 41, 5, 5] := by simpa using Array.mem_of_getElem? ht
        exact (show Tryz.prog.wantsStandIn t = false by simpa using List.all_eq_true.1 fact7 t hm)⟩)
    fact8
#print axioms proved
end Go.Proofs.YtoifclfanabalaaGreatDoor.knowsFinds
