/- Who has seen more can make more, and what was seen of the box's handles can be made; whose secrets are fewer, too. -/
import Derived.Test.YtoifclfanabalaaGreatDoorPKnowsMoreb
import Derived.Test.YtoifclfanabalaaGreatDoorRows
import Derived.Test.YtoifclfanabalaaGreatDoorCards
import Derived.Test.YtoifclfanabalaaGreatDoorTie
import Derived.WalkKit
import Derived.ProofKit
import Derived.OpenShut
import Derived.ShutString
import Derived.ChangeOld
import Derived.Below
import Derived.LaidMore
import Derived.Stop.Joined
import Derived.SevenTiedAt
namespace Go.Proofs.YtoifclfanabalaaGreatDoor.knowsMore
open Go.ChangeShapes Go.WideShapes Go.ChangeAt Go.RowKit
theorem fact5 : Tryz.prog.mainIs = some (((true, "d824295509e793d10da1742f564c872153857c13c09237bc7a21b8b40d0613dc") : Bool × String).1, ((true, "d824295509e793d10da1742f564c872153857c13c09237bc7a21b8b40d0613dc") : Bool × String).2.toList) := by kernel_rfl
theorem fact6 : false = Tryz.prog.looks [] := by kernel_rfl
theorem fact7 : ([63, 23, 23, 22].all fun u => !Tryz.prog.wantsStandIn u) = true := by kernel_rfl
theorem fact8 : false = Rows.knowsMoreRow.goesBy Tryz.prog := by kernel_rfl
theorem fact9 : Tryz.prog.funcNamed "ostiary/ostiarylaw28.KnowsMore" = some 6 := by kernel_rfl
theorem proved : Rows.KnowsMoreCardSaid :=
  Claim7.holds_tied_plain_at .later [] [.data, .data, .data] true (true, "d824295509e793d10da1742f564c872153857c13c09237bc7a21b8b40d0613dc") false
    over (fun _ h => by cases h) (by kernel_rfl) (fun _ h => by cases h) knowsMore_row_tie rfl ⟨rfl, rfl⟩ fact5 rfl
    (fun f fn hf hfn => by
      obtain rfl : f = 6 := Option.some.inj (fact9.symm.trans hf) |>.symm
      obtain rfl : fn = Tryz.f6 := (Option.some.inj (Tryz.func6.symm.trans hfn)).symm
      exact ⟨fact6, fun j t ht => by
        rw [Tryz.params6] at ht
        have hm : t ∈ [63, 23, 23, 22] := by simpa using Array.mem_of_getElem? ht
        exact (show Tryz.prog.wantsStandIn t = false by simpa using List.all_eq_true.1 fact7 t hm)⟩)
    fact8
#print axioms proved
end Go.Proofs.YtoifclfanabalaaGreatDoor.knowsMore
