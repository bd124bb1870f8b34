/- A nil guest, a nil box: GuestNil. -/
import Derived.Test.YtnhckgipdoojeaaGreatDoorPGuestNilb
import Derived.Test.YtnhckgipdoojeaaGreatDoorRows
import Derived.Test.YtnhckgipdoojeaaGreatDoorCards
import Derived.Test.YtnhckgipdoojeaaGreatDoorTie
import Derived.WalkKit
import Derived.ProofKit
import Derived.OpenShut
import Derived.ShutString
import Derived.ChangeOld
import Derived.Below
import Derived.LaidMore
import Derived.Stop.Joined
import Derived.SevenTiedAt
import Derived.Lay
namespace Go.Proofs.YtnhckgipdoojeaaGreatDoor.guestNil
open Go.ChangeShapes Go.WideShapes Go.ChangeAt Go.RowKit
theorem fact5 : Tryz.prog.mainIs = some (((true, "e3f3b718f2b5f08af1e86183515f0c9f3d19d489a2cb3dd86e6d9d020df7fe3f") : Bool × String).1, ((true, "e3f3b718f2b5f08af1e86183515f0c9f3d19d489a2cb3dd86e6d9d020df7fe3f") : Bool × String).2.toList) := by kernel_rfl
theorem fact6 : true = Tryz.prog.looks [] := by kernel_rfl
theorem fact7 : ([9, 22].all fun u => !Tryz.prog.wantsStandIn u) = true := by kernel_rfl
theorem fact8 : false = Rows.guestNilRow.goesBy Tryz.prog := by kernel_rfl
theorem fact9 : Tryz.prog.funcNamed "ostiary/ostiarylaw26.GuestNil" = some 3 := by kernel_rfl
theorem proved : Rows.GuestNilCardSaid :=
  Claim7.holds_tied_plain_at .later [] [.data, .data, .data, .data, .sentinel, .sentinel, .data, .data, .widerDeep, .widerDeep, .widerDeep, .data, .pinned] true (true, "e3f3b718f2b5f08af1e86183515f0c9f3d19d489a2cb3dd86e6d9d020df7fe3f") true
    over (fun _ h => by cases h) (by kernel_rfl) (fun _ h => by cases h) guestNil_row_tie rfl ⟨rfl, rfl⟩ fact5 rfl
    (fun f fn hf hfn => by
      obtain rfl : f = 3 := Option.some.inj (fact9.symm.trans hf) |>.symm
      obtain rfl : fn = Tryz.f3 := (Option.some.inj (Tryz.func3.symm.trans hfn)).symm
      exact ⟨fact6, fun j t ht => by
        rw [Tryz.params3] at ht
        have hm : t ∈ [9, 22] := by simpa using Array.mem_of_getElem? ht
        exact (show Tryz.prog.wantsStandIn t = false by simpa using List.all_eq_true.1 fact7 t hm)⟩)
    fact8
#print axioms proved
end Go.Proofs.YtnhckgipdoojeaaGreatDoor.guestNil
