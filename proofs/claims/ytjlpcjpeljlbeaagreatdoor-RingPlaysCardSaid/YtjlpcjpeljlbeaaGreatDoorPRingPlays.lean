/- Every script of keys that come and go, of sums that are made and asked for, has the document's answers, by a plain box and a symbolic one; master and keys aren't kept; for every input, no condition. -/
import Derived.Test.YtjlpcjpeljlbeaaGreatDoorPRingPlaysb
import Derived.Test.YtjlpcjpeljlbeaaGreatDoorRows
import Derived.Test.YtjlpcjpeljlbeaaGreatDoorCards
import Derived.Test.YtjlpcjpeljlbeaaGreatDoorTie
import Derived.WalkKit
import Derived.ProofKit
import Derived.OpenShut
import Derived.ShutString
import Derived.ChangeOld
import Derived.Below
import Derived.LaidMore
import Derived.Stop.Joined
import Derived.SevenTiedAt
namespace Go.Proofs.YtjlpcjpeljlbeaaGreatDoor.ringPlays
open Go.ChangeShapes Go.WideShapes Go.ChangeAt Go.RowKit
theorem fact5 : Tryz.prog.mainIs = some (((true, "ad46b15298a74da31f0de830d9ab317ceb9b688b114dbae5c7420ed4804aae7f") : Bool × String).1, ((true, "ad46b15298a74da31f0de830d9ab317ceb9b688b114dbae5c7420ed4804aae7f") : Bool × String).2.toList) := by kernel_rfl
theorem fact6 : false = Tryz.prog.looks [] := by kernel_rfl
theorem fact7 : ([4, 33, 3, 55].all fun u => !Tryz.prog.wantsStandIn u) = true := by kernel_rfl
theorem fact8 : false = Rows.ringPlaysRow.goesBy Tryz.prog := by kernel_rfl
theorem fact9 : Tryz.prog.funcNamed "ostiary/ostiarylaw17.RingPlays" = some 5 := by kernel_rfl
theorem proved : Rows.RingPlaysCardSaid :=
  Claim7.holds_tied_plain_at .later [] [.data, .data, .data, .data, .data, .data] true (true, "ad46b15298a74da31f0de830d9ab317ceb9b688b114dbae5c7420ed4804aae7f") false
    over (fun _ h => by cases h) (by kernel_rfl) (fun _ h => by cases h) ringPlays_row_tie rfl ⟨rfl, rfl⟩ fact5 rfl
    (fun f fn hf hfn => by
      obtain rfl : f = 5 := Option.some.inj (fact9.symm.trans hf) |>.symm
      obtain rfl : fn = Tryz.f5 := (Option.some.inj (Tryz.func5.symm.trans hfn)).symm
      exact ⟨fact6, fun j t ht => by
        rw [Tryz.params5] at ht
        have hm : t ∈ [4, 33, 3, 55] := by simpa using Array.mem_of_getElem? ht
        exact (show Tryz.prog.wantsStandIn t = false by simpa using List.all_eq_true.1 fact7 t hm)⟩)
    fact8
#print axioms proved
end Go.Proofs.YtjlpcjpeljlbeaaGreatDoor.ringPlays
