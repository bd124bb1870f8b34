/- No generation comes twice, whoever goes and comes again; of a credential that was touched no elder generation is current. -/
import Derived.Test.YtkobpamlmfpidaaGreatDoorPCredGensb
import Derived.Test.YtkobpamlmfpidaaGreatDoorRows
import Derived.Test.YtkobpamlmfpidaaGreatDoorCards
import Derived.Test.YtkobpamlmfpidaaGreatDoorTie
import Derived.WalkKit
import Derived.ProofKit
import Derived.OpenShut
import Derived.ShutString
import Derived.ChangeOld
import Derived.Below
import Derived.LaidMore
import Derived.Stop.Joined
import Derived.SevenTiedAt
namespace Go.Proofs.YtkobpamlmfpidaaGreatDoor.credGens
open Go.ChangeShapes Go.WideShapes Go.ChangeAt Go.RowKit
theorem fact5 : Tryz.prog.mainIs = some (((true, "3ce07d1dfa2a19ea5059e2898f7abfd74d19e7ee5a5d430789ce2f70def839cd") : Bool × String).1, ((true, "3ce07d1dfa2a19ea5059e2898f7abfd74d19e7ee5a5d430789ce2f70def839cd") : Bool × String).2.toList) := by kernel_rfl
theorem fact6 : false = Tryz.prog.looks [] := by kernel_rfl
theorem fact7 : ([22].all fun u => !Tryz.prog.wantsStandIn u) = true := by kernel_rfl
theorem fact8 : false = Rows.credGensRow.goesBy Tryz.prog := by kernel_rfl
theorem fact9 : Tryz.prog.funcNamed "ostiary/ostiarylaw14.CredGens" = some 3 := by kernel_rfl
theorem proved : Rows.CredGensCardSaid :=
  Claim7.holds_tied_plain_at .later [] [.widerDeep, .widerDeep, .widerDeep, .data] true (true, "3ce07d1dfa2a19ea5059e2898f7abfd74d19e7ee5a5d430789ce2f70def839cd") false
    over (fun _ h => by cases h) (by kernel_rfl) (fun _ h => by cases h) credGens_row_tie rfl ⟨rfl, rfl⟩ fact5 rfl
    (fun f fn hf hfn => by
      obtain rfl : f = 3 := Option.some.inj (fact9.symm.trans hf) |>.symm
      obtain rfl : fn = Tryz.f3 := (Option.some.inj (Tryz.func3.symm.trans hfn)).symm
      exact ⟨fact6, fun j t ht => by
        rw [Tryz.params3] at ht
        have hm : t ∈ [22] := by simpa using Array.mem_of_getElem? ht
        exact (show Tryz.prog.wantsStandIn t = false by simpa using List.all_eq_true.1 fact7 t hm)⟩)
    fact8
#print axioms proved
end Go.Proofs.YtkobpamlmfpidaaGreatDoor.credGens
