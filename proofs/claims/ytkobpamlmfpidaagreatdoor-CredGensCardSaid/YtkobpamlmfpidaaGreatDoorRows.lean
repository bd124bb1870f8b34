/-
  NARROWER THAN 'FOR EVERY INPUT', by the rows' own cells (each row's printed sentence says how): CredGens: laid · CredPlays: laid.
  DERIVED. THE GIVEN ROWS OF THIS SEAT. 2 by the template 'for every input the law returns true; each argument reads behind the call as it read before'; 0 by the template 'total and deterministic' (their statements: YtkobpamlmfpidaaGreatDoorTotals.lean).
  GIVEN WITH THE SEED: the statements are not yours to turn. If you find one false, say at which input.
  Laid BY PROGRAM, IN A SANDBOX (cutbox-rows.mjs): the forced cells as the released guide's own fill.sh prints them over the translation ba6c2bf0f5a84e18… (all of the seat's roots in one cut). By AI agents, Wed Nov 11 2026. No macro, syntax, notation, axiom, sorry.
-/
import Derived.Test.YtkobpamlmfpidaaGreatDoorChecked
import GoSem.Claim
import GoSem.ClaimJoined
import GoSem.ClaimMapViews
import Derived.JoinedTies
import Derived.KernelRfl
namespace Go.Proofs.YtkobpamlmfpidaaGreatDoor
/- THE CELL 'sum', in the pinned program and in every row, IS THE sha256 OF THE DUMP (.gsa) THAT YtkobpamlmfpidaaGreatDoorProg.lean LOADS. Nothing in Lean hashes anything: it is a label: what it is worth is what the hold of that sum in a sandbox is worth. -/
noncomputable def Tryz.pinned : Pinned := { name := "ytkobpamlmfpidaagreatdoor", sum := "ba6c2bf0f5a84e1836757bdadd186663b3c6affac7442eee5916964f506e31b9", checked := Tryz.checked }
namespace Rows
def none {H : Type} : Left H := { results := [], args := [] }

/- WHAT THE LISTED PACKAGE-LEVEL VARIABLES READ AS WHEN THE CALL BEGINS. Each datum BY PROGRAM (the guide's laid-datum.mjs) off the statement by which the dump's own 'gosem.cut.vars' lays the variable. In a bare row this is a premise. The card (YtkobpamlmfpidaaGreatDoorCards.lean) ties it to the program's text. -/
def laid_ostiary_name_blanks {H : Type} : DataW H := .agg [.agg [.lit (.int .i32 160), .lit (.int .i32 160)], .agg [.lit (.int .i32 5760), .lit (.int .i32 5760)], .agg [.lit (.int .i32 8192), .lit (.int .i32 8202)], .agg [.lit (.int .i32 8239), .lit (.int .i32 8239)], .agg [.lit (.int .i32 8287), .lit (.int .i32 8287)], .agg [.lit (.int .i32 12288), .lit (.int .i32 12288)]]
def laid_ostiary_name_nothing {H : Type} : DataW H := .agg [.agg [.lit (.int .i32 173), .lit (.int .i32 173)], .agg [.lit (.int .i32 8203), .lit (.int .i32 8205)], .agg [.lit (.int .i32 8288), .lit (.int .i32 8288)], .agg [.lit (.int .i32 65024), .lit (.int .i32 65039)], .agg [.lit (.int .i32 65279), .lit (.int .i32 65279)]]
def laid_ostiary_name_barred {H : Type} : DataW H := .agg [.agg [.lit (.int .i32 0), .lit (.int .i32 31)], .agg [.lit (.int .i32 127), .lit (.int .i32 159)], .agg [.lit (.int .i32 8232), .lit (.int .i32 8233)], .agg [.lit (.int .i32 8234), .lit (.int .i32 8238)], .agg [.lit (.int .i32 8294), .lit (.int .i32 8297)], .agg [.lit (.int .i32 57344), .lit (.int .i32 63743)], .agg [.lit (.int .i32 983040), .lit (.int .i32 1114111)], .agg [.lit (.int .i32 65529), .lit (.int .i32 65533)], .agg [.lit (.int .i32 64976), .lit (.int .i32 65007)]]
def laid_ostiary_name_forms {H : Type} : DataW H := .agg [.agg [.lit (.int .i64 1), .lit (.int .u8 128), .lit (.int .u8 0), .lit (.int .i32 0)], .agg [.lit (.int .i64 2), .lit (.int .u8 224), .lit (.int .u8 192), .lit (.int .i32 128)], .agg [.lit (.int .i64 3), .lit (.int .u8 240), .lit (.int .u8 224), .lit (.int .i32 2048)], .agg [.lit (.int .i64 4), .lit (.int .u8 248), .lit (.int .u8 240), .lit (.int .i32 65536)]]

/-- 'ostiarylaw14.CredGens': WHATEVER THE INPUT: true; the input reads as it did. -/
def credGensSpec : ChangeSpec := { name := "credGens", fn := fun _ => fun
  | [d] => { results := [.lit (.bool true)], args := [d] }
  | _ => none }
def credGensRow : OpenClaim := { program := "ytkobpamlmfpidaagreatdoor", sum := "ba6c2bf0f5a84e1836757bdadd186663b3c6affac7442eee5916964f506e31b9", func := "ostiary/ostiarylaw14.CredGens", spec := "credGens", inPlace := ["slices.overlaps[string]"], unfollowed := true, recurses := true, named := ["ostiary/name.barred", "ostiary/name.forms", "ostiary/name.blanks", "ostiary/name.nothing"], apart := false, laid := [("ostiary/name.blanks", laid_ostiary_name_blanks), ("ostiary/name.nothing", laid_ostiary_name_nothing), ("ostiary/name.barred", laid_ostiary_name_barred), ("ostiary/name.forms", laid_ostiary_name_forms)] }
def CredGensSaid : Prop := credGensRow.holds Tryz.pinned (OpenSpec.ofChange credGensSpec)

/-- ITS FALSE NEIGHBOUR: 'it returns false'. Refute it at one input. -/
def credGensWrong : ChangeSpec := { name := "credGens", fn := fun _ => fun
  | [d] => { results := [.lit (.bool false)], args := [d] }
  | _ => none }
def CredGensWrongFalsely : Prop := credGensRow.holds Tryz.pinned (OpenSpec.ofChange credGensWrong)

/-- 'ostiarylaw14.CredPlays': WHATEVER THE INPUT: true; the input reads as it did. -/
def credPlaysSpec : ChangeSpec := { name := "credPlays", fn := fun _ => fun
  | [d1, d2] => { results := [.lit (.bool true)], args := [d1, d2] }
  | _ => none }
def credPlaysRow : OpenClaim := { program := "ytkobpamlmfpidaagreatdoor", sum := "ba6c2bf0f5a84e1836757bdadd186663b3c6affac7442eee5916964f506e31b9", func := "ostiary/ostiarylaw14.CredPlays", spec := "credPlays", inPlace := ["slices.overlaps[string]"], unfollowed := true, recurses := true, named := ["ostiary/name.barred", "ostiary/name.forms", "ostiary/name.blanks", "ostiary/name.nothing"], apart := false, laid := [("ostiary/name.blanks", laid_ostiary_name_blanks), ("ostiary/name.nothing", laid_ostiary_name_nothing), ("ostiary/name.barred", laid_ostiary_name_barred), ("ostiary/name.forms", laid_ostiary_name_forms)] }
def CredPlaysSaid : Prop := credPlaysRow.holds Tryz.pinned (OpenSpec.ofChange credPlaysSpec)

/-- ITS FALSE NEIGHBOUR: 'it returns false'. Refute it at one input. -/
def credPlaysWrong : ChangeSpec := { name := "credPlays", fn := fun _ => fun
  | [d1, d2] => { results := [.lit (.bool false)], args := [d1, d2] }
  | _ => none }
def CredPlaysWrongFalsely : Prop := credPlaysRow.holds Tryz.pinned (OpenSpec.ofChange credPlaysWrong)

/- THE SECOND FORM. 'bulk': how many values and letters a reading holds, each counted each time it is reached (what is shared counts as often as it is met; a slice's spare places count too). A statement '..UptoSaid' is the law's where the arguments, and the package variables that the reading takes, are together of bulk at most 1048576: NARROWER than '..Said'. Prove '..Said' where nothing that the law and all that it calls make is longer than what came in: it says more and counts as full. Else prove '..UptoSaid'. A law counts once. -/
mutual
def uptoBulk {H : Type} : DataW H → Nat
  | .lit (.string bytes) => bytes.length + 1
  | .lit _ => 1
  | .nil => 1
  | .ptr d => uptoBulk d + 1
  | .slice elems spare => uptoBulkAll elems + uptoBulkAll spare + 1
  | .agg parts => uptoBulkAll parts + 1
  | .iface _ d => uptoBulk d + 1
  | .map entries => uptoBulkEntries entries + 1
  | .held _ => 1
def uptoBulkAll {H : Type} : List (DataW H) → Nat
  | [] => 0
  | d :: r => uptoBulk d + uptoBulkAll r
def uptoBulkEntries {H : Type} : List (Lit × DataW H) → Nat
  | [] => 0
  | x :: r => uptoBulkEntry x + uptoBulkEntries r
def uptoBulkEntry {H : Type} : Lit × DataW H → Nat
  | (.string bytes, d) => bytes.length + uptoBulk d + 1
  | (_, d) => uptoBulk d + 1
 end
def uptoSmall : (H : Type) → List (DataW H) → Bool := fun _ ds => decide (uptoBulkAll ds ≤ 1048576)
def OpenSpec.upto (s : _root_.Go.ChangeSpec) : _root_.Go.OpenSpec := { _root_.Go.OpenSpec.ofChange s with cond := some uptoSmall }

/-- 'ostiarylaw14.CredGens', WHERE WHAT IT READS IS OF BULK AT MOST 1048576: true; the input reads as it did. -/
def credGensUptoRow : OpenClaim := { program := "ytkobpamlmfpidaagreatdoor", sum := "ba6c2bf0f5a84e1836757bdadd186663b3c6affac7442eee5916964f506e31b9", func := "ostiary/ostiarylaw14.CredGens", spec := "credGens", inPlace := ["slices.overlaps[string]"], unfollowed := true, recurses := true, named := ["ostiary/name.barred", "ostiary/name.forms", "ostiary/name.blanks", "ostiary/name.nothing"], apart := false, laid := [("ostiary/name.blanks", laid_ostiary_name_blanks), ("ostiary/name.nothing", laid_ostiary_name_nothing), ("ostiary/name.barred", laid_ostiary_name_barred), ("ostiary/name.forms", laid_ostiary_name_forms)], narrowed := true }
def CredGensUptoSaid : Prop := credGensUptoRow.holds Tryz.pinned (OpenSpec.upto credGensSpec)

/-- 'ostiarylaw14.CredPlays', WHERE WHAT IT READS IS OF BULK AT MOST 1048576: true; the input reads as it did. -/
def credPlaysUptoRow : OpenClaim := { program := "ytkobpamlmfpidaagreatdoor", sum := "ba6c2bf0f5a84e1836757bdadd186663b3c6affac7442eee5916964f506e31b9", func := "ostiary/ostiarylaw14.CredPlays", spec := "credPlays", inPlace := ["slices.overlaps[string]"], unfollowed := true, recurses := true, named := ["ostiary/name.barred", "ostiary/name.forms", "ostiary/name.blanks", "ostiary/name.nothing"], apart := false, laid := [("ostiary/name.blanks", laid_ostiary_name_blanks), ("ostiary/name.nothing", laid_ostiary_name_nothing), ("ostiary/name.barred", laid_ostiary_name_barred), ("ostiary/name.forms", laid_ostiary_name_forms)], narrowed := true }
def CredPlaysUptoSaid : Prop := credPlaysUptoRow.holds Tryz.pinned (OpenSpec.upto credPlaysSpec)

end Rows
end Go.Proofs.YtkobpamlmfpidaaGreatDoor
