/-
  NARROWER THAN 'FOR EVERY INPUT', by the rows' own cells (each row's printed sentence says how): CredGens: laid · CredPlays: laid · RingPlays: laid · KnowsKeys: laid · KnowsFinds: laid · KnowsNil: laid · KnowsMore: laid.
  DERIVED. THE GIVEN ROWS OF THIS SEAT. 7 by the template 'for every input the law returns true; each argument reads behind the call as it read before'; 0 by the template 'total and deterministic' (their statements: YtjlpcjpeljlbeaaGreatDoorTotals.lean).
  GIVEN WITH THE SEED: the statements are not yours to turn. If you find one false, say at which input.
  Laid BY PROGRAM, IN A SANDBOX (cutbox-rows.mjs): the forced cells as the released guide's own fill.sh prints them over the translation d6f9277a950223f6… (all of the seat's roots in one cut). By AI agents, Wed Nov 11 2026. No macro, syntax, notation, axiom, sorry.
-/
import Derived.Test.YtjlpcjpeljlbeaaGreatDoorChecked
import GoSem.Claim
import GoSem.ClaimJoined
import GoSem.ClaimMapViews
import Derived.JoinedTies
import Derived.KernelRfl
namespace Go.Proofs.YtjlpcjpeljlbeaaGreatDoor
/- THE CELL 'sum', in the pinned program and in every row, IS THE sha256 OF THE DUMP (.gsa) THAT YtjlpcjpeljlbeaaGreatDoorProg.lean LOADS. Nothing in Lean hashes anything: it is a label: what it is worth is what the hold of that sum in a sandbox is worth. -/
noncomputable def Tryz.pinned : Pinned := { name := "ytjlpcjpeljlbeaagreatdoor", sum := "d6f9277a950223f6a683aa15f66d32291e7983512e3b023a364d2e26d22e6869", checked := Tryz.checked }
namespace Rows
def none {H : Type} : Left H := { results := [], args := [] }

/- WHAT THE LISTED PACKAGE-LEVEL VARIABLES READ AS WHEN THE CALL BEGINS. Each datum BY PROGRAM (the guide's laid-datum.mjs) off the statement by which the dump's own 'gosem.cut.vars' lays the variable. In a bare row this is a premise. The card (YtjlpcjpeljlbeaaGreatDoorCards.lean) ties it to the program's text. -/
def laid_ostiary_name_blanks {H : Type} : DataW H := .agg [.agg [.lit (.int .i32 160), .lit (.int .i32 160)], .agg [.lit (.int .i32 5760), .lit (.int .i32 5760)], .agg [.lit (.int .i32 8192), .lit (.int .i32 8202)], .agg [.lit (.int .i32 8239), .lit (.int .i32 8239)], .agg [.lit (.int .i32 8287), .lit (.int .i32 8287)], .agg [.lit (.int .i32 12288), .lit (.int .i32 12288)]]
def laid_ostiary_name_nothing {H : Type} : DataW H := .agg [.agg [.lit (.int .i32 173), .lit (.int .i32 173)], .agg [.lit (.int .i32 8203), .lit (.int .i32 8205)], .agg [.lit (.int .i32 8288), .lit (.int .i32 8288)], .agg [.lit (.int .i32 65024), .lit (.int .i32 65039)], .agg [.lit (.int .i32 65279), .lit (.int .i32 65279)]]
def laid_ostiary_name_barred {H : Type} : DataW H := .agg [.agg [.lit (.int .i32 0), .lit (.int .i32 31)], .agg [.lit (.int .i32 127), .lit (.int .i32 159)], .agg [.lit (.int .i32 8232), .lit (.int .i32 8233)], .agg [.lit (.int .i32 8234), .lit (.int .i32 8238)], .agg [.lit (.int .i32 8294), .lit (.int .i32 8297)], .agg [.lit (.int .i32 57344), .lit (.int .i32 63743)], .agg [.lit (.int .i32 983040), .lit (.int .i32 1114111)], .agg [.lit (.int .i32 65529), .lit (.int .i32 65533)], .agg [.lit (.int .i32 64976), .lit (.int .i32 65007)]]
def laid_ostiary_name_forms {H : Type} : DataW H := .agg [.agg [.lit (.int .i64 1), .lit (.int .u8 128), .lit (.int .u8 0), .lit (.int .i32 0)], .agg [.lit (.int .i64 2), .lit (.int .u8 224), .lit (.int .u8 192), .lit (.int .i32 128)], .agg [.lit (.int .i64 3), .lit (.int .u8 240), .lit (.int .u8 224), .lit (.int .i32 2048)], .agg [.lit (.int .i64 4), .lit (.int .u8 248), .lit (.int .u8 240), .lit (.int .i32 65536)]]
def laid_math_bits_deBruijn32tab {H : Type} : DataW H := .agg [.lit (.int .u8 0), .lit (.int .u8 1), .lit (.int .u8 28), .lit (.int .u8 2), .lit (.int .u8 29), .lit (.int .u8 14), .lit (.int .u8 24), .lit (.int .u8 3), .lit (.int .u8 30), .lit (.int .u8 22), .lit (.int .u8 20), .lit (.int .u8 15), .lit (.int .u8 25), .lit (.int .u8 17), .lit (.int .u8 4), .lit (.int .u8 8), .lit (.int .u8 31), .lit (.int .u8 27), .lit (.int .u8 13), .lit (.int .u8 23), .lit (.int .u8 21), .lit (.int .u8 19), .lit (.int .u8 16), .lit (.int .u8 7), .lit (.int .u8 26), .lit (.int .u8 12), .lit (.int .u8 18), .lit (.int .u8 6), .lit (.int .u8 11), .lit (.int .u8 5), .lit (.int .u8 10), .lit (.int .u8 9)]
def laid_math_bits_deBruijn64tab {H : Type} : DataW H := .agg [.lit (.int .u8 0), .lit (.int .u8 1), .lit (.int .u8 56), .lit (.int .u8 2), .lit (.int .u8 57), .lit (.int .u8 49), .lit (.int .u8 28), .lit (.int .u8 3), .lit (.int .u8 61), .lit (.int .u8 58), .lit (.int .u8 42), .lit (.int .u8 50), .lit (.int .u8 38), .lit (.int .u8 29), .lit (.int .u8 17), .lit (.int .u8 4), .lit (.int .u8 62), .lit (.int .u8 47), .lit (.int .u8 59), .lit (.int .u8 36), .lit (.int .u8 45), .lit (.int .u8 43), .lit (.int .u8 51), .lit (.int .u8 22), .lit (.int .u8 53), .lit (.int .u8 39), .lit (.int .u8 33), .lit (.int .u8 30), .lit (.int .u8 24), .lit (.int .u8 18), .lit (.int .u8 12), .lit (.int .u8 5), .lit (.int .u8 63), .lit (.int .u8 55), .lit (.int .u8 48), .lit (.int .u8 27), .lit (.int .u8 60), .lit (.int .u8 41), .lit (.int .u8 37), .lit (.int .u8 16), .lit (.int .u8 46), .lit (.int .u8 35), .lit (.int .u8 44), .lit (.int .u8 21), .lit (.int .u8 52), .lit (.int .u8 32), .lit (.int .u8 23), .lit (.int .u8 11), .lit (.int .u8 54), .lit (.int .u8 26), .lit (.int .u8 40), .lit (.int .u8 15), .lit (.int .u8 34), .lit (.int .u8 20), .lit (.int .u8 31), .lit (.int .u8 10), .lit (.int .u8 25), .lit (.int .u8 14), .lit (.int .u8 19), .lit (.int .u8 9), .lit (.int .u8 13), .lit (.int .u8 8), .lit (.int .u8 7), .lit (.int .u8 6)]
def laid_internal_strconv_uint64pow10 {H : Type} : DataW H := .agg [.lit (.int .u64 1), .lit (.int .u64 10), .lit (.int .u64 100), .lit (.int .u64 1000), .lit (.int .u64 10000), .lit (.int .u64 100000), .lit (.int .u64 1000000), .lit (.int .u64 10000000), .lit (.int .u64 100000000), .lit (.int .u64 1000000000), .lit (.int .u64 10000000000), .lit (.int .u64 100000000000), .lit (.int .u64 1000000000000), .lit (.int .u64 10000000000000), .lit (.int .u64 100000000000000), .lit (.int .u64 1000000000000000), .lit (.int .u64 10000000000000000), .lit (.int .u64 100000000000000000), .lit (.int .u64 1000000000000000000), .lit (.int .u64 10000000000000000000)]
def laid_ostiary_ostiaryref01_words {H : Type} : DataW H := .agg [.lit (.int .u32 1116352408), .lit (.int .u32 1899447441), .lit (.int .u32 3049323471), .lit (.int .u32 3921009573), .lit (.int .u32 961987163), .lit (.int .u32 1508970993), .lit (.int .u32 2453635748), .lit (.int .u32 2870763221), .lit (.int .u32 3624381080), .lit (.int .u32 310598401), .lit (.int .u32 607225278), .lit (.int .u32 1426881987), .lit (.int .u32 1925078388), .lit (.int .u32 2162078206), .lit (.int .u32 2614888103), .lit (.int .u32 3248222580), .lit (.int .u32 3835390401), .lit (.int .u32 4022224774), .lit (.int .u32 264347078), .lit (.int .u32 604807628), .lit (.int .u32 770255983), .lit (.int .u32 1249150122), .lit (.int .u32 1555081692), .lit (.int .u32 1996064986), .lit (.int .u32 2554220882), .lit (.int .u32 2821834349), .lit (.int .u32 2952996808), .lit (.int .u32 3210313671), .lit (.int .u32 3336571891), .lit (.int .u32 3584528711), .lit (.int .u32 113926993), .lit (.int .u32 338241895), .lit (.int .u32 666307205), .lit (.int .u32 773529912), .lit (.int .u32 1294757372), .lit (.int .u32 1396182291), .lit (.int .u32 1695183700), .lit (.int .u32 1986661051), .lit (.int .u32 2177026350), .lit (.int .u32 2456956037), .lit (.int .u32 2730485921), .lit (.int .u32 2820302411), .lit (.int .u32 3259730800), .lit (.int .u32 3345764771), .lit (.int .u32 3516065817), .lit (.int .u32 3600352804), .lit (.int .u32 4094571909), .lit (.int .u32 275423344), .lit (.int .u32 430227734), .lit (.int .u32 506948616), .lit (.int .u32 659060556), .lit (.int .u32 883997877), .lit (.int .u32 958139571), .lit (.int .u32 1322822218), .lit (.int .u32 1537002063), .lit (.int .u32 1747873779), .lit (.int .u32 1955562222), .lit (.int .u32 2024104815), .lit (.int .u32 2227730452), .lit (.int .u32 2361852424), .lit (.int .u32 2428436474), .lit (.int .u32 2756734187), .lit (.int .u32 3204031479), .lit (.int .u32 3329325298)]
def laid_ostiary_sha_first {H : Type} : DataW H := .agg [.lit (.int .u32 1779033703), .lit (.int .u32 3144134277), .lit (.int .u32 1013904242), .lit (.int .u32 2773480762), .lit (.int .u32 1359893119), .lit (.int .u32 2600822924), .lit (.int .u32 528734635), .lit (.int .u32 1541459225)]
def laid_ostiary_sha_odd {H : Type} : DataW H := .agg [.lit (.int .u32 1116352408), .lit (.int .u32 1899447441), .lit (.int .u32 3049323471), .lit (.int .u32 3921009573), .lit (.int .u32 961987163), .lit (.int .u32 1508970993), .lit (.int .u32 2453635748), .lit (.int .u32 2870763221), .lit (.int .u32 3624381080), .lit (.int .u32 310598401), .lit (.int .u32 607225278), .lit (.int .u32 1426881987), .lit (.int .u32 1925078388), .lit (.int .u32 2162078206), .lit (.int .u32 2614888103), .lit (.int .u32 3248222580), .lit (.int .u32 3835390401), .lit (.int .u32 4022224774), .lit (.int .u32 264347078), .lit (.int .u32 604807628), .lit (.int .u32 770255983), .lit (.int .u32 1249150122), .lit (.int .u32 1555081692), .lit (.int .u32 1996064986), .lit (.int .u32 2554220882), .lit (.int .u32 2821834349), .lit (.int .u32 2952996808), .lit (.int .u32 3210313671), .lit (.int .u32 3336571891), .lit (.int .u32 3584528711), .lit (.int .u32 113926993), .lit (.int .u32 338241895), .lit (.int .u32 666307205), .lit (.int .u32 773529912), .lit (.int .u32 1294757372), .lit (.int .u32 1396182291), .lit (.int .u32 1695183700), .lit (.int .u32 1986661051), .lit (.int .u32 2177026350), .lit (.int .u32 2456956037), .lit (.int .u32 2730485921), .lit (.int .u32 2820302411), .lit (.int .u32 3259730800), .lit (.int .u32 3345764771), .lit (.int .u32 3516065817), .lit (.int .u32 3600352804), .lit (.int .u32 4094571909), .lit (.int .u32 275423344), .lit (.int .u32 430227734), .lit (.int .u32 506948616), .lit (.int .u32 659060556), .lit (.int .u32 883997877), .lit (.int .u32 958139571), .lit (.int .u32 1322822218), .lit (.int .u32 1537002063), .lit (.int .u32 1747873779), .lit (.int .u32 1955562222), .lit (.int .u32 2024104815), .lit (.int .u32 2227730452), .lit (.int .u32 2361852424), .lit (.int .u32 2428436474), .lit (.int .u32 2756734187), .lit (.int .u32 3204031479), .lit (.int .u32 3329325298)]

/-- 'ostiarylaw14.CredGens': WHATEVER THE INPUT: true; the input reads as it did. -/
def credGensSpec : ChangeSpec := { name := "credGens", fn := fun _ => fun
  | [d] => { results := [.lit (.bool true)], args := [d] }
  | _ => none }
def credGensRow : OpenClaim := { program := "ytjlpcjpeljlbeaagreatdoor", sum := "d6f9277a950223f6a683aa15f66d32291e7983512e3b023a364d2e26d22e6869", func := "ostiary/ostiarylaw14.CredGens", spec := "credGens", inPlace := ["slices.overlaps[string]"], unfollowed := true, recurses := true, named := ["ostiary/name.barred", "ostiary/name.forms", "ostiary/name.blanks", "ostiary/name.nothing"], apart := false, laid := [("ostiary/name.blanks", laid_ostiary_name_blanks), ("ostiary/name.nothing", laid_ostiary_name_nothing), ("ostiary/name.barred", laid_ostiary_name_barred), ("ostiary/name.forms", laid_ostiary_name_forms)] }
def CredGensSaid : Prop := credGensRow.holds Tryz.pinned (OpenSpec.ofChange credGensSpec)

/-- ITS FALSE NEIGHBOUR: 'it returns false'. Refute it at one input. -/
def credGensWrong : ChangeSpec := { name := "credGens", fn := fun _ => fun
  | [d] => { results := [.lit (.bool false)], args := [d] }
  | _ => none }
def CredGensWrongFalsely : Prop := credGensRow.holds Tryz.pinned (OpenSpec.ofChange credGensWrong)

/-- 'ostiarylaw14.CredPlays': WHATEVER THE INPUT: true; the input reads as it did. -/
def credPlaysSpec : ChangeSpec := { name := "credPlays", fn := fun _ => fun
  | [d1, d2] => { results := [.lit (.bool true)], args := [d1, d2] }
  | _ => none }
def credPlaysRow : OpenClaim := { program := "ytjlpcjpeljlbeaagreatdoor", sum := "d6f9277a950223f6a683aa15f66d32291e7983512e3b023a364d2e26d22e6869", func := "ostiary/ostiarylaw14.CredPlays", spec := "credPlays", inPlace := ["slices.overlaps[string]"], unfollowed := true, recurses := true, named := ["ostiary/name.barred", "ostiary/name.forms", "ostiary/name.blanks", "ostiary/name.nothing"], apart := false, laid := [("ostiary/name.blanks", laid_ostiary_name_blanks), ("ostiary/name.nothing", laid_ostiary_name_nothing), ("ostiary/name.barred", laid_ostiary_name_barred), ("ostiary/name.forms", laid_ostiary_name_forms)] }
def CredPlaysSaid : Prop := credPlaysRow.holds Tryz.pinned (OpenSpec.ofChange credPlaysSpec)

/-- ITS FALSE NEIGHBOUR: 'it returns false'. Refute it at one input. -/
def credPlaysWrong : ChangeSpec := { name := "credPlays", fn := fun _ => fun
  | [d1, d2] => { results := [.lit (.bool false)], args := [d1, d2] }
  | _ => none }
def CredPlaysWrongFalsely : Prop := credPlaysRow.holds Tryz.pinned (OpenSpec.ofChange credPlaysWrong)

/-- 'ostiarylaw17.RingPlays': WHATEVER THE INPUT: true; the input reads as it did. -/
def ringPlaysSpec : ChangeSpec := { name := "ringPlays", fn := fun _ => fun
  | [d1, d2, d3, d4] => { results := [.lit (.bool true)], args := [d1, d2, d3, d4] }
  | _ => none }
def ringPlaysRow : OpenClaim := { program := "ytjlpcjpeljlbeaagreatdoor", sum := "d6f9277a950223f6a683aa15f66d32291e7983512e3b023a364d2e26d22e6869", func := "ostiary/ostiarylaw17.RingPlays", spec := "ringPlays", inPlace := ["internal/bytealg.MakeNoZero"], unfollowed := true, recurses := true, named := ["internal/strconv.uint64pow10", "math/bits.deBruijn32tab", "math/bits.deBruijn64tab", "ostiary/sha.first", "ostiary/sha.odd", "ostiary/ostiaryref01.words"], apart := false, laid := [("math/bits.deBruijn32tab", laid_math_bits_deBruijn32tab), ("math/bits.deBruijn64tab", laid_math_bits_deBruijn64tab), ("internal/strconv.uint64pow10", laid_internal_strconv_uint64pow10), ("ostiary/ostiaryref01.words", laid_ostiary_ostiaryref01_words), ("ostiary/sha.first", laid_ostiary_sha_first), ("ostiary/sha.odd", laid_ostiary_sha_odd)] }
def RingPlaysSaid : Prop := ringPlaysRow.holds Tryz.pinned (OpenSpec.ofChange ringPlaysSpec)

/-- ITS FALSE NEIGHBOUR: 'it returns false'. Refute it at one input. -/
def ringPlaysWrong : ChangeSpec := { name := "ringPlays", fn := fun _ => fun
  | [d1, d2, d3, d4] => { results := [.lit (.bool false)], args := [d1, d2, d3, d4] }
  | _ => none }
def RingPlaysWrongFalsely : Prop := ringPlaysRow.holds Tryz.pinned (OpenSpec.ofChange ringPlaysWrong)

/-- 'ostiarylaw28.KnowsKeys': WHATEVER THE INPUT: true; the input reads as it did. -/
def knowsKeysSpec : ChangeSpec := { name := "knowsKeys", fn := fun _ => fun
  | [d1, d2, d3, d4] => { results := [.lit (.bool true)], args := [d1, d2, d3, d4] }
  | _ => none }
def knowsKeysRow : OpenClaim := { program := "ytjlpcjpeljlbeaagreatdoor", sum := "d6f9277a950223f6a683aa15f66d32291e7983512e3b023a364d2e26d22e6869", func := "ostiary/ostiarylaw28.KnowsKeys", spec := "knowsKeys", inPlace := ["internal/bytealg.MakeNoZero", "internal/bytealg.IndexByteString", "internal/abi.NoEscape", "internal/bytealg.IndexByte", "internal/bytealg.Index"], unfollowed := true, recurses := true, named := ["ostiary/sha.first", "ostiary/sha.odd", "internal/bytealg.MaxLen"], apart := false, laid := [("ostiary/sha.first", laid_ostiary_sha_first), ("ostiary/sha.odd", laid_ostiary_sha_odd)] }
def KnowsKeysSaid : Prop := knowsKeysRow.holds Tryz.pinned (OpenSpec.ofChange knowsKeysSpec)

/-- ITS FALSE NEIGHBOUR: 'it returns false'. Refute it at one input. -/
def knowsKeysWrong : ChangeSpec := { name := "knowsKeys", fn := fun _ => fun
  | [d1, d2, d3, d4] => { results := [.lit (.bool false)], args := [d1, d2, d3, d4] }
  | _ => none }
def KnowsKeysWrongFalsely : Prop := knowsKeysRow.holds Tryz.pinned (OpenSpec.ofChange knowsKeysWrong)

/-- 'ostiarylaw28.KnowsFinds': WHATEVER THE INPUT: true; the input reads as it did. -/
def knowsFindsSpec : ChangeSpec := { name := "knowsFinds", fn := fun _ => fun
  | [d1, d2, d3, d4, d5] => { results := [.lit (.bool true)], args := [d1, d2, d3, d4, d5] }
  | _ => none }
def knowsFindsRow : OpenClaim := { program := "ytjlpcjpeljlbeaagreatdoor", sum := "d6f9277a950223f6a683aa15f66d32291e7983512e3b023a364d2e26d22e6869", func := "ostiary/ostiarylaw28.KnowsFinds", spec := "knowsFinds", inPlace := ["internal/bytealg.MakeNoZero", "internal/bytealg.IndexByteString", "internal/abi.NoEscape", "internal/bytealg.IndexByte", "internal/bytealg.Index"], unfollowed := true, recurses := true, named := ["ostiary/sha.first", "ostiary/sha.odd", "internal/bytealg.MaxLen"], apart := false, laid := [("ostiary/sha.first", laid_ostiary_sha_first), ("ostiary/sha.odd", laid_ostiary_sha_odd)] }
def KnowsFindsSaid : Prop := knowsFindsRow.holds Tryz.pinned (OpenSpec.ofChange knowsFindsSpec)

/-- ITS FALSE NEIGHBOUR: 'it returns false'. Refute it at one input. -/
def knowsFindsWrong : ChangeSpec := { name := "knowsFinds", fn := fun _ => fun
  | [d1, d2, d3, d4, d5] => { results := [.lit (.bool false)], args := [d1, d2, d3, d4, d5] }
  | _ => none }
def KnowsFindsWrongFalsely : Prop := knowsFindsRow.holds Tryz.pinned (OpenSpec.ofChange knowsFindsWrong)

/-- 'ostiarylaw28.KnowsNil': WHATEVER THE INPUT: true; the input reads as it did. -/
def knowsNilSpec : ChangeSpec := { name := "knowsNil", fn := fun _ => fun
  | [d] => { results := [.lit (.bool true)], args := [d] }
  | _ => none }
def knowsNilRow : OpenClaim := { program := "ytjlpcjpeljlbeaagreatdoor", sum := "d6f9277a950223f6a683aa15f66d32291e7983512e3b023a364d2e26d22e6869", func := "ostiary/ostiarylaw28.KnowsNil", spec := "knowsNil", inPlace := ["internal/bytealg.MakeNoZero", "internal/bytealg.IndexByteString", "internal/abi.NoEscape", "internal/bytealg.IndexByte", "internal/bytealg.Index"], unfollowed := true, recurses := true, named := ["ostiary/sha.first", "ostiary/sha.odd", "internal/bytealg.MaxLen"], apart := false, laid := [("ostiary/sha.first", laid_ostiary_sha_first), ("ostiary/sha.odd", laid_ostiary_sha_odd)] }
def KnowsNilSaid : Prop := knowsNilRow.holds Tryz.pinned (OpenSpec.ofChange knowsNilSpec)

/-- ITS FALSE NEIGHBOUR: 'it returns false'. Refute it at one input. -/
def knowsNilWrong : ChangeSpec := { name := "knowsNil", fn := fun _ => fun
  | [d] => { results := [.lit (.bool false)], args := [d] }
  | _ => none }
def KnowsNilWrongFalsely : Prop := knowsNilRow.holds Tryz.pinned (OpenSpec.ofChange knowsNilWrong)

/-- 'ostiarylaw28.KnowsMore': WHATEVER THE INPUT: true; the input reads as it did. -/
def knowsMoreSpec : ChangeSpec := { name := "knowsMore", fn := fun _ => fun
  | [d1, d2, d3, d4] => { results := [.lit (.bool true)], args := [d1, d2, d3, d4] }
  | _ => none }
def knowsMoreRow : OpenClaim := { program := "ytjlpcjpeljlbeaagreatdoor", sum := "d6f9277a950223f6a683aa15f66d32291e7983512e3b023a364d2e26d22e6869", func := "ostiary/ostiarylaw28.KnowsMore", spec := "knowsMore", inPlace := ["internal/bytealg.MakeNoZero", "internal/bytealg.IndexByteString", "internal/abi.NoEscape", "internal/bytealg.IndexByte", "internal/bytealg.Index"], unfollowed := true, recurses := true, named := ["ostiary/sha.first", "ostiary/sha.odd", "internal/bytealg.MaxLen", "ostiary/ostiaryref01.words"], apart := false, laid := [("ostiary/ostiaryref01.words", laid_ostiary_ostiaryref01_words), ("ostiary/sha.first", laid_ostiary_sha_first), ("ostiary/sha.odd", laid_ostiary_sha_odd)] }
def KnowsMoreSaid : Prop := knowsMoreRow.holds Tryz.pinned (OpenSpec.ofChange knowsMoreSpec)

/-- ITS FALSE NEIGHBOUR: 'it returns false'. Refute it at one input. -/
def knowsMoreWrong : ChangeSpec := { name := "knowsMore", fn := fun _ => fun
  | [d1, d2, d3, d4] => { results := [.lit (.bool false)], args := [d1, d2, d3, d4] }
  | _ => none }
def KnowsMoreWrongFalsely : Prop := knowsMoreRow.holds Tryz.pinned (OpenSpec.ofChange knowsMoreWrong)

/- THE SECOND FORM. 'bulk': how many values and letters a reading holds, each counted each time it is reached (what is shared counts as often as it is met; a slice's spare places count too). A statement '..UptoSaid' is the law's where the arguments, and the package variables that the reading takes, are together of bulk at most 1048576: NARROWER than '..Said'. Prove '..Said' where nothing that the law and all that it calls make is longer than what came in: it says more and counts as full. Else prove '..UptoSaid'. A law counts once. -/
mutual
def uptoBulk {H : Type} : DataW H → Nat
  | .lit (.string bytes) => bytes.length + 1
  | .lit _ => 1
  | .nil => 1
  | .ptr d => uptoBulk d + 1
  | .slice elems spare => uptoBulkAll elems + uptoBulkAll spare + 1
  | .agg parts => uptoBulkAll parts + 1
  | .iface _ d => uptoBulk d + 1
  | .map entries => uptoBulkEntries entries + 1
  | .held _ => 1
def uptoBulkAll {H : Type} : List (DataW H) → Nat
  | [] => 0
  | d :: r => uptoBulk d + uptoBulkAll r
def uptoBulkEntries {H : Type} : List (Lit × DataW H) → Nat
  | [] => 0
  | x :: r => uptoBulkEntry x + uptoBulkEntries r
def uptoBulkEntry {H : Type} : Lit × DataW H → Nat
  | (.string bytes, d) => bytes.length + uptoBulk d + 1
  | (_, d) => uptoBulk d + 1
 end
def uptoSmall : (H : Type) → List (DataW H) → Bool := fun _ ds => decide (uptoBulkAll ds ≤ 1048576)
def OpenSpec.upto (s : _root_.Go.ChangeSpec) : _root_.Go.OpenSpec := { _root_.Go.OpenSpec.ofChange s with cond := some uptoSmall }

/-- 'ostiarylaw14.CredGens', WHERE WHAT IT READS IS OF BULK AT MOST 1048576: true; the input reads as it did. -/
def credGensUptoRow : OpenClaim := { program := "ytjlpcjpeljlbeaagreatdoor", sum := "d6f9277a950223f6a683aa15f66d32291e7983512e3b023a364d2e26d22e6869", func := "ostiary/ostiarylaw14.CredGens", spec := "credGens", inPlace := ["slices.overlaps[string]"], unfollowed := true, recurses := true, named := ["ostiary/name.barred", "ostiary/name.forms", "ostiary/name.blanks", "ostiary/name.nothing"], apart := false, laid := [("ostiary/name.blanks", laid_ostiary_name_blanks), ("ostiary/name.nothing", laid_ostiary_name_nothing), ("ostiary/name.barred", laid_ostiary_name_barred), ("ostiary/name.forms", laid_ostiary_name_forms)], narrowed := true }
def CredGensUptoSaid : Prop := credGensUptoRow.holds Tryz.pinned (OpenSpec.upto credGensSpec)

/-- 'ostiarylaw14.CredPlays', WHERE WHAT IT READS IS OF BULK AT MOST 1048576: true; the input reads as it did. -/
def credPlaysUptoRow : OpenClaim := { program := "ytjlpcjpeljlbeaagreatdoor", sum := "d6f9277a950223f6a683aa15f66d32291e7983512e3b023a364d2e26d22e6869", func := "ostiary/ostiarylaw14.CredPlays", spec := "credPlays", inPlace := ["slices.overlaps[string]"], unfollowed := true, recurses := true, named := ["ostiary/name.barred", "ostiary/name.forms", "ostiary/name.blanks", "ostiary/name.nothing"], apart := false, laid := [("ostiary/name.blanks", laid_ostiary_name_blanks), ("ostiary/name.nothing", laid_ostiary_name_nothing), ("ostiary/name.barred", laid_ostiary_name_barred), ("ostiary/name.forms", laid_ostiary_name_forms)], narrowed := true }
def CredPlaysUptoSaid : Prop := credPlaysUptoRow.holds Tryz.pinned (OpenSpec.upto credPlaysSpec)

/-- 'ostiarylaw17.RingPlays', WHERE WHAT IT READS IS OF BULK AT MOST 1048576: true; the input reads as it did. -/
def ringPlaysUptoRow : OpenClaim := { program := "ytjlpcjpeljlbeaagreatdoor", sum := "d6f9277a950223f6a683aa15f66d32291e7983512e3b023a364d2e26d22e6869", func := "ostiary/ostiarylaw17.RingPlays", spec := "ringPlays", inPlace := ["internal/bytealg.MakeNoZero"], unfollowed := true, recurses := true, named := ["internal/strconv.uint64pow10", "math/bits.deBruijn32tab", "math/bits.deBruijn64tab", "ostiary/sha.first", "ostiary/sha.odd", "ostiary/ostiaryref01.words"], apart := false, laid := [("math/bits.deBruijn32tab", laid_math_bits_deBruijn32tab), ("math/bits.deBruijn64tab", laid_math_bits_deBruijn64tab), ("internal/strconv.uint64pow10", laid_internal_strconv_uint64pow10), ("ostiary/ostiaryref01.words", laid_ostiary_ostiaryref01_words), ("ostiary/sha.first", laid_ostiary_sha_first), ("ostiary/sha.odd", laid_ostiary_sha_odd)], narrowed := true }
def RingPlaysUptoSaid : Prop := ringPlaysUptoRow.holds Tryz.pinned (OpenSpec.upto ringPlaysSpec)

/-- 'ostiarylaw28.KnowsKeys', WHERE WHAT IT READS IS OF BULK AT MOST 1048576: true; the input reads as it did. -/
def knowsKeysUptoRow : OpenClaim := { program := "ytjlpcjpeljlbeaagreatdoor", sum := "d6f9277a950223f6a683aa15f66d32291e7983512e3b023a364d2e26d22e6869", func := "ostiary/ostiarylaw28.KnowsKeys", spec := "knowsKeys", inPlace := ["internal/bytealg.MakeNoZero", "internal/bytealg.IndexByteString", "internal/abi.NoEscape", "internal/bytealg.IndexByte", "internal/bytealg.Index"], unfollowed := true, recurses := true, named := ["ostiary/sha.first", "ostiary/sha.odd", "internal/bytealg.MaxLen"], apart := false, laid := [("ostiary/sha.first", laid_ostiary_sha_first), ("ostiary/sha.odd", laid_ostiary_sha_odd)], narrowed := true }
def KnowsKeysUptoSaid : Prop := knowsKeysUptoRow.holds Tryz.pinned (OpenSpec.upto knowsKeysSpec)

/-- 'ostiarylaw28.KnowsFinds', WHERE WHAT IT READS IS OF BULK AT MOST 1048576: true; the input reads as it did. -/
def knowsFindsUptoRow : OpenClaim := { program := "ytjlpcjpeljlbeaagreatdoor", sum := "d6f9277a950223f6a683aa15f66d32291e7983512e3b023a364d2e26d22e6869", func := "ostiary/ostiarylaw28.KnowsFinds", spec := "knowsFinds", inPlace := ["internal/bytealg.MakeNoZero", "internal/bytealg.IndexByteString", "internal/abi.NoEscape", "internal/bytealg.IndexByte", "internal/bytealg.Index"], unfollowed := true, recurses := true, named := ["ostiary/sha.first", "ostiary/sha.odd", "internal/bytealg.MaxLen"], apart := false, laid := [("ostiary/sha.first", laid_ostiary_sha_first), ("ostiary/sha.odd", laid_ostiary_sha_odd)], narrowed := true }
def KnowsFindsUptoSaid : Prop := knowsFindsUptoRow.holds Tryz.pinned (OpenSpec.upto knowsFindsSpec)

/-- 'ostiarylaw28.KnowsNil', WHERE WHAT IT READS IS OF BULK AT MOST 1048576: true; the input reads as it did. -/
def knowsNilUptoRow : OpenClaim := { program := "ytjlpcjpeljlbeaagreatdoor", sum := "d6f9277a950223f6a683aa15f66d32291e7983512e3b023a364d2e26d22e6869", func := "ostiary/ostiarylaw28.KnowsNil", spec := "knowsNil", inPlace := ["internal/bytealg.MakeNoZero", "internal/bytealg.IndexByteString", "internal/abi.NoEscape", "internal/bytealg.IndexByte", "internal/bytealg.Index"], unfollowed := true, recurses := true, named := ["ostiary/sha.first", "ostiary/sha.odd", "internal/bytealg.MaxLen"], apart := false, laid := [("ostiary/sha.first", laid_ostiary_sha_first), ("ostiary/sha.odd", laid_ostiary_sha_odd)], narrowed := true }
def KnowsNilUptoSaid : Prop := knowsNilUptoRow.holds Tryz.pinned (OpenSpec.upto knowsNilSpec)

/-- 'ostiarylaw28.KnowsMore', WHERE WHAT IT READS IS OF BULK AT MOST 1048576: true; the input reads as it did. -/
def knowsMoreUptoRow : OpenClaim := { program := "ytjlpcjpeljlbeaagreatdoor", sum := "d6f9277a950223f6a683aa15f66d32291e7983512e3b023a364d2e26d22e6869", func := "ostiary/ostiarylaw28.KnowsMore", spec := "knowsMore", inPlace := ["internal/bytealg.MakeNoZero", "internal/bytealg.IndexByteString", "internal/abi.NoEscape", "internal/bytealg.IndexByte", "internal/bytealg.Index"], unfollowed := true, recurses := true, named := ["ostiary/sha.first", "ostiary/sha.odd", "internal/bytealg.MaxLen", "ostiary/ostiaryref01.words"], apart := false, laid := [("ostiary/ostiaryref01.words", laid_ostiary_ostiaryref01_words), ("ostiary/sha.first", laid_ostiary_sha_first), ("ostiary/sha.odd", laid_ostiary_sha_odd)], narrowed := true }
def KnowsMoreUptoSaid : Prop := knowsMoreUptoRow.holds Tryz.pinned (OpenSpec.upto knowsMoreSpec)

end Rows
end Go.Proofs.YtjlpcjpeljlbeaaGreatDoor
