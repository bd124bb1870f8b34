/- Texts joined: Tab, R1, Be, Shelf, Bld. -/
import Derived.Test.YthkjfepbmnabkaaDoorMCF2
import Derived.Test.YthkjfepbmnabkaaDoorProg
import Derived.Shelf.Strings.Builder1
import Derived.Shelf.Strings.Builder2
import Derived.Shelf.Strings.OnBuilder
import Derived.Shelf.Small.Wraps
import Derived.Shelf.Sort.Plain
import Derived.Shelf.Slices.Turned
import Derived.Ground.Names2Prog
import Derived.Shelf.Slices.ReverseS
import Derived.Shelf.Slices.Clone
import Derived.Shelf.Slices.SearchI
import Derived.Shelf.Slices.Cells
import Derived.Shelf.Bytes.SlSearch0
import Derived.Ground.SlbCloneProg
import Derived.Shelf.Bytes.SlClone
import Derived.Ground.SlbNamesProg
import Derived.Shelf.Bytes.SlJoin
import Derived.Ground.SlgnProg
import Derived.Shelf.SlicesE.Clone
import Derived.Shelf.Bytes.SlEqualAll
import Derived.Shelf.Bytes.Small
set_option linter.unusedVariables false
set_option linter.unusedSimpArgs false
/- Printed by sxgen.py: the types of this translation, and for each function its context for the executor. -/
namespace Go.Proofs.YthkjfepbmnabkaaDoor.Sx
open Go
noncomputable def ti3 : TI := { desc := .int .i64, agg := false, size := 1, bytes := 8, zero := [.int .i64 0], fields := [], ftys := [] }
theorem ok3 : TiOk Tryd.prog 3 ti3 := ⟨by kernel_rfl, by kernel_rfl, rfl, by kernel_rfl, by kernel_rfl, by kernel_rfl⟩
noncomputable def ti4 : TI := { desc := .bool, agg := false, size := 1, bytes := 1, zero := [.bool false], fields := [], ftys := [] }
theorem ok4 : TiOk Tryd.prog 4 ti4 := ⟨by kernel_rfl, by kernel_rfl, rfl, by kernel_rfl, by kernel_rfl, by kernel_rfl⟩
noncomputable def ti5 : TI := { desc := .int .u8, agg := false, size := 1, bytes := 1, zero := [.int .u8 0], fields := [], ftys := [] }
theorem ok5 : TiOk Tryd.prog 5 ti5 := ⟨by kernel_rfl, by kernel_rfl, rfl, by kernel_rfl, by kernel_rfl, by kernel_rfl⟩
noncomputable def ti9 : TI := { desc := .string, agg := false, size := 1, bytes := 16, zero := [.string ByteArray.empty], fields := [], ftys := [] }
theorem ok9 : TiOk Tryd.prog 9 ti9 := ⟨by kernel_rfl, by kernel_rfl, rfl, by kernel_rfl, by kernel_rfl, by kernel_rfl⟩
noncomputable def ti21 : TI := { desc := .int .i32, agg := false, size := 1, bytes := 4, zero := [.int .i32 0], fields := [], ftys := [] }
theorem ok21 : TiOk Tryd.prog 21 ti21 := ⟨by kernel_rfl, by kernel_rfl, rfl, by kernel_rfl, by kernel_rfl, by kernel_rfl⟩
noncomputable def ti24 : TI := { desc := .pointer 77, agg := false, size := 1, bytes := 8, zero := [.pointer none], fields := [], ftys := [] }
theorem ok24 : TiOk Tryd.prog 24 ti24 := ⟨by kernel_rfl, by kernel_rfl, rfl, by kernel_rfl, by kernel_rfl, by kernel_rfl⟩
noncomputable def ti26 : TI := { desc := .slice 5, agg := false, size := 1, bytes := 24, zero := [.slice none 0 0], fields := [], ftys := [] }
theorem ok26 : TiOk Tryd.prog 26 ti26 := ⟨by kernel_rfl, by kernel_rfl, rfl, by kernel_rfl, by kernel_rfl, by kernel_rfl⟩
noncomputable def ti28 : TI := { desc := .struct, agg := true, size := 5, bytes := 104, zero := [.slice none 0 0, .int .i64 0, .slice none 0 0, .slice none 0 0, .slice none 0 0], fields := [(0, 1), (1, 1), (2, 1), (3, 1), (4, 1)], ftys := [26, 3, 26, 26, 26] }
theorem ok28 : TiOk Tryd.prog 28 ti28 := ⟨by kernel_rfl, by kernel_rfl, rfl, by kernel_rfl, by kernel_rfl, by kernel_rfl⟩
noncomputable def ti29 : TI := { desc := .struct, agg := true, size := 5, bytes := 104, zero := [.slice none 0 0, .int .i64 0, .slice none 0 0, .slice none 0 0, .slice none 0 0], fields := [(0, 1), (1, 1), (2, 1), (3, 1), (4, 1)], ftys := [26, 3, 26, 26, 26] }
theorem ok29 : TiOk Tryd.prog 29 ti29 := ⟨by kernel_rfl, by kernel_rfl, rfl, by kernel_rfl, by kernel_rfl, by kernel_rfl⟩
noncomputable def ti38 : TI := { desc := .pointer 86, agg := false, size := 1, bytes := 8, zero := [.pointer none], fields := [], ftys := [] }
theorem ok38 : TiOk Tryd.prog 38 ti38 := ⟨by kernel_rfl, by kernel_rfl, rfl, by kernel_rfl, by kernel_rfl, by kernel_rfl⟩
noncomputable def ti40 : TI := { desc := .int .i64, agg := false, size := 1, bytes := 8, zero := [.int .i64 0], fields := [], ftys := [] }
theorem ok40 : TiOk Tryd.prog 40 ti40 := ⟨by kernel_rfl, by kernel_rfl, rfl, by kernel_rfl, by kernel_rfl, by kernel_rfl⟩
noncomputable def ti44 : TI := { desc := .int .u64, agg := false, size := 1, bytes := 8, zero := [.int .u64 0], fields := [], ftys := [] }
theorem ok44 : TiOk Tryd.prog 44 ti44 := ⟨by kernel_rfl, by kernel_rfl, rfl, by kernel_rfl, by kernel_rfl, by kernel_rfl⟩
noncomputable def ti45 : TI := { desc := .slice 9, agg := false, size := 1, bytes := 24, zero := [.slice none 0 0], fields := [], ftys := [] }
theorem ok45 : TiOk Tryd.prog 45 ti45 := ⟨by kernel_rfl, by kernel_rfl, rfl, by kernel_rfl, by kernel_rfl, by kernel_rfl⟩
noncomputable def ti47 : TI := { desc := .struct, agg := true, size := 10, bytes := 176, zero := [.string ByteArray.empty, .string ByteArray.empty, .slice none 0 0, .int .i64 0, .slice none 0 0, .slice none 0 0, .slice none 0 0, .int .u64 0, .slice none 0 0, .bool false], fields := [(0, 1), (1, 1), (2, 5), (7, 1), (8, 1), (9, 1)], ftys := [9, 9, 29, 44, 45, 4] }
theorem ok47 : TiOk Tryd.prog 47 ti47 := ⟨by kernel_rfl, by kernel_rfl, rfl, by kernel_rfl, by kernel_rfl, by kernel_rfl⟩
noncomputable def ti53 : TI := { desc := .int .u32, agg := false, size := 1, bytes := 4, zero := [.int .u32 0], fields := [], ftys := [] }
theorem ok53 : TiOk Tryd.prog 53 ti53 := ⟨by kernel_rfl, by kernel_rfl, rfl, by kernel_rfl, by kernel_rfl, by kernel_rfl⟩
noncomputable def ti59 : TI := { desc := .slice 102, agg := false, size := 1, bytes := 24, zero := [.slice none 0 0], fields := [], ftys := [] }
theorem ok59 : TiOk Tryd.prog 59 ti59 := ⟨by kernel_rfl, by kernel_rfl, rfl, by kernel_rfl, by kernel_rfl, by kernel_rfl⟩
noncomputable def ti67 : TI := { desc := .slice 119, agg := false, size := 1, bytes := 24, zero := [.slice none 0 0], fields := [], ftys := [] }
theorem ok67 : TiOk Tryd.prog 67 ti67 := ⟨by kernel_rfl, by kernel_rfl, rfl, by kernel_rfl, by kernel_rfl, by kernel_rfl⟩
noncomputable def ti71 : TI := { desc := .struct, agg := true, size := 8, bytes := 128, zero := [.string ByteArray.empty, .string ByteArray.empty, .string ByteArray.empty, .string ByteArray.empty, .string ByteArray.empty, .string ByteArray.empty, .int .u32 0, .slice none 0 0], fields := [(0, 1), (1, 1), (2, 1), (3, 1), (4, 1), (5, 1), (6, 1), (7, 1)], ftys := [9, 9, 9, 9, 9, 9, 53, 26] }
theorem ok71 : TiOk Tryd.prog 71 ti71 := ⟨by kernel_rfl, by kernel_rfl, rfl, by kernel_rfl, by kernel_rfl, by kernel_rfl⟩
noncomputable def ti74 : TI := { desc := .map 9 3, agg := false, size := 1, bytes := 8, zero := [.map none], fields := [], ftys := [] }
theorem ok74 : TiOk Tryd.prog 74 ti74 := ⟨by kernel_rfl, by kernel_rfl, rfl, by kernel_rfl, by kernel_rfl, by kernel_rfl⟩
noncomputable def ti75 : TI := { desc := .slice 150, agg := false, size := 1, bytes := 24, zero := [.slice none 0 0], fields := [], ftys := [] }
theorem ok75 : TiOk Tryd.prog 75 ti75 := ⟨by kernel_rfl, by kernel_rfl, rfl, by kernel_rfl, by kernel_rfl, by kernel_rfl⟩
noncomputable def ti77 : TI := { desc := .struct, agg := true, size := 4, bytes := 40, zero := [.bool false, .bool false, .slice none 0 0, .map none], fields := [(0, 1), (1, 1), (2, 1), (3, 1)], ftys := [4, 4, 75, 74] }
theorem ok77 : TiOk Tryd.prog 77 ti77 := ⟨by kernel_rfl, by kernel_rfl, rfl, by kernel_rfl, by kernel_rfl, by kernel_rfl⟩
noncomputable def ti84 : TI := { desc := .map 9 88, agg := false, size := 1, bytes := 8, zero := [.map none], fields := [], ftys := [] }
theorem ok84 : TiOk Tryd.prog 84 ti84 := ⟨by kernel_rfl, by kernel_rfl, rfl, by kernel_rfl, by kernel_rfl, by kernel_rfl⟩
noncomputable def ti86 : TI := { desc := .struct, agg := true, size := 3, bytes := 24, zero := [.map none, .int .u64 0, .int .u64 0], fields := [(0, 1), (1, 1), (2, 1)], ftys := [84, 44, 44] }
theorem ok86 : TiOk Tryd.prog 86 ti86 := ⟨by kernel_rfl, by kernel_rfl, rfl, by kernel_rfl, by kernel_rfl, by kernel_rfl⟩
noncomputable def ti88 : TI := { desc := .map 9 92, agg := false, size := 1, bytes := 8, zero := [.map none], fields := [], ftys := [] }
theorem ok88 : TiOk Tryd.prog 88 ti88 := ⟨by kernel_rfl, by kernel_rfl, rfl, by kernel_rfl, by kernel_rfl, by kernel_rfl⟩
noncomputable def ti92 : TI := { desc := .pointer 47, agg := false, size := 1, bytes := 8, zero := [.pointer none], fields := [], ftys := [] }
theorem ok92 : TiOk Tryd.prog 92 ti92 := ⟨by kernel_rfl, by kernel_rfl, rfl, by kernel_rfl, by kernel_rfl, by kernel_rfl⟩
noncomputable def ti99 : TI := { desc := .int .u64, agg := false, size := 1, bytes := 8, zero := [.int .u64 0], fields := [], ftys := [] }
theorem ok99 : TiOk Tryd.prog 99 ti99 := ⟨by kernel_rfl, by kernel_rfl, rfl, by kernel_rfl, by kernel_rfl, by kernel_rfl⟩
noncomputable def ti102 : TI := { desc := .struct, agg := true, size := 2, bytes := 16, zero := [.int .i64 0, .int .i64 0], fields := [(0, 1), (1, 1)], ftys := [3, 3] }
theorem ok102 : TiOk Tryd.prog 102 ti102 := ⟨by kernel_rfl, by kernel_rfl, rfl, by kernel_rfl, by kernel_rfl, by kernel_rfl⟩
noncomputable def ti111 : TI := { desc := .other, agg := false, size := 1, bytes := 8, zero := [.nilFunc], fields := [], ftys := [] }
theorem ok111 : TiOk Tryd.prog 111 ti111 := ⟨by kernel_rfl, by kernel_rfl, rfl, by kernel_rfl, by kernel_rfl, by kernel_rfl⟩
noncomputable def ti113 : TI := { desc := .slice 47, agg := false, size := 1, bytes := 24, zero := [.slice none 0 0], fields := [], ftys := [] }
theorem ok113 : TiOk Tryd.prog 113 ti113 := ⟨by kernel_rfl, by kernel_rfl, rfl, by kernel_rfl, by kernel_rfl, by kernel_rfl⟩
noncomputable def ti116 : TI := { desc := .other, agg := false, size := 1, bytes := 8, zero := [.nilFunc], fields := [], ftys := [] }
theorem ok116 : TiOk Tryd.prog 116 ti116 := ⟨by kernel_rfl, by kernel_rfl, rfl, by kernel_rfl, by kernel_rfl, by kernel_rfl⟩
noncomputable def ti119 : TI := { desc := .struct, agg := true, size := 10, bytes := 176, zero := [.string ByteArray.empty, .string ByteArray.empty, .slice none 0 0, .int .i64 0, .slice none 0 0, .slice none 0 0, .slice none 0 0, .int .u64 0, .slice none 0 0, .bool false], fields := [(0, 1), (1, 1), (2, 5), (7, 1), (8, 1), (9, 1)], ftys := [9, 9, 28, 44, 45, 4] }
theorem ok119 : TiOk Tryd.prog 119 ti119 := ⟨by kernel_rfl, by kernel_rfl, rfl, by kernel_rfl, by kernel_rfl, by kernel_rfl⟩
noncomputable def ti123 : TI := { desc := .slice 26, agg := false, size := 1, bytes := 24, zero := [.slice none 0 0], fields := [], ftys := [] }
theorem ok123 : TiOk Tryd.prog 123 ti123 := ⟨by kernel_rfl, by kernel_rfl, rfl, by kernel_rfl, by kernel_rfl, by kernel_rfl⟩
noncomputable def ti124 : TI := { desc := .array 8 53, agg := true, size := 8, bytes := 32, zero := [.int .u32 0, .int .u32 0, .int .u32 0, .int .u32 0, .int .u32 0, .int .u32 0, .int .u32 0, .int .u32 0], fields := [], ftys := [] }
theorem ok124 : TiOk Tryd.prog 124 ti124 := ⟨by kernel_rfl, by kernel_rfl, rfl, by kernel_rfl, by kernel_rfl, by kernel_rfl⟩
noncomputable def ti125 : TI := { desc := .array 8 53, agg := true, size := 8, bytes := 32, zero := [.int .u32 0, .int .u32 0, .int .u32 0, .int .u32 0, .int .u32 0, .int .u32 0, .int .u32 0, .int .u32 0], fields := [], ftys := [] }
theorem ok125 : TiOk Tryd.prog 125 ti125 := ⟨by kernel_rfl, by kernel_rfl, rfl, by kernel_rfl, by kernel_rfl, by kernel_rfl⟩
noncomputable def ti131 : TI := { desc := .array 8 53, agg := true, size := 8, bytes := 32, zero := [.int .u32 0, .int .u32 0, .int .u32 0, .int .u32 0, .int .u32 0, .int .u32 0, .int .u32 0, .int .u32 0], fields := [], ftys := [] }
theorem ok131 : TiOk Tryd.prog 131 ti131 := ⟨by kernel_rfl, by kernel_rfl, rfl, by kernel_rfl, by kernel_rfl, by kernel_rfl⟩
noncomputable def ti137 : TI := { desc := .pointer 139, agg := false, size := 1, bytes := 8, zero := [.pointer none], fields := [], ftys := [] }
theorem ok137 : TiOk Tryd.prog 137 ti137 := ⟨by kernel_rfl, by kernel_rfl, rfl, by kernel_rfl, by kernel_rfl, by kernel_rfl⟩
noncomputable def ti139 : TI := { desc := .struct, agg := true, size := 2, bytes := 32, zero := [.pointer none, .slice none 0 0], fields := [(0, 1), (1, 1)], ftys := [137, 26] }
theorem ok139 : TiOk Tryd.prog 139 ti139 := ⟨by kernel_rfl, by kernel_rfl, rfl, by kernel_rfl, by kernel_rfl, by kernel_rfl⟩
noncomputable def ti148 : TI := { desc := .slice 3, agg := false, size := 1, bytes := 24, zero := [.slice none 0 0], fields := [], ftys := [] }
theorem ok148 : TiOk Tryd.prog 148 ti148 := ⟨by kernel_rfl, by kernel_rfl, rfl, by kernel_rfl, by kernel_rfl, by kernel_rfl⟩
noncomputable def ti150 : TI := { desc := .struct, agg := true, size := 6, bytes := 112, zero := [.int .i64 0, .slice none 0 0, .slice none 0 0, .int .i64 0, .slice none 0 0, .slice none 0 0], fields := [(0, 1), (1, 1), (2, 1), (3, 1), (4, 1), (5, 1)], ftys := [3, 26, 26, 3, 148, 26] }
theorem ok150 : TiOk Tryd.prog 150 ti150 := ⟨by kernel_rfl, by kernel_rfl, rfl, by kernel_rfl, by kernel_rfl, by kernel_rfl⟩
noncomputable def ti152 : TI := { desc := .struct, agg := true, size := 2, bytes := 48, zero := [.slice none 0 0, .slice none 0 0], fields := [(0, 1), (1, 1)], ftys := [148, 26] }
theorem ok152 : TiOk Tryd.prog 152 ti152 := ⟨by kernel_rfl, by kernel_rfl, rfl, by kernel_rfl, by kernel_rfl, by kernel_rfl⟩
noncomputable def ti170 : TI := { desc := .array 64 53, agg := true, size := 64, bytes := 256, zero := List.replicate 64 (.int .u32 0), fields := [], ftys := [] }
theorem ok170 : TiOk Tryd.prog 170 ti170 := ⟨by kernel_rfl, by kernel_rfl, rfl, by kernel_rfl, by kernel_rfl, by kernel_rfl⟩
noncomputable def ti174 : TI := { desc := .pointer 5, agg := false, size := 1, bytes := 8, zero := [.pointer none], fields := [], ftys := [] }
theorem ok174 : TiOk Tryd.prog 174 ti174 := ⟨by kernel_rfl, by kernel_rfl, rfl, by kernel_rfl, by kernel_rfl, by kernel_rfl⟩
noncomputable def ti189 : TI := { desc := .slice 191, agg := false, size := 1, bytes := 24, zero := [.slice none 0 0], fields := [], ftys := [] }
theorem ok189 : TiOk Tryd.prog 189 ti189 := ⟨by kernel_rfl, by kernel_rfl, rfl, by kernel_rfl, by kernel_rfl, by kernel_rfl⟩
noncomputable def ti191 : TI := { desc := .struct, agg := true, size := 2, bytes := 8, zero := [.int .i32 0, .int .i32 0], fields := [(0, 1), (1, 1)], ftys := [21, 21] }
theorem ok191 : TiOk Tryd.prog 191 ti191 := ⟨by kernel_rfl, by kernel_rfl, rfl, by kernel_rfl, by kernel_rfl, by kernel_rfl⟩
noncomputable def ti192 : TI := { desc := .array 9 191, agg := true, size := 18, bytes := 72, zero := [.int .i32 0, .int .i32 0, .int .i32 0, .int .i32 0, .int .i32 0, .int .i32 0, .int .i32 0, .int .i32 0, .int .i32 0, .int .i32 0, .int .i32 0, .int .i32 0, .int .i32 0, .int .i32 0, .int .i32 0, .int .i32 0, .int .i32 0, .int .i32 0], fields := [], ftys := [] }
theorem ok192 : TiOk Tryd.prog 192 ti192 := ⟨by kernel_rfl, by kernel_rfl, rfl, by kernel_rfl, by kernel_rfl, by kernel_rfl⟩
noncomputable def ti201 : TI := { desc := .other, agg := false, size := 1, bytes := 8, zero := [.nilFunc], fields := [], ftys := [] }
theorem ok201 : TiOk Tryd.prog 201 ti201 := ⟨by kernel_rfl, by kernel_rfl, rfl, by kernel_rfl, by kernel_rfl, by kernel_rfl⟩
noncomputable def ti202 : TI := { desc := .array 6 191, agg := true, size := 12, bytes := 48, zero := [.int .i32 0, .int .i32 0, .int .i32 0, .int .i32 0, .int .i32 0, .int .i32 0, .int .i32 0, .int .i32 0, .int .i32 0, .int .i32 0, .int .i32 0, .int .i32 0], fields := [], ftys := [] }
theorem ok202 : TiOk Tryd.prog 202 ti202 := ⟨by kernel_rfl, by kernel_rfl, rfl, by kernel_rfl, by kernel_rfl, by kernel_rfl⟩
noncomputable def ti203 : TI := { desc := .array 5 191, agg := true, size := 10, bytes := 40, zero := [.int .i32 0, .int .i32 0, .int .i32 0, .int .i32 0, .int .i32 0, .int .i32 0, .int .i32 0, .int .i32 0, .int .i32 0, .int .i32 0], fields := [], ftys := [] }
theorem ok203 : TiOk Tryd.prog 203 ti203 := ⟨by kernel_rfl, by kernel_rfl, rfl, by kernel_rfl, by kernel_rfl, by kernel_rfl⟩
noncomputable def ti205 : TI := { desc := .struct, agg := true, size := 4, bytes := 16, zero := [.int .i64 0, .int .u8 0, .int .u8 0, .int .i32 0], fields := [(0, 1), (1, 1), (2, 1), (3, 1)], ftys := [3, 5, 5, 21] }
theorem ok205 : TiOk Tryd.prog 205 ti205 := ⟨by kernel_rfl, by kernel_rfl, rfl, by kernel_rfl, by kernel_rfl, by kernel_rfl⟩
noncomputable def ti206 : TI := { desc := .array 4 205, agg := true, size := 16, bytes := 64, zero := [.int .i64 0, .int .u8 0, .int .u8 0, .int .i32 0, .int .i64 0, .int .u8 0, .int .u8 0, .int .i32 0, .int .i64 0, .int .u8 0, .int .u8 0, .int .i32 0, .int .i64 0, .int .u8 0, .int .u8 0, .int .i32 0], fields := [], ftys := [] }
theorem ok206 : TiOk Tryd.prog 206 ti206 := ⟨by kernel_rfl, by kernel_rfl, rfl, by kernel_rfl, by kernel_rfl, by kernel_rfl⟩
noncomputable def ti208 : TI := { desc := .int .i64, agg := false, size := 1, bytes := 8, zero := [.int .i64 0], fields := [], ftys := [] }
theorem ok208 : TiOk Tryd.prog 208 ti208 := ⟨by kernel_rfl, by kernel_rfl, rfl, by kernel_rfl, by kernel_rfl, by kernel_rfl⟩
noncomputable def ti224 : TI := { desc := .int .u64, agg := false, size := 1, bytes := 8, zero := [.int .u64 0], fields := [], ftys := [] }
theorem ok224 : TiOk Tryd.prog 224 ti224 := ⟨by kernel_rfl, by kernel_rfl, rfl, by kernel_rfl, by kernel_rfl, by kernel_rfl⟩
noncomputable def ti227 : TI := { desc := .pointer 3, agg := false, size := 1, bytes := 8, zero := [.pointer none], fields := [], ftys := [] }
theorem ok227 : TiOk Tryd.prog 227 ti227 := ⟨by kernel_rfl, by kernel_rfl, rfl, by kernel_rfl, by kernel_rfl, by kernel_rfl⟩
abbrev ty_int64 : TypeId := 2
abbrev ty_int : TypeId := 3
abbrev ty_bool : TypeId := 4
abbrev ty_uint8 : TypeId := 5
abbrev ty_abi_BoundsErrorCode : TypeId := 6
abbrev ty_runtime_boundsError : TypeId := 8
abbrev ty_string : TypeId := 9
abbrev ty_runtime_errorString : TypeId := 10
abbrev ty_runtime_plainError : TypeId := 11
abbrev ty_uintptr : TypeId := 12
abbrev ty_runtime_errorAddressString : TypeId := 14
abbrev ty_ptr_runtime_TypeAssertionError : TypeId := 15
abbrev ty_ptr_runtime_PanicNilError : TypeId := 16
abbrev ty_ptr_abi_Type : TypeId := 17
abbrev ty_maps_unhashableTypeError : TypeId := 19
abbrev ty_int32 : TypeId := 21
abbrev ty_ptr_box_Box : TypeId := 24
abbrev ty_sl_uint8 : TypeId := 26
abbrev ty_ostiaryref14_Secret : TypeId := 28
abbrev ty_cred_Secret : TypeId := 29
abbrev ty_ptr_cred_Store : TypeId := 38
abbrev ty_api_Errno : TypeId := 40
abbrev ty_uint64 : TypeId := 44
abbrev ty_sl_string : TypeId := 45
abbrev ty_cred_Cred : TypeId := 47
abbrev ty_uint32 : TypeId := 53
abbrev ty_sl_ostiaryref05_Find : TypeId := 59
abbrev ty_sl_ostiaryref14_Cred : TypeId := 67
abbrev ty_digest_Answer : TypeId := 71
abbrev ty_map_string_int : TypeId := 74
abbrev ty_sl_box_Term : TypeId := 75
abbrev ty_box_Box : TypeId := 77
abbrev ty_map_string_map_string_ptr_cred_Cred : TypeId := 84
abbrev ty_cred_Store : TypeId := 86
abbrev ty_map_string_ptr_cred_Cred : TypeId := 88
abbrev ty_ptr_cred_Cred : TypeId := 92
abbrev ty_uint : TypeId := 99
abbrev ty_ostiaryref05_Find : TypeId := 102
abbrev ty_iter_Seq2_int_int : TypeId := 104
abbrev ty_iter_Seq_string : TypeId := 111
abbrev ty_sl_cred_Cred : TypeId := 113
abbrev ty_iter_Seq_ostiary_cred_Cred : TypeId := 116
abbrev ty_ostiaryref14_Cred : TypeId := 119
abbrev ty_sl_sl_uint8 : TypeId := 123
abbrev ty_8_uint32 : TypeId := 124
abbrev ty_sha_state : TypeId := 125
abbrev ty_iter_Seq_sl_uint8 : TypeId := 127
abbrev ty_ostiaryref01_State : TypeId := 131
abbrev ty_ptr_strings_Builder : TypeId := 137
abbrev ty_strings_Builder : TypeId := 139
abbrev ty_error : TypeId := 142
abbrev ty_sl_int : TypeId := 148
abbrev ty_box_Term : TypeId := 150
abbrev ty_box_sum : TypeId := 152
abbrev ty_ptr_sha_state : TypeId := 169
abbrev ty_64_uint32 : TypeId := 170
abbrev ty_ptr_uint8 : TypeId := 174
abbrev ty_iter_Seq_int32 : TypeId := 186
abbrev ty_sl_name_span : TypeId := 189
abbrev ty_name_span : TypeId := 191
abbrev ty_9_name_span : TypeId := 192
abbrev ty_iter_Seq2_int_int32 : TypeId := 199
abbrev ty_6_name_span : TypeId := 202
abbrev ty_5_name_span : TypeId := 203
abbrev ty_name_form : TypeId := 205
abbrev ty_4_name_form : TypeId := 206
abbrev ty_slices_sortedHint : TypeId := 208
abbrev ty_slices_xorshift : TypeId := 224
abbrev ty_ptr_int : TypeId := 227
abbrev ty_ptr_slices_xorshift : TypeId := 232
abbrev ty_runtime_TypeAssertionError : TypeId := 237
abbrev ty_0_ptr_runtime_PanicNilError : TypeId := 238
abbrev ty_runtime_PanicNilError : TypeId := 240
abbrev ty_abi_TFlag : TypeId := 241
abbrev ty_abi_Kind : TypeId := 242
abbrev ty_abi_NameOff : TypeId := 244
abbrev ty_abi_TypeOff : TypeId := 245
abbrev ty_abi_Type : TypeId := 247
theorem mixed : Tryd.prog.follows .mixedOrders = true := by kernel_rfl
/-- ostiary/ostiarylaw19.ProofDummies -/
noncomputable def cx_ostiarylaw19_ProofDummies (W0 : World) (S : Nat → Prop) (bs : List Nat := []) : Cx := ⟨Tryd.prog, W0, S, 69, [(3, ti3), (4, ti4), (5, ti5), (9, ti9), (24, ti24), (26, ti26), (28, ti28)], [7, 8, 9, 10, 11, 12, 13, 14, 15, 16], bs, none, []⟩
abbrev n_ostiarylaw19_ProofDummies : FuncId := 3
theorem b_ostiarylaw19_ProofDummies : Tryd.prog.funcs[n_ostiarylaw19_ProofDummies]? = some Tryd.f3 := Tryd.func3
def p_ostiarylaw19_ProofDummies_6 : Plan := .take 0 (.take 1 (.take 2 (.take 3 (.exec 4 (.exec 5 (.take 6 (.take 7 (.exec 8 (.take 9 (.take 10 (.take 11 (.exec 12 (.take 13 (.take 14 (.take 15 (.take 16 (.take 17 (.take 18 (.take 20 (.take 21 (.take 22 (.take 23 (.take 24 (.take 25 (.take 26 (.exec 19 (.take 27 (.take 28 (.take 29 (.take 30 (.take 32 (.take 35 (.take 36 (.take 37 (.alt 31 (.exec 33 (.exec 34 (.take 38 (.take 39 (.take 40 (.done)))))) (.exec 33 (.exec 31 (.exec 34 (.take 38 (.take 39 (.take 40 (.done))))))))))))))))))))))))))))))))))))))))))
theorem good_ostiarylaw19_ProofDummies (W0 : World) (S : Nat → Prop) (bs : List Nat := []) : Good (cx_ostiarylaw19_ProofDummies W0 S bs) := ⟨List.forall_mem_cons.2 ⟨ok3, List.forall_mem_cons.2 ⟨ok4, List.forall_mem_cons.2 ⟨ok5, List.forall_mem_cons.2 ⟨ok9, List.forall_mem_cons.2 ⟨ok24, List.forall_mem_cons.2 ⟨ok26, List.forall_mem_cons.2 ⟨ok28, (fun _ h => by cases h)⟩⟩⟩⟩⟩⟩⟩, List.forall_mem_cons.2 ⟨by kernel_rfl, List.forall_mem_cons.2 ⟨by kernel_rfl, List.forall_mem_cons.2 ⟨by kernel_rfl, List.forall_mem_cons.2 ⟨by kernel_rfl, List.forall_mem_cons.2 ⟨by kernel_rfl, List.forall_mem_cons.2 ⟨by kernel_rfl, List.forall_mem_cons.2 ⟨by kernel_rfl, List.forall_mem_cons.2 ⟨by kernel_rfl, List.forall_mem_cons.2 ⟨by kernel_rfl, List.forall_mem_cons.2 ⟨by kernel_rfl, (fun _ h => by cases h)⟩⟩⟩⟩⟩⟩⟩⟩⟩⟩, mixed⟩
/-- ostiary/ostiarylaw14.CredForms -/
noncomputable def cx_ostiarylaw14_CredForms (W0 : World) (S : Nat → Prop) (bs : List Nat := []) : Cx := ⟨Tryd.prog, W0, S, 77, [(3, ti3), (4, ti4), (5, ti5), (9, ti9), (26, ti26), (29, ti29), (38, ti38), (40, ti40), (44, ti44), (45, ti45), (47, ti47)], [8, 17, 18, 19, 20, 21, 22, 23, 24], bs, none, []⟩
abbrev n_ostiarylaw14_CredForms : FuncId := 4
theorem b_ostiarylaw14_CredForms : Tryd.prog.funcs[n_ostiarylaw14_CredForms]? = some Tryd.f4 := Tryd.func4
theorem good_ostiarylaw14_CredForms (W0 : World) (S : Nat → Prop) (bs : List Nat := []) : Good (cx_ostiarylaw14_CredForms W0 S bs) := ⟨List.forall_mem_cons.2 ⟨ok3, List.forall_mem_cons.2 ⟨ok4, List.forall_mem_cons.2 ⟨ok5, List.forall_mem_cons.2 ⟨ok9, List.forall_mem_cons.2 ⟨ok26, List.forall_mem_cons.2 ⟨ok29, List.forall_mem_cons.2 ⟨ok38, List.forall_mem_cons.2 ⟨ok40, List.forall_mem_cons.2 ⟨ok44, List.forall_mem_cons.2 ⟨ok45, List.forall_mem_cons.2 ⟨ok47, (fun _ h => by cases h)⟩⟩⟩⟩⟩⟩⟩⟩⟩⟩⟩, List.forall_mem_cons.2 ⟨by kernel_rfl, List.forall_mem_cons.2 ⟨by kernel_rfl, List.forall_mem_cons.2 ⟨by kernel_rfl, List.forall_mem_cons.2 ⟨by kernel_rfl, List.forall_mem_cons.2 ⟨by kernel_rfl, List.forall_mem_cons.2 ⟨by kernel_rfl, List.forall_mem_cons.2 ⟨by kernel_rfl, List.forall_mem_cons.2 ⟨by kernel_rfl, List.forall_mem_cons.2 ⟨by kernel_rfl, (fun _ h => by cases h)⟩⟩⟩⟩⟩⟩⟩⟩⟩, mixed⟩
/-- ostiary/ostiarylaw05.BoxHandles -/
noncomputable def cx_ostiarylaw05_BoxHandles (W0 : World) (S : Nat → Prop) (bs : List Nat := []) : Cx := ⟨Tryd.prog, W0, S, 100, [(3, ti3), (4, ti4), (5, ti5), (26, ti26), (53, ti53), (59, ti59), (102, ti102)], [25, 26, 27, 28, 29, 30, 31, 32, 33, 34], bs, none, []⟩
abbrev n_ostiarylaw05_BoxHandles : FuncId := 5
theorem b_ostiarylaw05_BoxHandles : Tryd.prog.funcs[n_ostiarylaw05_BoxHandles]? = some Tryd.f5 := Tryd.func5
def p_ostiarylaw05_BoxHandles_13 : Plan := .take 0 (.take 1 (.take 2 (.take 4 (.take 5 (.take 6 (.take 9 (.take 10 (.take 11 (.exec 3 (.exec 7 (.exec 8 (.exec 12 (.take 13 (.done))))))))))))))
def p_ostiarylaw05_BoxHandles_17 : Plan := .take 0 (.take 2 (.exec 1 (.exec 3 (.take 4 (.take 5 (.take 6 (.take 8 (.take 9 (.take 10 (.take 11 (.take 12 (.take 13 (.exec 7 (.exec 14 (.take 15 (.take 16 (.done)))))))))))))))))
theorem good_ostiarylaw05_BoxHandles (W0 : World) (S : Nat → Prop) (bs : List Nat := []) : Good (cx_ostiarylaw05_BoxHandles W0 S bs) := ⟨List.forall_mem_cons.2 ⟨ok3, List.forall_mem_cons.2 ⟨ok4, List.forall_mem_cons.2 ⟨ok5, List.forall_mem_cons.2 ⟨ok26, List.forall_mem_cons.2 ⟨ok53, List.forall_mem_cons.2 ⟨ok59, List.forall_mem_cons.2 ⟨ok102, (fun _ h => by cases h)⟩⟩⟩⟩⟩⟩⟩, List.forall_mem_cons.2 ⟨by kernel_rfl, List.forall_mem_cons.2 ⟨by kernel_rfl, List.forall_mem_cons.2 ⟨by kernel_rfl, List.forall_mem_cons.2 ⟨by kernel_rfl, List.forall_mem_cons.2 ⟨by kernel_rfl, List.forall_mem_cons.2 ⟨by kernel_rfl, List.forall_mem_cons.2 ⟨by kernel_rfl, List.forall_mem_cons.2 ⟨by kernel_rfl, List.forall_mem_cons.2 ⟨by kernel_rfl, List.forall_mem_cons.2 ⟨by kernel_rfl, (fun _ h => by cases h)⟩⟩⟩⟩⟩⟩⟩⟩⟩⟩, mixed⟩
/-- ostiary/ostiarylaw14.CredMost -/
noncomputable def cx_ostiarylaw14_CredMost (W0 : World) (S : Nat → Prop) (bs : List Nat := []) : Cx := ⟨Tryd.prog, W0, S, 125, [(3, ti3), (4, ti4), (5, ti5), (9, ti9), (26, ti26), (28, ti28), (29, ti29), (38, ti38), (40, ti40), (44, ti44), (45, ti45), (67, ti67), (119, ti119)], [17, 18, 19, 20, 21, 24, 35, 37, 38, 39], bs, none, []⟩
abbrev n_ostiarylaw14_CredMost : FuncId := 6
theorem b_ostiarylaw14_CredMost : Tryd.prog.funcs[n_ostiarylaw14_CredMost]? = some Tryd.f6 := Tryd.func6
theorem good_ostiarylaw14_CredMost (W0 : World) (S : Nat → Prop) (bs : List Nat := []) : Good (cx_ostiarylaw14_CredMost W0 S bs) := ⟨List.forall_mem_cons.2 ⟨ok3, List.forall_mem_cons.2 ⟨ok4, List.forall_mem_cons.2 ⟨ok5, List.forall_mem_cons.2 ⟨ok9, List.forall_mem_cons.2 ⟨ok26, List.forall_mem_cons.2 ⟨ok28, List.forall_mem_cons.2 ⟨ok29, List.forall_mem_cons.2 ⟨ok38, List.forall_mem_cons.2 ⟨ok40, List.forall_mem_cons.2 ⟨ok44, List.forall_mem_cons.2 ⟨ok45, List.forall_mem_cons.2 ⟨ok67, List.forall_mem_cons.2 ⟨ok119, (fun _ h => by cases h)⟩⟩⟩⟩⟩⟩⟩⟩⟩⟩⟩⟩⟩, List.forall_mem_cons.2 ⟨by kernel_rfl, List.forall_mem_cons.2 ⟨by kernel_rfl, List.forall_mem_cons.2 ⟨by kernel_rfl, List.forall_mem_cons.2 ⟨by kernel_rfl, List.forall_mem_cons.2 ⟨by kernel_rfl, List.forall_mem_cons.2 ⟨by kernel_rfl, List.forall_mem_cons.2 ⟨by kernel_rfl, List.forall_mem_cons.2 ⟨by kernel_rfl, List.forall_mem_cons.2 ⟨by kernel_rfl, List.forall_mem_cons.2 ⟨by kernel_rfl, (fun _ h => by cases h)⟩⟩⟩⟩⟩⟩⟩⟩⟩⟩, mixed⟩
/-- ostiary/ostiarylaw19.awake -/
noncomputable def cx_ostiarylaw19_awake (W0 : World) (S : Nat → Prop) (bs : List Nat := []) : Cx := ⟨Tryd.prog, W0, S, 20, [(3, ti3), (4, ti4), (5, ti5), (9, ti9), (24, ti24), (26, ti26), (53, ti53), (71, ti71)], [9, 28, 40, 41], bs, none, []⟩
abbrev n_ostiarylaw19_awake : FuncId := 7
theorem b_ostiarylaw19_awake : Tryd.prog.funcs[n_ostiarylaw19_awake]? = some Tryd.f7 := Tryd.func7
def p_ostiarylaw19_awake_3 : Plan := .take 0 (.take 1 (.take 3 (.exec 2 (.exec 4 (.take 5 (.done))))))
theorem good_ostiarylaw19_awake (W0 : World) (S : Nat → Prop) (bs : List Nat := []) : Good (cx_ostiarylaw19_awake W0 S bs) := ⟨List.forall_mem_cons.2 ⟨ok3, List.forall_mem_cons.2 ⟨ok4, List.forall_mem_cons.2 ⟨ok5, List.forall_mem_cons.2 ⟨ok9, List.forall_mem_cons.2 ⟨ok24, List.forall_mem_cons.2 ⟨ok26, List.forall_mem_cons.2 ⟨ok53, List.forall_mem_cons.2 ⟨ok71, (fun _ h => by cases h)⟩⟩⟩⟩⟩⟩⟩⟩, List.forall_mem_cons.2 ⟨by kernel_rfl, List.forall_mem_cons.2 ⟨by kernel_rfl, List.forall_mem_cons.2 ⟨by kernel_rfl, List.forall_mem_cons.2 ⟨by kernel_rfl, (fun _ h => by cases h)⟩⟩⟩⟩, mixed⟩
/-- ostiary/ostiaryref01.CutText -/
noncomputable def cx_ostiaryref01_CutText (W0 : World) (S : Nat → Prop) (bs : List Nat := []) : Cx := ⟨Tryd.prog, W0, S, 11, [(3, ti3), (9, ti9)], [], bs, none, []⟩
abbrev n_ostiaryref01_CutText : FuncId := 8
theorem b_ostiaryref01_CutText : Tryd.prog.funcs[n_ostiaryref01_CutText]? = some Tryd.f8 := Tryd.func8
theorem good_ostiaryref01_CutText (W0 : World) (S : Nat → Prop) (bs : List Nat := []) : Good (cx_ostiaryref01_CutText W0 S bs) := ⟨List.forall_mem_cons.2 ⟨ok3, List.forall_mem_cons.2 ⟨ok9, (fun _ h => by cases h)⟩⟩, (fun _ h => by cases h), mixed⟩
/-- ostiary/box.New -/
noncomputable def cx_box_New (W0 : World) (S : Nat → Prop) (bs : List Nat := []) : Cx := ⟨Tryd.prog, W0, S, 7, [(3, ti3), (4, ti4), (5, ti5), (9, ti9), (26, ti26), (74, ti74), (75, ti75), (77, ti77), (148, ti148), (150, ti150)], [], bs, none, []⟩
abbrev n_box_New : FuncId := 9
theorem b_box_New : Tryd.prog.funcs[n_box_New]? = some Tryd.f9 := Tryd.func9
theorem good_box_New (W0 : World) (S : Nat → Prop) (bs : List Nat := []) : Good (cx_box_New W0 S bs) := ⟨List.forall_mem_cons.2 ⟨ok3, List.forall_mem_cons.2 ⟨ok4, List.forall_mem_cons.2 ⟨ok5, List.forall_mem_cons.2 ⟨ok9, List.forall_mem_cons.2 ⟨ok26, List.forall_mem_cons.2 ⟨ok74, List.forall_mem_cons.2 ⟨ok75, List.forall_mem_cons.2 ⟨ok77, List.forall_mem_cons.2 ⟨ok148, List.forall_mem_cons.2 ⟨ok150, (fun _ h => by cases h)⟩⟩⟩⟩⟩⟩⟩⟩⟩⟩, (fun _ h => by cases h), mixed⟩
/-- ostiary/proof.Dummy -/
noncomputable def cx_proof_Dummy (W0 : World) (S : Nat → Prop) (bs : List Nat := []) : Cx := ⟨Tryd.prog, W0, S, 31, [(3, ti3), (5, ti5), (9, ti9), (24, ti24), (26, ti26), (29, ti29)], [42], bs, none, []⟩
abbrev n_proof_Dummy : FuncId := 10
theorem b_proof_Dummy : Tryd.prog.funcs[n_proof_Dummy]? = some Tryd.f10 := Tryd.func10
def p_proof_Dummy_6 : Plan := .take 0 (.take 3 (.take 4 (.take 6 (.take 8 (.exec 1 (.take 2 (.exec 5 (.exec 7 (.exec 9 (.take 10 (.exec 11 (.done))))))))))))
theorem good_proof_Dummy (W0 : World) (S : Nat → Prop) (bs : List Nat := []) : Good (cx_proof_Dummy W0 S bs) := ⟨List.forall_mem_cons.2 ⟨ok3, List.forall_mem_cons.2 ⟨ok5, List.forall_mem_cons.2 ⟨ok9, List.forall_mem_cons.2 ⟨ok24, List.forall_mem_cons.2 ⟨ok26, List.forall_mem_cons.2 ⟨ok29, (fun _ h => by cases h)⟩⟩⟩⟩⟩⟩, List.forall_mem_cons.2 ⟨by kernel_rfl, (fun _ h => by cases h)⟩, mixed⟩
/-- ostiary/ostiaryref14.SameSecret -/
noncomputable def cx_ostiaryref14_SameSecret (W0 : World) (S : Nat → Prop) (bs : List Nat := []) : Cx := ⟨Tryd.prog, W0, S, 38, [(3, ti3), (5, ti5), (26, ti26), (28, ti28)], [28], bs, none, []⟩
abbrev n_ostiaryref14_SameSecret : FuncId := 11
theorem b_ostiaryref14_SameSecret : Tryd.prog.funcs[n_ostiaryref14_SameSecret]? = some Tryd.f11 := Tryd.func11
theorem good_ostiaryref14_SameSecret (W0 : World) (S : Nat → Prop) (bs : List Nat := []) : Good (cx_ostiaryref14_SameSecret W0 S bs) := ⟨List.forall_mem_cons.2 ⟨ok3, List.forall_mem_cons.2 ⟨ok5, List.forall_mem_cons.2 ⟨ok26, List.forall_mem_cons.2 ⟨ok28, (fun _ h => by cases h)⟩⟩⟩⟩, List.forall_mem_cons.2 ⟨by kernel_rfl, (fun _ h => by cases h)⟩, mixed⟩
/-- ostiary/ostiaryref19.Dummy -/
noncomputable def cx_ostiaryref19_Dummy (W0 : World) (S : Nat → Prop) (bs : List Nat := []) : Cx := ⟨Tryd.prog, W0, S, 38, [(3, ti3), (5, ti5), (9, ti9), (26, ti26), (28, ti28)], [44], bs, none, []⟩
abbrev n_ostiaryref19_Dummy : FuncId := 12
theorem b_ostiaryref19_Dummy : Tryd.prog.funcs[n_ostiaryref19_Dummy]? = some Tryd.f12 := Tryd.func12
def p_ostiaryref19_Dummy_4 : Plan := .take 0 (.take 1 (.take 5 (.take 6 (.take 7 (.take 10 (.take 11 (.take 14 (.take 15 (.alt 2 (.alt 3 (.take 4 (.alt 8 (.alt 9 (.alt 12 (.alt 13 (.exec 16 (.exec 17 (.take 18 (.exec 19 (.done))))) (.exec 16 (.exec 13 (.exec 17 (.take 18 (.exec 19 (.done))))))) (.exec 16 (.exec 12 (.exec 13 (.exec 17 (.take 18 (.exec 19 (.done)))))))) (.alt 12 (.alt 9 (.alt 13 (.exec 16 (.exec 17 (.take 18 (.exec 19 (.done))))) (.exec 16 (.exec 13 (.exec 17 (.take 18 (.exec 19 (.done))))))) (.exec 16 (.exec 9 (.exec 13 (.exec 17 (.take 18 (.exec 19 (.done)))))))) (.exec 16 (.alt 9 (.exec 12 (.exec 13 (.exec 17 (.take 18 (.exec 19 (.done)))))) (.exec 12 (.exec 9 (.exec 13 (.exec 17 (.take 18 (.exec 19 (.done))))))))))) (.alt 12 (.alt 8 (.alt 9 (.alt 13 (.exec 16 (.exec 17 (.take 18 (.exec 19 (.done))))) (.exec 16 (.exec 13 (.exec 17 (.take 18 (.exec 19 (.done))))))) (.exec 16 (.exec 9 (.exec 13 (.exec 17 (.take 18 (.exec 19 (.done)))))))) (.exec 16 (.exec 8 (.exec 9 (.exec 13 (.exec 17 (.take 18 (.exec 19 (.done))))))))) (.exec 16 (.alt 8 (.alt 9 (.exec 12 (.exec 13 (.exec 17 (.take 18 (.exec 19 (.done)))))) (.exec 12 (.exec 9 (.exec 13 (.exec 17 (.take 18 (.exec 19 (.done)))))))) (.exec 12 (.exec 8 (.exec 9 (.exec 13 (.exec 17 (.take 18 (.exec 19 (.done))))))))))))) (.alt 8 (.alt 3 (.take 4 (.alt 9 (.alt 12 (.alt 13 (.exec 16 (.exec 17 (.take 18 (.exec 19 (.done))))) (.exec 16 (.exec 13 (.exec 17 (.take 18 (.exec 19 (.done))))))) (.exec 16 (.exec 12 (.exec 13 (.exec 17 (.take 18 (.exec 19 (.done)))))))) (.alt 12 (.alt 9 (.alt 13 (.exec 16 (.exec 17 (.take 18 (.exec 19 (.done))))) (.exec 16 (.exec 13 (.exec 17 (.take 18 (.exec 19 (.done))))))) (.exec 16 (.exec 9 (.exec 13 (.exec 17 (.take 18 (.exec 19 (.done)))))))) (.exec 16 (.alt 9 (.exec 12 (.exec 13 (.exec 17 (.take 18 (.exec 19 (.done)))))) (.exec 12 (.exec 9 (.exec 13 (.exec 17 (.take 18 (.exec 19 (.done)))))))))))) (.alt 12 (.alt 3 (.take 4 (.alt 9 (.alt 13 (.exec 16 (.exec 17 (.take 18 (.exec 19 (.done))))) (.exec 16 (.exec 13 (.exec 17 (.take 18 (.exec 19 (.done))))))) (.exec 16 (.exec 9 (.exec 13 (.exec 17 (.take 18 (.exec 19 (.done))))))))) (.exec 16 (.exec 3 (.take 4 (.exec 9 (.exec 13 (.exec 17 (.take 18 (.exec 19 (.done)))))))))) (.exec 16 (.alt 3 (.take 4 (.alt 9 (.exec 12 (.exec 13 (.exec 17 (.take 18 (.exec 19 (.done)))))) (.exec 12 (.exec 9 (.exec 13 (.exec 17 (.take 18 (.exec 19 (.done))))))))) (.exec 12 (.exec 3 (.take 4 (.exec 9 (.exec 13 (.exec 17 (.take 18 (.exec 19 (.done))))))))))))) (.alt 12 (.alt 3 (.take 4 (.alt 8 (.alt 9 (.alt 13 (.exec 16 (.exec 17 (.take 18 (.exec 19 (.done))))) (.exec 16 (.exec 13 (.exec 17 (.take 18 (.exec 19 (.done))))))) (.exec 16 (.exec 9 (.exec 13 (.exec 17 (.take 18 (.exec 19 (.done)))))))) (.exec 16 (.exec 8 (.exec 9 (.exec 13 (.exec 17 (.take 18 (.exec 19 (.done)))))))))) (.alt 8 (.alt 3 (.take 4 (.alt 9 (.alt 13 (.exec 16 (.exec 17 (.take 18 (.exec 19 (.done))))) (.exec 16 (.exec 13 (.exec 17 (.take 18 (.exec 19 (.done))))))) (.exec 16 (.exec 9 (.exec 13 (.exec 17 (.take 18 (.exec 19 (.done))))))))) (.exec 16 (.exec 3 (.take 4 (.exec 9 (.exec 13 (.exec 17 (.take 18 (.exec 19 (.done)))))))))) (.exec 16 (.alt 3 (.take 4 (.exec 8 (.exec 9 (.exec 13 (.exec 17 (.take 18 (.exec 19 (.done)))))))) (.exec 8 (.exec 3 (.take 4 (.exec 9 (.exec 13 (.exec 17 (.take 18 (.exec 19 (.done))))))))))))) (.exec 16 (.alt 3 (.take 4 (.alt 8 (.alt 9 (.exec 12 (.exec 13 (.exec 17 (.take 18 (.exec 19 (.done)))))) (.exec 12 (.exec 9 (.exec 13 (.exec 17 (.take 18 (.exec 19 (.done)))))))) (.exec 12 (.exec 8 (.exec 9 (.exec 13 (.exec 17 (.take 18 (.exec 19 (.done)))))))))) (.alt 8 (.alt 3 (.take 4 (.alt 9 (.exec 12 (.exec 13 (.exec 17 (.take 18 (.exec 19 (.done)))))) (.exec 12 (.exec 9 (.exec 13 (.exec 17 (.take 18 (.exec 19 (.done))))))))) (.exec 12 (.exec 3 (.take 4 (.exec 9 (.exec 13 (.exec 17 (.take 18 (.exec 19 (.done)))))))))) (.exec 12 (.alt 3 (.take 4 (.exec 8 (.exec 9 (.exec 13 (.exec 17 (.take 18 (.exec 19 (.done)))))))) (.exec 8 (.exec 3 (.take 4 (.exec 9 (.exec 13 (.exec 17 (.take 18 (.exec 19 (.done))))))))))))))))) (.alt 8 (.alt 2 (.alt 3 (.take 4 (.alt 9 (.alt 12 (.alt 13 (.exec 16 (.exec 17 (.take 18 (.exec 19 (.done))))) (.exec 16 (.exec 13 (.exec 17 (.take 18 (.exec 19 (.done))))))) (.exec 16 (.exec 12 (.exec 13 (.exec 17 (.take 18 (.exec 19 (.done)))))))) (.alt 12 (.alt 9 (.alt 13 (.exec 16 (.exec 17 (.take 18 (.exec 19 (.done))))) (.exec 16 (.exec 13 (.exec 17 (.take 18 (.exec 19 (.done))))))) (.exec 16 (.exec 9 (.exec 13 (.exec 17 (.take 18 (.exec 19 (.done)))))))) (.exec 16 (.alt 9 (.exec 12 (.exec 13 (.exec 17 (.take 18 (.exec 19 (.done)))))) (.exec 12 (.exec 9 (.exec 13 (.exec 17 (.take 18 (.exec 19 (.done)))))))))))) (.alt 12 (.alt 3 (.take 4 (.alt 9 (.alt 13 (.exec 16 (.exec 17 (.take 18 (.exec 19 (.done))))) (.exec 16 (.exec 13 (.exec 17 (.take 18 (.exec 19 (.done))))))) (.exec 16 (.exec 9 (.exec 13 (.exec 17 (.take 18 (.exec 19 (.done))))))))) (.exec 16 (.exec 3 (.take 4 (.exec 9 (.exec 13 (.exec 17 (.take 18 (.exec 19 (.done)))))))))) (.exec 16 (.alt 3 (.take 4 (.alt 9 (.exec 12 (.exec 13 (.exec 17 (.take 18 (.exec 19 (.done)))))) (.exec 12 (.exec 9 (.exec 13 (.exec 17 (.take 18 (.exec 19 (.done))))))))) (.exec 12 (.exec 3 (.take 4 (.exec 9 (.exec 13 (.exec 17 (.take 18 (.exec 19 (.done))))))))))))) (.alt 12 (.alt 2 (.alt 3 (.take 4 (.alt 9 (.alt 13 (.exec 16 (.exec 17 (.take 18 (.exec 19 (.done))))) (.exec 16 (.exec 13 (.exec 17 (.take 18 (.exec 19 (.done))))))) (.exec 16 (.exec 9 (.exec 13 (.exec 17 (.take 18 (.exec 19 (.done))))))))) (.exec 16 (.exec 3 (.take 4 (.exec 9 (.exec 13 (.exec 17 (.take 18 (.exec 19 (.done)))))))))) (.exec 16 (.exec 2 (.exec 3 (.take 4 (.exec 9 (.exec 13 (.exec 17 (.take 18 (.exec 19 (.done))))))))))) (.exec 16 (.alt 2 (.alt 3 (.take 4 (.alt 9 (.exec 12 (.exec 13 (.exec 17 (.take 18 (.exec 19 (.done)))))) (.exec 12 (.exec 9 (.exec 13 (.exec 17 (.take 18 (.exec 19 (.done))))))))) (.exec 12 (.exec 3 (.take 4 (.exec 9 (.exec 13 (.exec 17 (.take 18 (.exec 19 (.done)))))))))) (.exec 12 (.exec 2 (.exec 3 (.take 4 (.exec 9 (.exec 13 (.exec 17 (.take 18 (.exec 19 (.done)))))))))))))) (.alt 12 (.alt 2 (.alt 3 (.take 4 (.alt 8 (.alt 9 (.alt 13 (.exec 16 (.exec 17 (.take 18 (.exec 19 (.done))))) (.exec 16 (.exec 13 (.exec 17 (.take 18 (.exec 19 (.done))))))) (.exec 16 (.exec 9 (.exec 13 (.exec 17 (.take 18 (.exec 19 (.done)))))))) (.exec 16 (.exec 8 (.exec 9 (.exec 13 (.exec 17 (.take 18 (.exec 19 (.done)))))))))) (.alt 8 (.alt 3 (.take 4 (.alt 9 (.alt 13 (.exec 16 (.exec 17 (.take 18 (.exec 19 (.done))))) (.exec 16 (.exec 13 (.exec 17 (.take 18 (.exec 19 (.done))))))) (.exec 16 (.exec 9 (.exec 13 (.exec 17 (.take 18 (.exec 19 (.done))))))))) (.exec 16 (.exec 3 (.take 4 (.exec 9 (.exec 13 (.exec 17 (.take 18 (.exec 19 (.done)))))))))) (.exec 16 (.alt 3 (.take 4 (.exec 8 (.exec 9 (.exec 13 (.exec 17 (.take 18 (.exec 19 (.done)))))))) (.exec 8 (.exec 3 (.take 4 (.exec 9 (.exec 13 (.exec 17 (.take 18 (.exec 19 (.done))))))))))))) (.alt 8 (.alt 2 (.alt 3 (.take 4 (.alt 9 (.alt 13 (.exec 16 (.exec 17 (.take 18 (.exec 19 (.done))))) (.exec 16 (.exec 13 (.exec 17 (.take 18 (.exec 19 (.done))))))) (.exec 16 (.exec 9 (.exec 13 (.exec 17 (.take 18 (.exec 19 (.done))))))))) (.exec 16 (.exec 3 (.take 4 (.exec 9 (.exec 13 (.exec 17 (.take 18 (.exec 19 (.done)))))))))) (.exec 16 (.exec 2 (.exec 3 (.take 4 (.exec 9 (.exec 13 (.exec 17 (.take 18 (.exec 19 (.done))))))))))) (.exec 16 (.alt 2 (.alt 3 (.take 4 (.exec 8 (.exec 9 (.exec 13 (.exec 17 (.take 18 (.exec 19 (.done)))))))) (.exec 8 (.exec 3 (.take 4 (.exec 9 (.exec 13 (.exec 17 (.take 18 (.exec 19 (.done)))))))))) (.exec 8 (.exec 2 (.exec 3 (.take 4 (.exec 9 (.exec 13 (.exec 17 (.take 18 (.exec 19 (.done)))))))))))))) (.exec 16 (.alt 2 (.alt 3 (.take 4 (.alt 8 (.alt 9 (.exec 12 (.exec 13 (.exec 17 (.take 18 (.exec 19 (.done)))))) (.exec 12 (.exec 9 (.exec 13 (.exec 17 (.take 18 (.exec 19 (.done)))))))) (.exec 12 (.exec 8 (.exec 9 (.exec 13 (.exec 17 (.take 18 (.exec 19 (.done)))))))))) (.alt 8 (.alt 3 (.take 4 (.alt 9 (.exec 12 (.exec 13 (.exec 17 (.take 18 (.exec 19 (.done)))))) (.exec 12 (.exec 9 (.exec 13 (.exec 17 (.take 18 (.exec 19 (.done))))))))) (.exec 12 (.exec 3 (.take 4 (.exec 9 (.exec 13 (.exec 17 (.take 18 (.exec 19 (.done)))))))))) (.exec 12 (.alt 3 (.take 4 (.exec 8 (.exec 9 (.exec 13 (.exec 17 (.take 18 (.exec 19 (.done)))))))) (.exec 8 (.exec 3 (.take 4 (.exec 9 (.exec 13 (.exec 17 (.take 18 (.exec 19 (.done))))))))))))) (.alt 8 (.alt 2 (.alt 3 (.take 4 (.alt 9 (.exec 12 (.exec 13 (.exec 17 (.take 18 (.exec 19 (.done)))))) (.exec 12 (.exec 9 (.exec 13 (.exec 17 (.take 18 (.exec 19 (.done))))))))) (.exec 12 (.exec 3 (.take 4 (.exec 9 (.exec 13 (.exec 17 (.take 18 (.exec 19 (.done)))))))))) (.exec 12 (.exec 2 (.exec 3 (.take 4 (.exec 9 (.exec 13 (.exec 17 (.take 18 (.exec 19 (.done))))))))))) (.exec 12 (.alt 2 (.alt 3 (.take 4 (.exec 8 (.exec 9 (.exec 13 (.exec 17 (.take 18 (.exec 19 (.done)))))))) (.exec 8 (.exec 3 (.take 4 (.exec 9 (.exec 13 (.exec 17 (.take 18 (.exec 19 (.done)))))))))) (.exec 8 (.exec 2 (.exec 3 (.take 4 (.exec 9 (.exec 13 (.exec 17 (.take 18 (.exec 19 (.done))))))))))))))))))))))))))
theorem good_ostiaryref19_Dummy (W0 : World) (S : Nat → Prop) (bs : List Nat := []) : Good (cx_ostiaryref19_Dummy W0 S bs) := ⟨List.forall_mem_cons.2 ⟨ok3, List.forall_mem_cons.2 ⟨ok5, List.forall_mem_cons.2 ⟨ok9, List.forall_mem_cons.2 ⟨ok26, List.forall_mem_cons.2 ⟨ok28, (fun _ h => by cases h)⟩⟩⟩⟩⟩, List.forall_mem_cons.2 ⟨by kernel_rfl, (fun _ h => by cases h)⟩, mixed⟩
/-- ostiary/ostiaryref14.Right -/
noncomputable def cx_ostiaryref14_Right (W0 : World) (S : Nat → Prop) (bs : List Nat := []) : Cx := ⟨Tryd.prog, W0, S, 26, [(3, ti3), (5, ti5), (26, ti26), (28, ti28)], [45], bs, none, []⟩
abbrev n_ostiaryref14_Right : FuncId := 13
theorem b_ostiaryref14_Right : Tryd.prog.funcs[n_ostiaryref14_Right]? = some Tryd.f13 := Tryd.func13
theorem good_ostiaryref14_Right (W0 : World) (S : Nat → Prop) (bs : List Nat := []) : Good (cx_ostiaryref14_Right W0 S bs) := ⟨List.forall_mem_cons.2 ⟨ok3, List.forall_mem_cons.2 ⟨ok5, List.forall_mem_cons.2 ⟨ok26, List.forall_mem_cons.2 ⟨ok28, (fun _ h => by cases h)⟩⟩⟩⟩, List.forall_mem_cons.2 ⟨by kernel_rfl, (fun _ h => by cases h)⟩, mixed⟩
/-- (*ostiary/box.Box).Len -/
noncomputable def cx_box_Box_Len (W0 : World) (S : Nat → Prop) (bs : List Nat := []) : Cx := ⟨Tryd.prog, W0, S, 10, [(3, ti3), (4, ti4), (5, ti5), (9, ti9), (24, ti24), (26, ti26), (74, ti74), (75, ti75), (77, ti77), (148, ti148), (150, ti150)], [], bs, none, []⟩
abbrev n_box_Box_Len : FuncId := 14
theorem b_box_Box_Len : Tryd.prog.funcs[n_box_Box_Len]? = some Tryd.f14 := Tryd.func14
theorem good_box_Box_Len (W0 : World) (S : Nat → Prop) (bs : List Nat := []) : Good (cx_box_Box_Len W0 S bs) := ⟨List.forall_mem_cons.2 ⟨ok3, List.forall_mem_cons.2 ⟨ok4, List.forall_mem_cons.2 ⟨ok5, List.forall_mem_cons.2 ⟨ok9, List.forall_mem_cons.2 ⟨ok24, List.forall_mem_cons.2 ⟨ok26, List.forall_mem_cons.2 ⟨ok74, List.forall_mem_cons.2 ⟨ok75, List.forall_mem_cons.2 ⟨ok77, List.forall_mem_cons.2 ⟨ok148, List.forall_mem_cons.2 ⟨ok150, (fun _ h => by cases h)⟩⟩⟩⟩⟩⟩⟩⟩⟩⟩⟩, (fun _ h => by cases h), mixed⟩
/-- ostiary/proof.Message -/
noncomputable def cx_proof_Message (W0 : World) (S : Nat → Prop) (bs : List Nat := []) : Cx := ⟨Tryd.prog, W0, S, 12, [(9, ti9), (45, ti45)], [46], bs, none, []⟩
abbrev n_proof_Message : FuncId := 15
theorem b_proof_Message : Tryd.prog.funcs[n_proof_Message]? = some Tryd.f15 := Tryd.func15
theorem good_proof_Message (W0 : World) (S : Nat → Prop) (bs : List Nat := []) : Good (cx_proof_Message W0 S bs) := ⟨List.forall_mem_cons.2 ⟨ok9, List.forall_mem_cons.2 ⟨ok45, (fun _ h => by cases h)⟩⟩, List.forall_mem_cons.2 ⟨by kernel_rfl, (fun _ h => by cases h)⟩, mixed⟩
/-- ostiary/proof.Equal -/
noncomputable def cx_proof_Equal (W0 : World) (S : Nat → Prop) (bs : List Nat := []) : Cx := ⟨Tryd.prog, W0, S, 8, [(5, ti5), (26, ti26)], [47], bs, none, []⟩
abbrev n_proof_Equal : FuncId := 16
theorem b_proof_Equal : Tryd.prog.funcs[n_proof_Equal]? = some Tryd.f16 := Tryd.func16
theorem good_proof_Equal (W0 : World) (S : Nat → Prop) (bs : List Nat := []) : Good (cx_proof_Equal W0 S bs) := ⟨List.forall_mem_cons.2 ⟨ok5, List.forall_mem_cons.2 ⟨ok26, (fun _ h => by cases h)⟩⟩, List.forall_mem_cons.2 ⟨by kernel_rfl, (fun _ h => by cases h)⟩, mixed⟩
/-- ostiary/ostiarylaw14.awake -/
noncomputable def cx_ostiarylaw14_awake (W0 : World) (S : Nat → Prop) (bs : List Nat := []) : Cx := ⟨Tryd.prog, W0, S, 58, [(3, ti3), (4, ti4), (5, ti5), (9, ti9), (26, ti26), (29, ti29), (38, ti38), (40, ti40), (44, ti44), (45, ti45), (47, ti47)], [18, 19, 20, 21, 22, 23, 37, 48, 49], bs, none, []⟩
abbrev n_ostiarylaw14_awake : FuncId := 17
theorem b_ostiarylaw14_awake : Tryd.prog.funcs[n_ostiarylaw14_awake]? = some Tryd.f17 := Tryd.func17
theorem good_ostiarylaw14_awake (W0 : World) (S : Nat → Prop) (bs : List Nat := []) : Good (cx_ostiarylaw14_awake W0 S bs) := ⟨List.forall_mem_cons.2 ⟨ok3, List.forall_mem_cons.2 ⟨ok4, List.forall_mem_cons.2 ⟨ok5, List.forall_mem_cons.2 ⟨ok9, List.forall_mem_cons.2 ⟨ok26, List.forall_mem_cons.2 ⟨ok29, List.forall_mem_cons.2 ⟨ok38, List.forall_mem_cons.2 ⟨ok40, List.forall_mem_cons.2 ⟨ok44, List.forall_mem_cons.2 ⟨ok45, List.forall_mem_cons.2 ⟨ok47, (fun _ h => by cases h)⟩⟩⟩⟩⟩⟩⟩⟩⟩⟩⟩, List.forall_mem_cons.2 ⟨by kernel_rfl, List.forall_mem_cons.2 ⟨by kernel_rfl, List.forall_mem_cons.2 ⟨by kernel_rfl, List.forall_mem_cons.2 ⟨by kernel_rfl, List.forall_mem_cons.2 ⟨by kernel_rfl, List.forall_mem_cons.2 ⟨by kernel_rfl, List.forall_mem_cons.2 ⟨by kernel_rfl, List.forall_mem_cons.2 ⟨by kernel_rfl, List.forall_mem_cons.2 ⟨by kernel_rfl, (fun _ h => by cases h)⟩⟩⟩⟩⟩⟩⟩⟩⟩, mixed⟩
/-- ostiary/cred.New -/
noncomputable def cx_cred_New (W0 : World) (S : Nat → Prop) (bs : List Nat := []) : Cx := ⟨Tryd.prog, W0, S, 4, [(9, ti9), (44, ti44), (84, ti84), (86, ti86), (88, ti88), (92, ti92)], [], bs, none, []⟩
abbrev n_cred_New : FuncId := 18
theorem b_cred_New : Tryd.prog.funcs[n_cred_New]? = some Tryd.f18 := Tryd.func18
theorem good_cred_New (W0 : World) (S : Nat → Prop) (bs : List Nat := []) : Good (cx_cred_New W0 S bs) := ⟨List.forall_mem_cons.2 ⟨ok9, List.forall_mem_cons.2 ⟨ok44, List.forall_mem_cons.2 ⟨ok84, List.forall_mem_cons.2 ⟨ok86, List.forall_mem_cons.2 ⟨ok88, List.forall_mem_cons.2 ⟨ok92, (fun _ h => by cases h)⟩⟩⟩⟩⟩⟩, (fun _ h => by cases h), mixed⟩
/-- (*ostiary/cred.Store).AddTenant -/
noncomputable def cx_cred_Store_AddTenant (W0 : World) (S : Nat → Prop) (bs : List Nat := []) : Cx := ⟨Tryd.prog, W0, S, 30, [(3, ti3), (9, ti9), (38, ti38), (44, ti44), (84, ti84), (86, ti86), (88, ti88), (92, ti92)], [50, 51], bs, none, []⟩
abbrev n_cred_Store_AddTenant : FuncId := 19
theorem b_cred_Store_AddTenant : Tryd.prog.funcs[n_cred_Store_AddTenant]? = some Tryd.f19 := Tryd.func19
theorem good_cred_Store_AddTenant (W0 : World) (S : Nat → Prop) (bs : List Nat := []) : Good (cx_cred_Store_AddTenant W0 S bs) := ⟨List.forall_mem_cons.2 ⟨ok3, List.forall_mem_cons.2 ⟨ok9, List.forall_mem_cons.2 ⟨ok38, List.forall_mem_cons.2 ⟨ok44, List.forall_mem_cons.2 ⟨ok84, List.forall_mem_cons.2 ⟨ok86, List.forall_mem_cons.2 ⟨ok88, List.forall_mem_cons.2 ⟨ok92, (fun _ h => by cases h)⟩⟩⟩⟩⟩⟩⟩⟩, List.forall_mem_cons.2 ⟨by kernel_rfl, List.forall_mem_cons.2 ⟨by kernel_rfl, (fun _ h => by cases h)⟩⟩, mixed⟩
/-- (*ostiary/cred.Store).Add -/
noncomputable def cx_cred_Store_Add (W0 : World) (S : Nat → Prop) (bs : List Nat := []) : Cx := ⟨Tryd.prog, W0, S, 59, [(3, ti3), (4, ti4), (5, ti5), (9, ti9), (26, ti26), (29, ti29), (38, ti38), (40, ti40), (44, ti44), (45, ti45), (47, ti47), (84, ti84), (86, ti86), (88, ti88), (92, ti92)], [51, 52, 53, 54, 55], bs, none, []⟩
abbrev n_cred_Store_Add : FuncId := 20
theorem b_cred_Store_Add : Tryd.prog.funcs[n_cred_Store_Add]? = some Tryd.f20 := Tryd.func20
theorem good_cred_Store_Add (W0 : World) (S : Nat → Prop) (bs : List Nat := []) : Good (cx_cred_Store_Add W0 S bs) := ⟨List.forall_mem_cons.2 ⟨ok3, List.forall_mem_cons.2 ⟨ok4, List.forall_mem_cons.2 ⟨ok5, List.forall_mem_cons.2 ⟨ok9, List.forall_mem_cons.2 ⟨ok26, List.forall_mem_cons.2 ⟨ok29, List.forall_mem_cons.2 ⟨ok38, List.forall_mem_cons.2 ⟨ok40, List.forall_mem_cons.2 ⟨ok44, List.forall_mem_cons.2 ⟨ok45, List.forall_mem_cons.2 ⟨ok47, List.forall_mem_cons.2 ⟨ok84, List.forall_mem_cons.2 ⟨ok86, List.forall_mem_cons.2 ⟨ok88, List.forall_mem_cons.2 ⟨ok92, (fun _ h => by cases h)⟩⟩⟩⟩⟩⟩⟩⟩⟩⟩⟩⟩⟩⟩⟩, List.forall_mem_cons.2 ⟨by kernel_rfl, List.forall_mem_cons.2 ⟨by kernel_rfl, List.forall_mem_cons.2 ⟨by kernel_rfl, List.forall_mem_cons.2 ⟨by kernel_rfl, List.forall_mem_cons.2 ⟨by kernel_rfl, (fun _ h => by cases h)⟩⟩⟩⟩⟩, mixed⟩
/-- ostiary/ostiarylaw14.plain -/
noncomputable def cx_ostiarylaw14_plain (W0 : World) (S : Nat → Prop) (bs : List Nat := []) : Cx := ⟨Tryd.prog, W0, S, 6, [(3, ti3), (5, ti5), (26, ti26), (29, ti29)], [], bs, none, []⟩
abbrev n_ostiarylaw14_plain : FuncId := 21
theorem b_ostiarylaw14_plain : Tryd.prog.funcs[n_ostiarylaw14_plain]? = some Tryd.f21 := Tryd.func21
def p_ostiarylaw14_plain_1 : Plan := .alt 0 (.alt 1 (.alt 2 (.exec 3 (.take 4 (.exec 5 (.done)))) (.exec 3 (.exec 2 (.take 4 (.exec 5 (.done)))))) (.alt 2 (.alt 1 (.exec 3 (.take 4 (.exec 5 (.done)))) (.exec 3 (.exec 1 (.take 4 (.exec 5 (.done)))))) (.exec 3 (.alt 1 (.exec 2 (.take 4 (.exec 5 (.done)))) (.exec 2 (.exec 1 (.take 4 (.exec 5 (.done))))))))) (.alt 1 (.alt 0 (.alt 2 (.exec 3 (.take 4 (.exec 5 (.done)))) (.exec 3 (.exec 2 (.take 4 (.exec 5 (.done)))))) (.alt 2 (.alt 0 (.exec 3 (.take 4 (.exec 5 (.done)))) (.exec 3 (.exec 0 (.take 4 (.exec 5 (.done)))))) (.exec 3 (.alt 0 (.exec 2 (.take 4 (.exec 5 (.done)))) (.exec 2 (.exec 0 (.take 4 (.exec 5 (.done))))))))) (.alt 2 (.alt 0 (.alt 1 (.exec 3 (.take 4 (.exec 5 (.done)))) (.exec 3 (.exec 1 (.take 4 (.exec 5 (.done)))))) (.alt 1 (.alt 0 (.exec 3 (.take 4 (.exec 5 (.done)))) (.exec 3 (.exec 0 (.take 4 (.exec 5 (.done)))))) (.exec 3 (.alt 0 (.exec 1 (.take 4 (.exec 5 (.done)))) (.exec 1 (.exec 0 (.take 4 (.exec 5 (.done))))))))) (.exec 3 (.alt 0 (.alt 1 (.exec 2 (.take 4 (.exec 5 (.done)))) (.exec 2 (.exec 1 (.take 4 (.exec 5 (.done)))))) (.alt 1 (.alt 0 (.exec 2 (.take 4 (.exec 5 (.done)))) (.exec 2 (.exec 0 (.take 4 (.exec 5 (.done)))))) (.exec 2 (.alt 0 (.exec 1 (.take 4 (.exec 5 (.done)))) (.exec 1 (.exec 0 (.take 4 (.exec 5 (.done))))))))))))
theorem good_ostiarylaw14_plain (W0 : World) (S : Nat → Prop) (bs : List Nat := []) : Good (cx_ostiarylaw14_plain W0 S bs) := ⟨List.forall_mem_cons.2 ⟨ok3, List.forall_mem_cons.2 ⟨ok5, List.forall_mem_cons.2 ⟨ok26, List.forall_mem_cons.2 ⟨ok29, (fun _ h => by cases h)⟩⟩⟩⟩, (fun _ h => by cases h), mixed⟩
/-- (*ostiary/cred.Store).Find -/
noncomputable def cx_cred_Store_Find (W0 : World) (S : Nat → Prop) (bs : List Nat := []) : Cx := ⟨Tryd.prog, W0, S, 30, [(3, ti3), (4, ti4), (5, ti5), (9, ti9), (26, ti26), (29, ti29), (38, ti38), (44, ti44), (45, ti45), (47, ti47), (84, ti84), (86, ti86), (88, ti88), (92, ti92)], [56, 57], bs, none, []⟩
abbrev n_cred_Store_Find : FuncId := 22
theorem b_cred_Store_Find : Tryd.prog.funcs[n_cred_Store_Find]? = some Tryd.f22 := Tryd.func22
theorem good_cred_Store_Find (W0 : World) (S : Nat → Prop) (bs : List Nat := []) : Good (cx_cred_Store_Find W0 S bs) := ⟨List.forall_mem_cons.2 ⟨ok3, List.forall_mem_cons.2 ⟨ok4, List.forall_mem_cons.2 ⟨ok5, List.forall_mem_cons.2 ⟨ok9, List.forall_mem_cons.2 ⟨ok26, List.forall_mem_cons.2 ⟨ok29, List.forall_mem_cons.2 ⟨ok38, List.forall_mem_cons.2 ⟨ok44, List.forall_mem_cons.2 ⟨ok45, List.forall_mem_cons.2 ⟨ok47, List.forall_mem_cons.2 ⟨ok84, List.forall_mem_cons.2 ⟨ok86, List.forall_mem_cons.2 ⟨ok88, List.forall_mem_cons.2 ⟨ok92, (fun _ h => by cases h)⟩⟩⟩⟩⟩⟩⟩⟩⟩⟩⟩⟩⟩⟩, List.forall_mem_cons.2 ⟨by kernel_rfl, List.forall_mem_cons.2 ⟨by kernel_rfl, (fun _ h => by cases h)⟩⟩, mixed⟩
/-- (*ostiary/cred.Store).Current -/
noncomputable def cx_cred_Store_Current (W0 : World) (S : Nat → Prop) (bs : List Nat := []) : Cx := ⟨Tryd.prog, W0, S, 31, [(3, ti3), (4, ti4), (5, ti5), (9, ti9), (26, ti26), (29, ti29), (38, ti38), (44, ti44), (45, ti45), (47, ti47), (92, ti92)], [56], bs, none, []⟩
abbrev n_cred_Store_Current : FuncId := 23
theorem b_cred_Store_Current : Tryd.prog.funcs[n_cred_Store_Current]? = some Tryd.f23 := Tryd.func23
theorem good_cred_Store_Current (W0 : World) (S : Nat → Prop) (bs : List Nat := []) : Good (cx_cred_Store_Current W0 S bs) := ⟨List.forall_mem_cons.2 ⟨ok3, List.forall_mem_cons.2 ⟨ok4, List.forall_mem_cons.2 ⟨ok5, List.forall_mem_cons.2 ⟨ok9, List.forall_mem_cons.2 ⟨ok26, List.forall_mem_cons.2 ⟨ok29, List.forall_mem_cons.2 ⟨ok38, List.forall_mem_cons.2 ⟨ok44, List.forall_mem_cons.2 ⟨ok45, List.forall_mem_cons.2 ⟨ok47, List.forall_mem_cons.2 ⟨ok92, (fun _ h => by cases h)⟩⟩⟩⟩⟩⟩⟩⟩⟩⟩⟩, List.forall_mem_cons.2 ⟨by kernel_rfl, (fun _ h => by cases h)⟩, mixed⟩
/-- (*ostiary/cred.Store).Drop -/
noncomputable def cx_cred_Store_Drop (W0 : World) (S : Nat → Prop) (bs : List Nat := []) : Cx := ⟨Tryd.prog, W0, S, 24, [(3, ti3), (4, ti4), (5, ti5), (9, ti9), (26, ti26), (29, ti29), (38, ti38), (44, ti44), (45, ti45), (47, ti47), (84, ti84), (86, ti86), (88, ti88), (92, ti92)], [56], bs, none, []⟩
abbrev n_cred_Store_Drop : FuncId := 24
theorem b_cred_Store_Drop : Tryd.prog.funcs[n_cred_Store_Drop]? = some Tryd.f24 := Tryd.func24
def p_cred_Store_Drop_4 : Plan := .take 0 (.take 1 (.take 2 (.take 3 (.take 4 (.take 5 (.take 6 (.take 7 (.take 8 (.take 9 (.exec 10 (.done)))))))))))
theorem good_cred_Store_Drop (W0 : World) (S : Nat → Prop) (bs : List Nat := []) : Good (cx_cred_Store_Drop W0 S bs) := ⟨List.forall_mem_cons.2 ⟨ok3, List.forall_mem_cons.2 ⟨ok4, List.forall_mem_cons.2 ⟨ok5, List.forall_mem_cons.2 ⟨ok9, List.forall_mem_cons.2 ⟨ok26, List.forall_mem_cons.2 ⟨ok29, List.forall_mem_cons.2 ⟨ok38, List.forall_mem_cons.2 ⟨ok44, List.forall_mem_cons.2 ⟨ok45, List.forall_mem_cons.2 ⟨ok47, List.forall_mem_cons.2 ⟨ok84, List.forall_mem_cons.2 ⟨ok86, List.forall_mem_cons.2 ⟨ok88, List.forall_mem_cons.2 ⟨ok92, (fun _ h => by cases h)⟩⟩⟩⟩⟩⟩⟩⟩⟩⟩⟩⟩⟩⟩, List.forall_mem_cons.2 ⟨by kernel_rfl, (fun _ h => by cases h)⟩, mixed⟩
/-- ostiary/ostiarylaw05.awake -/
noncomputable def cx_ostiarylaw05_awake (W0 : World) (S : Nat → Prop) (bs : List Nat := []) : Cx := ⟨Tryd.prog, W0, S, 63, [(3, ti3), (4, ti4), (5, ti5), (24, ti24), (26, ti26), (40, ti40), (123, ti123)], [9, 14, 27, 28, 58, 59], bs, none, []⟩
abbrev n_ostiarylaw05_awake : FuncId := 25
theorem b_ostiarylaw05_awake : Tryd.prog.funcs[n_ostiarylaw05_awake]? = some Tryd.f25 := Tryd.func25
theorem good_ostiarylaw05_awake (W0 : World) (S : Nat → Prop) (bs : List Nat := []) : Good (cx_ostiarylaw05_awake W0 S bs) := ⟨List.forall_mem_cons.2 ⟨ok3, List.forall_mem_cons.2 ⟨ok4, List.forall_mem_cons.2 ⟨ok5, List.forall_mem_cons.2 ⟨ok24, List.forall_mem_cons.2 ⟨ok26, List.forall_mem_cons.2 ⟨ok40, List.forall_mem_cons.2 ⟨ok123, (fun _ h => by cases h)⟩⟩⟩⟩⟩⟩⟩, List.forall_mem_cons.2 ⟨by kernel_rfl, List.forall_mem_cons.2 ⟨by kernel_rfl, List.forall_mem_cons.2 ⟨by kernel_rfl, List.forall_mem_cons.2 ⟨by kernel_rfl, List.forall_mem_cons.2 ⟨by kernel_rfl, List.forall_mem_cons.2 ⟨by kernel_rfl, (fun _ h => by cases h)⟩⟩⟩⟩⟩⟩, mixed⟩
/-- ostiary/box.Handle -/
noncomputable def cx_box_Handle (W0 : World) (S : Nat → Prop) (bs : List Nat := []) : Cx := ⟨Tryd.prog, W0, S, 17, [(3, ti3), (5, ti5), (26, ti26)], [60], bs, none, []⟩
abbrev n_box_Handle : FuncId := 26
theorem b_box_Handle : Tryd.prog.funcs[n_box_Handle]? = some Tryd.f26 := Tryd.func26
theorem good_box_Handle (W0 : World) (S : Nat → Prop) (bs : List Nat := []) : Good (cx_box_Handle W0 S bs) := ⟨List.forall_mem_cons.2 ⟨ok3, List.forall_mem_cons.2 ⟨ok5, List.forall_mem_cons.2 ⟨ok26, (fun _ h => by cases h)⟩⟩⟩, List.forall_mem_cons.2 ⟨by kernel_rfl, (fun _ h => by cases h)⟩, mixed⟩
/-- ostiary/box.Number -/
noncomputable def cx_box_Number (W0 : World) (S : Nat → Prop) (bs : List Nat := []) : Cx := ⟨Tryd.prog, W0, S, 33, [(3, ti3), (5, ti5), (26, ti26)], [60, 61], bs, none, []⟩
abbrev n_box_Number : FuncId := 27
theorem b_box_Number : Tryd.prog.funcs[n_box_Number]? = some Tryd.f27 := Tryd.func27
def p_box_Number_1 : Plan := .take 0 (.take 1 (.take 2 (.take 3 (.take 4 (.take 5 (.exec 6 (.exec 7 (.take 8 (.take 9 (.done))))))))))
theorem good_box_Number (W0 : World) (S : Nat → Prop) (bs : List Nat := []) : Good (cx_box_Number W0 S bs) := ⟨List.forall_mem_cons.2 ⟨ok3, List.forall_mem_cons.2 ⟨ok5, List.forall_mem_cons.2 ⟨ok26, (fun _ h => by cases h)⟩⟩⟩, List.forall_mem_cons.2 ⟨by kernel_rfl, List.forall_mem_cons.2 ⟨by kernel_rfl, (fun _ h => by cases h)⟩⟩, mixed⟩
/-- ostiary/ostiaryref01.Same -/
noncomputable def cx_ostiaryref01_Same (W0 : World) (S : Nat → Prop) (bs : List Nat := []) : Cx := ⟨Tryd.prog, W0, S, 10, [(5, ti5), (9, ti9), (26, ti26)], [], bs, none, []⟩
abbrev n_ostiaryref01_Same : FuncId := 28
theorem b_ostiaryref01_Same : Tryd.prog.funcs[n_ostiaryref01_Same]? = some Tryd.f28 := Tryd.func28
theorem good_ostiaryref01_Same (W0 : World) (S : Nat → Prop) (bs : List Nat := []) : Good (cx_ostiaryref01_Same W0 S bs) := ⟨List.forall_mem_cons.2 ⟨ok5, List.forall_mem_cons.2 ⟨ok9, List.forall_mem_cons.2 ⟨ok26, (fun _ h => by cases h)⟩⟩⟩, (fun _ h => by cases h), mixed⟩
/-- ostiary/ostiaryref05.Handle -/
noncomputable def cx_ostiaryref05_Handle (W0 : World) (S : Nat → Prop) (bs : List Nat := []) : Cx := ⟨Tryd.prog, W0, S, 9, [(3, ti3), (5, ti5), (26, ti26), (44, ti44), (53, ti53)], [62, 63], bs, none, []⟩
abbrev n_ostiaryref05_Handle : FuncId := 29
theorem b_ostiaryref05_Handle : Tryd.prog.funcs[n_ostiaryref05_Handle]? = some Tryd.f29 := Tryd.func29
theorem good_ostiaryref05_Handle (W0 : World) (S : Nat → Prop) (bs : List Nat := []) : Good (cx_ostiaryref05_Handle W0 S bs) := ⟨List.forall_mem_cons.2 ⟨ok3, List.forall_mem_cons.2 ⟨ok5, List.forall_mem_cons.2 ⟨ok26, List.forall_mem_cons.2 ⟨ok44, List.forall_mem_cons.2 ⟨ok53, (fun _ h => by cases h)⟩⟩⟩⟩⟩, List.forall_mem_cons.2 ⟨by kernel_rfl, List.forall_mem_cons.2 ⟨by kernel_rfl, (fun _ h => by cases h)⟩⟩, mixed⟩
/-- ostiary/ostiaryref01.Cut -/
noncomputable def cx_ostiaryref01_Cut (W0 : World) (S : Nat → Prop) (bs : List Nat := []) : Cx := ⟨Tryd.prog, W0, S, 13, [(3, ti3), (5, ti5), (26, ti26)], [], bs, none, []⟩
abbrev n_ostiaryref01_Cut : FuncId := 30
theorem b_ostiaryref01_Cut : Tryd.prog.funcs[n_ostiaryref01_Cut]? = some Tryd.f30 := Tryd.func30
theorem good_ostiaryref01_Cut (W0 : World) (S : Nat → Prop) (bs : List Nat := []) : Good (cx_ostiaryref01_Cut W0 S bs) := ⟨List.forall_mem_cons.2 ⟨ok3, List.forall_mem_cons.2 ⟨ok5, List.forall_mem_cons.2 ⟨ok26, (fun _ h => by cases h)⟩⟩⟩, (fun _ h => by cases h), mixed⟩
/-- ostiary/ostiaryref01.Copy -/
noncomputable def cx_ostiaryref01_Copy (W0 : World) (S : Nat → Prop) (bs : List Nat := []) : Cx := ⟨Tryd.prog, W0, S, 6, [(5, ti5), (26, ti26)], [], bs, none, []⟩
abbrev n_ostiaryref01_Copy : FuncId := 31
theorem b_ostiaryref01_Copy : Tryd.prog.funcs[n_ostiaryref01_Copy]? = some Tryd.f31 := Tryd.func31
theorem good_ostiaryref01_Copy (W0 : World) (S : Nat → Prop) (bs : List Nat := []) : Good (cx_ostiaryref01_Copy W0 S bs) := ⟨List.forall_mem_cons.2 ⟨ok5, List.forall_mem_cons.2 ⟨ok26, (fun _ h => by cases h)⟩⟩, (fun _ h => by cases h), mixed⟩
/-- ostiary/ostiaryref05.Finds -/
noncomputable def cx_ostiaryref05_Finds (W0 : World) (S : Nat → Prop) (bs : List Nat := []) : Cx := ⟨Tryd.prog, W0, S, 37, [(3, ti3), (5, ti5), (26, ti26), (59, ti59), (102, ti102)], [64], bs, none, []⟩
abbrev n_ostiaryref05_Finds : FuncId := 32
theorem b_ostiaryref05_Finds : Tryd.prog.funcs[n_ostiaryref05_Finds]? = some Tryd.f32 := Tryd.func32
theorem good_ostiaryref05_Finds (W0 : World) (S : Nat → Prop) (bs : List Nat := []) : Good (cx_ostiaryref05_Finds W0 S bs) := ⟨List.forall_mem_cons.2 ⟨ok3, List.forall_mem_cons.2 ⟨ok5, List.forall_mem_cons.2 ⟨ok26, List.forall_mem_cons.2 ⟨ok59, List.forall_mem_cons.2 ⟨ok102, (fun _ h => by cases h)⟩⟩⟩⟩⟩, List.forall_mem_cons.2 ⟨by kernel_rfl, (fun _ h => by cases h)⟩, mixed⟩
/-- ostiary/ostiarylaw05.same -/
noncomputable def cx_ostiarylaw05_same (W0 : World) (S : Nat → Prop) (bs : List Nat := []) : Cx := ⟨Tryd.prog, W0, S, 26, [(3, ti3), (59, ti59), (102, ti102)], [], bs, none, []⟩
abbrev n_ostiarylaw05_same : FuncId := 33
theorem b_ostiarylaw05_same : Tryd.prog.funcs[n_ostiarylaw05_same]? = some Tryd.f33 := Tryd.func33
def p_ostiarylaw05_same_6 : Plan := .take 0 (.take 1 (.take 2 (.take 3 (.take 4 (.take 5 (.take 6 (.take 7 (.take 8 (.done)))))))))
theorem good_ostiarylaw05_same (W0 : World) (S : Nat → Prop) (bs : List Nat := []) : Good (cx_ostiarylaw05_same W0 S bs) := ⟨List.forall_mem_cons.2 ⟨ok3, List.forall_mem_cons.2 ⟨ok59, List.forall_mem_cons.2 ⟨ok102, (fun _ h => by cases h)⟩⟩⟩, (fun _ h => by cases h), mixed⟩
/-- ostiary/ostiarylaw05.finds -/
noncomputable def cx_ostiarylaw05_finds (W0 : World) (S : Nat → Prop) (bs : List Nat := []) : Cx := ⟨Tryd.prog, W0, S, 23, [(3, ti3), (5, ti5), (26, ti26), (59, ti59), (102, ti102)], [65], bs, none, []⟩
abbrev n_ostiarylaw05_finds : FuncId := 34
theorem b_ostiarylaw05_finds : Tryd.prog.funcs[n_ostiarylaw05_finds]? = some Tryd.f34 := Tryd.func34
theorem good_ostiarylaw05_finds (W0 : World) (S : Nat → Prop) (bs : List Nat := []) : Good (cx_ostiarylaw05_finds W0 S bs) := ⟨List.forall_mem_cons.2 ⟨ok3, List.forall_mem_cons.2 ⟨ok5, List.forall_mem_cons.2 ⟨ok26, List.forall_mem_cons.2 ⟨ok59, List.forall_mem_cons.2 ⟨ok102, (fun _ h => by cases h)⟩⟩⟩⟩⟩, List.forall_mem_cons.2 ⟨by kernel_rfl, (fun _ h => by cases h)⟩, mixed⟩
/-- ostiary/ostiarylaw14.CredMost$1 -/
noncomputable def cx_ostiarylaw14_CredMost_1 (W0 : World) (S : Nat → Prop) (bs : List Nat := []) : Cx := ⟨Tryd.prog, W0, S, 8, [(3, ti3), (5, ti5), (9, ti9), (26, ti26)], [36], bs, none, []⟩
abbrev n_ostiarylaw14_CredMost_1 : FuncId := 35
theorem b_ostiarylaw14_CredMost_1 : Tryd.prog.funcs[n_ostiarylaw14_CredMost_1]? = some Tryd.f35 := Tryd.func35
theorem good_ostiarylaw14_CredMost_1 (W0 : World) (S : Nat → Prop) (bs : List Nat := []) : Good (cx_ostiarylaw14_CredMost_1 W0 S bs) := ⟨List.forall_mem_cons.2 ⟨ok3, List.forall_mem_cons.2 ⟨ok5, List.forall_mem_cons.2 ⟨ok9, List.forall_mem_cons.2 ⟨ok26, (fun _ h => by cases h)⟩⟩⟩⟩, List.forall_mem_cons.2 ⟨by kernel_rfl, (fun _ h => by cases h)⟩, mixed⟩
/-- ostiary/ostiaryref01.Hex -/
noncomputable def cx_ostiaryref01_Hex (W0 : World) (S : Nat → Prop) (bs : List Nat := []) : Cx := ⟨Tryd.prog, W0, S, 29, [(3, ti3), (5, ti5), (9, ti9), (26, ti26)], [], bs, none, []⟩
abbrev n_ostiaryref01_Hex : FuncId := 36
theorem b_ostiaryref01_Hex : Tryd.prog.funcs[n_ostiaryref01_Hex]? = some Tryd.f36 := Tryd.func36
def p_ostiaryref01_Hex_5 : Plan := .take 0 (.take 1 (.take 2 (.take 3 (.take 4 (.take 5 (.take 6 (.take 7 (.take 8 (.take 9 (.take 10 (.take 11 (.take 12 (.take 13 (.take 14 (.take 15 (.done))))))))))))))))
theorem good_ostiaryref01_Hex (W0 : World) (S : Nat → Prop) (bs : List Nat := []) : Good (cx_ostiaryref01_Hex W0 S bs) := ⟨List.forall_mem_cons.2 ⟨ok3, List.forall_mem_cons.2 ⟨ok5, List.forall_mem_cons.2 ⟨ok9, List.forall_mem_cons.2 ⟨ok26, (fun _ h => by cases h)⟩⟩⟩⟩, (fun _ h => by cases h), mixed⟩
/-- (*ostiary/cred.Store).Grant -/
noncomputable def cx_cred_Store_Grant (W0 : World) (S : Nat → Prop) (bs : List Nat := []) : Cx := ⟨Tryd.prog, W0, S, 63, [(3, ti3), (4, ti4), (5, ti5), (9, ti9), (26, ti26), (29, ti29), (38, ti38), (44, ti44), (45, ti45), (47, ti47), (84, ti84), (86, ti86), (88, ti88), (92, ti92)], [50, 55, 56, 66, 67, 68], bs, none, []⟩
abbrev n_cred_Store_Grant : FuncId := 37
theorem b_cred_Store_Grant : Tryd.prog.funcs[n_cred_Store_Grant]? = some Tryd.f37 := Tryd.func37
theorem good_cred_Store_Grant (W0 : World) (S : Nat → Prop) (bs : List Nat := []) : Good (cx_cred_Store_Grant W0 S bs) := ⟨List.forall_mem_cons.2 ⟨ok3, List.forall_mem_cons.2 ⟨ok4, List.forall_mem_cons.2 ⟨ok5, List.forall_mem_cons.2 ⟨ok9, List.forall_mem_cons.2 ⟨ok26, List.forall_mem_cons.2 ⟨ok29, List.forall_mem_cons.2 ⟨ok38, List.forall_mem_cons.2 ⟨ok44, List.forall_mem_cons.2 ⟨ok45, List.forall_mem_cons.2 ⟨ok47, List.forall_mem_cons.2 ⟨ok84, List.forall_mem_cons.2 ⟨ok86, List.forall_mem_cons.2 ⟨ok88, List.forall_mem_cons.2 ⟨ok92, (fun _ h => by cases h)⟩⟩⟩⟩⟩⟩⟩⟩⟩⟩⟩⟩⟩⟩, List.forall_mem_cons.2 ⟨by kernel_rfl, List.forall_mem_cons.2 ⟨by kernel_rfl, List.forall_mem_cons.2 ⟨by kernel_rfl, List.forall_mem_cons.2 ⟨by kernel_rfl, List.forall_mem_cons.2 ⟨by kernel_rfl, List.forall_mem_cons.2 ⟨by kernel_rfl, (fun _ h => by cases h)⟩⟩⟩⟩⟩⟩, mixed⟩
/-- (*ostiary/cred.Store).DropTenant -/
noncomputable def cx_cred_Store_DropTenant (W0 : World) (S : Nat → Prop) (bs : List Nat := []) : Cx := ⟨Tryd.prog, W0, S, 14, [(9, ti9), (38, ti38), (44, ti44), (84, ti84), (86, ti86), (88, ti88), (92, ti92)], [51], bs, none, []⟩
abbrev n_cred_Store_DropTenant : FuncId := 38
theorem b_cred_Store_DropTenant : Tryd.prog.funcs[n_cred_Store_DropTenant]? = some Tryd.f38 := Tryd.func38
theorem good_cred_Store_DropTenant (W0 : World) (S : Nat → Prop) (bs : List Nat := []) : Good (cx_cred_Store_DropTenant W0 S bs) := ⟨List.forall_mem_cons.2 ⟨ok9, List.forall_mem_cons.2 ⟨ok38, List.forall_mem_cons.2 ⟨ok44, List.forall_mem_cons.2 ⟨ok84, List.forall_mem_cons.2 ⟨ok86, List.forall_mem_cons.2 ⟨ok88, List.forall_mem_cons.2 ⟨ok92, (fun _ h => by cases h)⟩⟩⟩⟩⟩⟩⟩, List.forall_mem_cons.2 ⟨by kernel_rfl, (fun _ h => by cases h)⟩, mixed⟩
/-- ostiary/ostiarylaw14.users -/
noncomputable def cx_ostiarylaw14_users (W0 : World) (S : Nat → Prop) (bs : List Nat := []) : Cx := ⟨Tryd.prog, W0, S, 33, [(3, ti3), (4, ti4), (5, ti5), (9, ti9), (26, ti26), (28, ti28), (29, ti29), (38, ti38), (44, ti44), (45, ti45), (47, ti47), (67, ti67), (111, ti111), (113, ti113), (116, ti116), (119, ti119)], [69, 70, 71, 72, 73], bs, none, []⟩
abbrev n_ostiarylaw14_users : FuncId := 39
theorem b_ostiarylaw14_users : Tryd.prog.funcs[n_ostiarylaw14_users]? = some Tryd.f39 := Tryd.func39
theorem good_ostiarylaw14_users (W0 : World) (S : Nat → Prop) (bs : List Nat := []) : Good (cx_ostiarylaw14_users W0 S bs) := ⟨List.forall_mem_cons.2 ⟨ok3, List.forall_mem_cons.2 ⟨ok4, List.forall_mem_cons.2 ⟨ok5, List.forall_mem_cons.2 ⟨ok9, List.forall_mem_cons.2 ⟨ok26, List.forall_mem_cons.2 ⟨ok28, List.forall_mem_cons.2 ⟨ok29, List.forall_mem_cons.2 ⟨ok38, List.forall_mem_cons.2 ⟨ok44, List.forall_mem_cons.2 ⟨ok45, List.forall_mem_cons.2 ⟨ok47, List.forall_mem_cons.2 ⟨ok67, List.forall_mem_cons.2 ⟨ok111, List.forall_mem_cons.2 ⟨ok113, List.forall_mem_cons.2 ⟨ok116, List.forall_mem_cons.2 ⟨ok119, (fun _ h => by cases h)⟩⟩⟩⟩⟩⟩⟩⟩⟩⟩⟩⟩⟩⟩⟩⟩, List.forall_mem_cons.2 ⟨by kernel_rfl, List.forall_mem_cons.2 ⟨by kernel_rfl, List.forall_mem_cons.2 ⟨by kernel_rfl, List.forall_mem_cons.2 ⟨by kernel_rfl, List.forall_mem_cons.2 ⟨by kernel_rfl, (fun _ h => by cases h)⟩⟩⟩⟩⟩, mixed⟩
/-- ostiary/proof.Response -/
noncomputable def cx_proof_Response (W0 : World) (S : Nat → Prop) (bs : List Nat := []) : Cx := ⟨Tryd.prog, W0, S, 34, [(5, ti5), (9, ti9), (24, ti24), (26, ti26), (45, ti45), (53, ti53), (71, ti71), (123, ti123)], [58, 74, 75, 76], bs, none, []⟩
abbrev n_proof_Response : FuncId := 40
theorem b_proof_Response : Tryd.prog.funcs[n_proof_Response]? = some Tryd.f40 := Tryd.func40
def p_proof_Response_2 : Plan := .take 0 (.take 1 (.take 3 (.take 4 (.take 5 (.take 6 (.take 8 (.take 9 (.take 10 (.exec 2 (.exec 7 (.exec 11 (.exec 12 (.exec 13 (.exec 14 (.exec 15 (.take 16 (.done)))))))))))))))))
theorem good_proof_Response (W0 : World) (S : Nat → Prop) (bs : List Nat := []) : Good (cx_proof_Response W0 S bs) := ⟨List.forall_mem_cons.2 ⟨ok5, List.forall_mem_cons.2 ⟨ok9, List.forall_mem_cons.2 ⟨ok24, List.forall_mem_cons.2 ⟨ok26, List.forall_mem_cons.2 ⟨ok45, List.forall_mem_cons.2 ⟨ok53, List.forall_mem_cons.2 ⟨ok71, List.forall_mem_cons.2 ⟨ok123, (fun _ h => by cases h)⟩⟩⟩⟩⟩⟩⟩⟩, List.forall_mem_cons.2 ⟨by kernel_rfl, List.forall_mem_cons.2 ⟨by kernel_rfl, List.forall_mem_cons.2 ⟨by kernel_rfl, List.forall_mem_cons.2 ⟨by kernel_rfl, (fun _ h => by cases h)⟩⟩⟩⟩, mixed⟩
/-- ostiary/proof.HA1 -/
noncomputable def cx_proof_HA1 (W0 : World) (S : Nat → Prop) (bs : List Nat := []) : Cx := ⟨Tryd.prog, W0, S, 17, [(5, ti5), (9, ti9), (24, ti24), (26, ti26), (45, ti45), (123, ti123)], [58, 74], bs, none, []⟩
abbrev n_proof_HA1 : FuncId := 41
theorem b_proof_HA1 : Tryd.prog.funcs[n_proof_HA1]? = some Tryd.f41 := Tryd.func41
theorem good_proof_HA1 (W0 : World) (S : Nat → Prop) (bs : List Nat := []) : Good (cx_proof_HA1 W0 S bs) := ⟨List.forall_mem_cons.2 ⟨ok5, List.forall_mem_cons.2 ⟨ok9, List.forall_mem_cons.2 ⟨ok24, List.forall_mem_cons.2 ⟨ok26, List.forall_mem_cons.2 ⟨ok45, List.forall_mem_cons.2 ⟨ok123, (fun _ h => by cases h)⟩⟩⟩⟩⟩⟩, List.forall_mem_cons.2 ⟨by kernel_rfl, List.forall_mem_cons.2 ⟨by kernel_rfl, (fun _ h => by cases h)⟩⟩, mixed⟩
/-- ostiary/proof.Dummy$1 -/
noncomputable def cx_proof_Dummy_1 (W0 : World) (S : Nat → Prop) (bs : List Nat := []) : Cx := ⟨Tryd.prog, W0, S, 15, [(5, ti5), (9, ti9), (26, ti26), (123, ti123)], [43], bs, none, []⟩
abbrev n_proof_Dummy_1 : FuncId := 42
theorem b_proof_Dummy_1 : Tryd.prog.funcs[n_proof_Dummy_1]? = some Tryd.f42 := Tryd.func42
theorem good_proof_Dummy_1 (W0 : World) (S : Nat → Prop) (bs : List Nat := []) : Good (cx_proof_Dummy_1 W0 S bs) := ⟨List.forall_mem_cons.2 ⟨ok5, List.forall_mem_cons.2 ⟨ok9, List.forall_mem_cons.2 ⟨ok26, List.forall_mem_cons.2 ⟨ok123, (fun _ h => by cases h)⟩⟩⟩⟩, List.forall_mem_cons.2 ⟨by kernel_rfl, (fun _ h => by cases h)⟩, mixed⟩
/-- ostiary/sha.Sum -/
noncomputable def cx_sha_Sum (W0 : World) (S : Nat → Prop) (bs : List Nat := []) : Cx := ⟨Tryd.prog, W0, S, 13, [(5, ti5), (26, ti26), (53, ti53), (123, ti123), (124, ti124), (125, ti125)], [77, 78, 79, 80], bs, none, []⟩
abbrev n_sha_Sum : FuncId := 43
theorem b_sha_Sum : Tryd.prog.funcs[n_sha_Sum]? = some Tryd.f43 := Tryd.func43
theorem good_sha_Sum (W0 : World) (S : Nat → Prop) (bs : List Nat := []) : Good (cx_sha_Sum W0 S bs) := ⟨List.forall_mem_cons.2 ⟨ok5, List.forall_mem_cons.2 ⟨ok26, List.forall_mem_cons.2 ⟨ok53, List.forall_mem_cons.2 ⟨ok123, List.forall_mem_cons.2 ⟨ok124, List.forall_mem_cons.2 ⟨ok125, (fun _ h => by cases h)⟩⟩⟩⟩⟩⟩, List.forall_mem_cons.2 ⟨by kernel_rfl, List.forall_mem_cons.2 ⟨by kernel_rfl, List.forall_mem_cons.2 ⟨by kernel_rfl, List.forall_mem_cons.2 ⟨by kernel_rfl, (fun _ h => by cases h)⟩⟩⟩⟩, mixed⟩
/-- ostiary/ostiaryref01.Sum -/
noncomputable def cx_ostiaryref01_Sum (W0 : World) (S : Nat → Prop) (bs : List Nat := []) : Cx := ⟨Tryd.prog, W0, S, 20, [(3, ti3), (5, ti5), (26, ti26), (44, ti44), (53, ti53), (131, ti131)], [81, 82, 83, 84], bs, none, []⟩
abbrev n_ostiaryref01_Sum : FuncId := 44
theorem b_ostiaryref01_Sum : Tryd.prog.funcs[n_ostiaryref01_Sum]? = some Tryd.f44 := Tryd.func44
theorem good_ostiaryref01_Sum (W0 : World) (S : Nat → Prop) (bs : List Nat := []) : Good (cx_ostiaryref01_Sum W0 S bs) := ⟨List.forall_mem_cons.2 ⟨ok3, List.forall_mem_cons.2 ⟨ok5, List.forall_mem_cons.2 ⟨ok26, List.forall_mem_cons.2 ⟨ok44, List.forall_mem_cons.2 ⟨ok53, List.forall_mem_cons.2 ⟨ok131, (fun _ h => by cases h)⟩⟩⟩⟩⟩⟩, List.forall_mem_cons.2 ⟨by kernel_rfl, List.forall_mem_cons.2 ⟨by kernel_rfl, List.forall_mem_cons.2 ⟨by kernel_rfl, List.forall_mem_cons.2 ⟨by kernel_rfl, (fun _ h => by cases h)⟩⟩⟩⟩, mixed⟩
/-- ostiary/ostiaryref14.salted -/
noncomputable def cx_ostiaryref14_salted (W0 : World) (S : Nat → Prop) (bs : List Nat := []) : Cx := ⟨Tryd.prog, W0, S, 21, [(3, ti3), (5, ti5), (26, ti26)], [], bs, none, []⟩
abbrev n_ostiaryref14_salted : FuncId := 45
theorem b_ostiaryref14_salted : Tryd.prog.funcs[n_ostiaryref14_salted]? = some Tryd.f45 := Tryd.func45
theorem good_ostiaryref14_salted (W0 : World) (S : Nat → Prop) (bs : List Nat := []) : Good (cx_ostiaryref14_salted W0 S bs) := ⟨List.forall_mem_cons.2 ⟨ok3, List.forall_mem_cons.2 ⟨ok5, List.forall_mem_cons.2 ⟨ok26, (fun _ h => by cases h)⟩⟩⟩, (fun _ h => by cases h), mixed⟩
/-- strings.Join -/
noncomputable def cx_strings_Join (W0 : World) (S : Nat → Prop) (bs : List Nat := []) : Cx := ⟨Tryd.prog, W0, S, 75, [(3, ti3), (5, ti5), (9, ti9), (26, ti26), (45, ti45), (137, ti137), (139, ti139)], [85, 86, 87], bs, none, []⟩
abbrev n_strings_Join : FuncId := 46
theorem b_strings_Join : Tryd.prog.funcs[n_strings_Join]? = some Tryd.f46 := Tryd.func46
theorem good_strings_Join (W0 : World) (S : Nat → Prop) (bs : List Nat := []) : Good (cx_strings_Join W0 S bs) := ⟨List.forall_mem_cons.2 ⟨ok3, List.forall_mem_cons.2 ⟨ok5, List.forall_mem_cons.2 ⟨ok9, List.forall_mem_cons.2 ⟨ok26, List.forall_mem_cons.2 ⟨ok45, List.forall_mem_cons.2 ⟨ok137, List.forall_mem_cons.2 ⟨ok139, (fun _ h => by cases h)⟩⟩⟩⟩⟩⟩⟩, List.forall_mem_cons.2 ⟨by kernel_rfl, List.forall_mem_cons.2 ⟨by kernel_rfl, List.forall_mem_cons.2 ⟨by kernel_rfl, (fun _ h => by cases h)⟩⟩⟩, mixed⟩
/-- ostiary/hmac.Equal -/
noncomputable def cx_hmac_Equal (W0 : World) (S : Nat → Prop) (bs : List Nat := []) : Cx := ⟨Tryd.prog, W0, S, 31, [(3, ti3), (5, ti5), (26, ti26)], [], bs, none, []⟩
abbrev n_hmac_Equal : FuncId := 47
theorem b_hmac_Equal : Tryd.prog.funcs[n_hmac_Equal]? = some Tryd.f47 := Tryd.func47
def p_hmac_Equal_7 : Plan := .take 0 (.take 1 (.take 2 (.take 3 (.take 4 (.take 5 (.take 6 (.take 7 (.take 8 (.take 9 (.take 10 (.take 11 (.done))))))))))))
theorem good_hmac_Equal (W0 : World) (S : Nat → Prop) (bs : List Nat := []) : Good (cx_hmac_Equal W0 S bs) := ⟨List.forall_mem_cons.2 ⟨ok3, List.forall_mem_cons.2 ⟨ok5, List.forall_mem_cons.2 ⟨ok26, (fun _ h => by cases h)⟩⟩⟩, (fun _ h => by cases h), mixed⟩
/-- (*ostiary/cred.Store).Revoke -/
noncomputable def cx_cred_Store_Revoke (W0 : World) (S : Nat → Prop) (bs : List Nat := []) : Cx := ⟨Tryd.prog, W0, S, 30, [(3, ti3), (4, ti4), (5, ti5), (9, ti9), (26, ti26), (29, ti29), (38, ti38), (44, ti44), (45, ti45), (47, ti47), (84, ti84), (86, ti86), (88, ti88), (92, ti92)], [55, 56], bs, none, []⟩
abbrev n_cred_Store_Revoke : FuncId := 48
theorem b_cred_Store_Revoke : Tryd.prog.funcs[n_cred_Store_Revoke]? = some Tryd.f48 := Tryd.func48
theorem good_cred_Store_Revoke (W0 : World) (S : Nat → Prop) (bs : List Nat := []) : Good (cx_cred_Store_Revoke W0 S bs) := ⟨List.forall_mem_cons.2 ⟨ok3, List.forall_mem_cons.2 ⟨ok4, List.forall_mem_cons.2 ⟨ok5, List.forall_mem_cons.2 ⟨ok9, List.forall_mem_cons.2 ⟨ok26, List.forall_mem_cons.2 ⟨ok29, List.forall_mem_cons.2 ⟨ok38, List.forall_mem_cons.2 ⟨ok44, List.forall_mem_cons.2 ⟨ok45, List.forall_mem_cons.2 ⟨ok47, List.forall_mem_cons.2 ⟨ok84, List.forall_mem_cons.2 ⟨ok86, List.forall_mem_cons.2 ⟨ok88, List.forall_mem_cons.2 ⟨ok92, (fun _ h => by cases h)⟩⟩⟩⟩⟩⟩⟩⟩⟩⟩⟩⟩⟩⟩, List.forall_mem_cons.2 ⟨by kernel_rfl, List.forall_mem_cons.2 ⟨by kernel_rfl, (fun _ h => by cases h)⟩⟩, mixed⟩
/-- (*ostiary/cred.Store).Last -/
noncomputable def cx_cred_Store_Last (W0 : World) (S : Nat → Prop) (bs : List Nat := []) : Cx := ⟨Tryd.prog, W0, S, 9, [(9, ti9), (38, ti38), (44, ti44), (84, ti84), (86, ti86), (88, ti88), (92, ti92)], [], bs, none, []⟩
abbrev n_cred_Store_Last : FuncId := 49
theorem b_cred_Store_Last : Tryd.prog.funcs[n_cred_Store_Last]? = some Tryd.f49 := Tryd.func49
theorem good_cred_Store_Last (W0 : World) (S : Nat → Prop) (bs : List Nat := []) : Good (cx_cred_Store_Last W0 S bs) := ⟨List.forall_mem_cons.2 ⟨ok9, List.forall_mem_cons.2 ⟨ok38, List.forall_mem_cons.2 ⟨ok44, List.forall_mem_cons.2 ⟨ok84, List.forall_mem_cons.2 ⟨ok86, List.forall_mem_cons.2 ⟨ok88, List.forall_mem_cons.2 ⟨ok92, (fun _ h => by cases h)⟩⟩⟩⟩⟩⟩⟩, (fun _ h => by cases h), mixed⟩
/-- ostiary/name.Plain -/
noncomputable def cx_name_Plain (W0 : World) (S : Nat → Prop) (bs : List Nat := []) : Cx := ⟨Tryd.prog, W0, S, 37, [(3, ti3), (5, ti5), (9, ti9), (26, ti26)], [], bs, none, []⟩
abbrev n_name_Plain : FuncId := 50
theorem b_name_Plain : Tryd.prog.funcs[n_name_Plain]? = some Tryd.f50 := Tryd.func50
theorem good_name_Plain (W0 : World) (S : Nat → Prop) (bs : List Nat := []) : Good (cx_name_Plain W0 S bs) := ⟨List.forall_mem_cons.2 ⟨ok3, List.forall_mem_cons.2 ⟨ok5, List.forall_mem_cons.2 ⟨ok9, List.forall_mem_cons.2 ⟨ok26, (fun _ h => by cases h)⟩⟩⟩⟩, (fun _ h => by cases h), mixed⟩
/-- (*ostiary/cred.Store).users -/
noncomputable def cx_cred_Store_users (W0 : World) (S : Nat → Prop) (bs : List Nat := []) : Cx := ⟨Tryd.prog, W0, S, 13, [(9, ti9), (38, ti38), (44, ti44), (84, ti84), (86, ti86), (88, ti88), (92, ti92)], [], bs, none, []⟩
abbrev n_cred_Store_users : FuncId := 51
theorem b_cred_Store_users : Tryd.prog.funcs[n_cred_Store_users]? = some Tryd.f51 := Tryd.func51
theorem good_cred_Store_users (W0 : World) (S : Nat → Prop) (bs : List Nat := []) : Good (cx_cred_Store_users W0 S bs) := ⟨List.forall_mem_cons.2 ⟨ok9, List.forall_mem_cons.2 ⟨ok38, List.forall_mem_cons.2 ⟨ok44, List.forall_mem_cons.2 ⟨ok84, List.forall_mem_cons.2 ⟨ok86, List.forall_mem_cons.2 ⟨ok88, List.forall_mem_cons.2 ⟨ok92, (fun _ h => by cases h)⟩⟩⟩⟩⟩⟩⟩, (fun _ h => by cases h), mixed⟩
/-- ostiary/name.Name -/
noncomputable def cx_name_Name (W0 : World) (S : Nat → Prop) (bs : List Nat := []) : Cx := ⟨Tryd.prog, W0, S, 8, [(3, ti3), (9, ti9)], [88], bs, none, []⟩
abbrev n_name_Name : FuncId := 52
theorem b_name_Name : Tryd.prog.funcs[n_name_Name]? = some Tryd.f52 := Tryd.func52
theorem good_name_Name (W0 : World) (S : Nat → Prop) (bs : List Nat := []) : Good (cx_name_Name W0 S bs) := ⟨List.forall_mem_cons.2 ⟨ok3, List.forall_mem_cons.2 ⟨ok9, (fun _ h => by cases h)⟩⟩, List.forall_mem_cons.2 ⟨by kernel_rfl, (fun _ h => by cases h)⟩, mixed⟩
/-- (ostiary/cred.Secret).right -/
noncomputable def cx_cred_Secret_right (W0 : World) (S : Nat → Prop) (bs : List Nat := []) : Cx := ⟨Tryd.prog, W0, S, 26, [(3, ti3), (5, ti5), (26, ti26), (29, ti29)], [89], bs, none, []⟩
abbrev n_cred_Secret_right : FuncId := 53
theorem b_cred_Secret_right : Tryd.prog.funcs[n_cred_Secret_right]? = some Tryd.f53 := Tryd.func53
theorem good_cred_Secret_right (W0 : World) (S : Nat → Prop) (bs : List Nat := []) : Good (cx_cred_Secret_right W0 S bs) := ⟨List.forall_mem_cons.2 ⟨ok3, List.forall_mem_cons.2 ⟨ok5, List.forall_mem_cons.2 ⟨ok26, List.forall_mem_cons.2 ⟨ok29, (fun _ h => by cases h)⟩⟩⟩⟩, List.forall_mem_cons.2 ⟨by kernel_rfl, (fun _ h => by cases h)⟩, mixed⟩
/-- (ostiary/cred.Secret).copyOf -/
noncomputable def cx_cred_Secret_copyOf (W0 : World) (S : Nat → Prop) (bs : List Nat := []) : Cx := ⟨Tryd.prog, W0, S, 20, [(3, ti3), (5, ti5), (26, ti26), (29, ti29)], [90], bs, none, []⟩
abbrev n_cred_Secret_copyOf : FuncId := 54
theorem b_cred_Secret_copyOf : Tryd.prog.funcs[n_cred_Secret_copyOf]? = some Tryd.f54 := Tryd.func54
def p_cred_Secret_copyOf_1 : Plan := .take 0 (.take 1 (.take 3 (.take 4 (.take 6 (.take 7 (.take 9 (.take 10 (.exec 2 (.take 12 (.exec 5 (.exec 8 (.exec 11 (.brk 13 (.brk 14 (.brk 15 (.brk 16 (.brk 17 (.brk 18 (.brk 19 (.done))))))))))))))))))))
theorem good_cred_Secret_copyOf (W0 : World) (S : Nat → Prop) (bs : List Nat := []) : Good (cx_cred_Secret_copyOf W0 S bs) := ⟨List.forall_mem_cons.2 ⟨ok3, List.forall_mem_cons.2 ⟨ok5, List.forall_mem_cons.2 ⟨ok26, List.forall_mem_cons.2 ⟨ok29, (fun _ h => by cases h)⟩⟩⟩⟩, List.forall_mem_cons.2 ⟨by kernel_rfl, (fun _ h => by cases h)⟩, mixed⟩
/-- (*ostiary/cred.Store).touched -/
noncomputable def cx_cred_Store_touched (W0 : World) (S : Nat → Prop) (bs : List Nat := []) : Cx := ⟨Tryd.prog, W0, S, 19, [(3, ti3), (4, ti4), (5, ti5), (9, ti9), (26, ti26), (29, ti29), (44, ti44), (45, ti45), (47, ti47), (84, ti84), (86, ti86), (88, ti88), (92, ti92)], [], bs, none, []⟩
abbrev n_cred_Store_touched : FuncId := 55
theorem b_cred_Store_touched : Tryd.prog.funcs[n_cred_Store_touched]? = some Tryd.f55 := Tryd.func55
theorem good_cred_Store_touched (W0 : World) (S : Nat → Prop) (bs : List Nat := []) : Good (cx_cred_Store_touched W0 S bs) := ⟨List.forall_mem_cons.2 ⟨ok3, List.forall_mem_cons.2 ⟨ok4, List.forall_mem_cons.2 ⟨ok5, List.forall_mem_cons.2 ⟨ok9, List.forall_mem_cons.2 ⟨ok26, List.forall_mem_cons.2 ⟨ok29, List.forall_mem_cons.2 ⟨ok44, List.forall_mem_cons.2 ⟨ok45, List.forall_mem_cons.2 ⟨ok47, List.forall_mem_cons.2 ⟨ok84, List.forall_mem_cons.2 ⟨ok86, List.forall_mem_cons.2 ⟨ok88, List.forall_mem_cons.2 ⟨ok92, (fun _ h => by cases h)⟩⟩⟩⟩⟩⟩⟩⟩⟩⟩⟩⟩⟩, (fun _ h => by cases h), mixed⟩
/-- (*ostiary/cred.Store).get -/
noncomputable def cx_cred_Store_get (W0 : World) (S : Nat → Prop) (bs : List Nat := []) : Cx := ⟨Tryd.prog, W0, S, 21, [(9, ti9), (38, ti38), (40, ti40), (88, ti88), (92, ti92)], [51, 52], bs, none, []⟩
abbrev n_cred_Store_get : FuncId := 56
theorem b_cred_Store_get : Tryd.prog.funcs[n_cred_Store_get]? = some Tryd.f56 := Tryd.func56
theorem good_cred_Store_get (W0 : World) (S : Nat → Prop) (bs : List Nat := []) : Good (cx_cred_Store_get W0 S bs) := ⟨List.forall_mem_cons.2 ⟨ok9, List.forall_mem_cons.2 ⟨ok38, List.forall_mem_cons.2 ⟨ok40, List.forall_mem_cons.2 ⟨ok88, List.forall_mem_cons.2 ⟨ok92, (fun _ h => by cases h)⟩⟩⟩⟩⟩, List.forall_mem_cons.2 ⟨by kernel_rfl, List.forall_mem_cons.2 ⟨by kernel_rfl, (fun _ h => by cases h)⟩⟩, mixed⟩
/-- (ostiary/cred.Cred).copyOf -/
noncomputable def cx_cred_Cred_copyOf (W0 : World) (S : Nat → Prop) (bs : List Nat := []) : Cx := ⟨Tryd.prog, W0, S, 12, [(3, ti3), (4, ti4), (5, ti5), (9, ti9), (26, ti26), (29, ti29), (44, ti44), (45, ti45), (47, ti47)], [54, 68], bs, none, []⟩
abbrev n_cred_Cred_copyOf : FuncId := 57
theorem b_cred_Cred_copyOf : Tryd.prog.funcs[n_cred_Cred_copyOf]? = some Tryd.f57 := Tryd.func57
def p_cred_Cred_copyOf_1 : Plan := .take 0 (.take 1 (.take 3 (.take 4 (.exec 2 (.take 6 (.exec 5 (.brk 7 (.brk 8 (.brk 9 (.done))))))))))
theorem good_cred_Cred_copyOf (W0 : World) (S : Nat → Prop) (bs : List Nat := []) : Good (cx_cred_Cred_copyOf W0 S bs) := ⟨List.forall_mem_cons.2 ⟨ok3, List.forall_mem_cons.2 ⟨ok4, List.forall_mem_cons.2 ⟨ok5, List.forall_mem_cons.2 ⟨ok9, List.forall_mem_cons.2 ⟨ok26, List.forall_mem_cons.2 ⟨ok29, List.forall_mem_cons.2 ⟨ok44, List.forall_mem_cons.2 ⟨ok45, List.forall_mem_cons.2 ⟨ok47, (fun _ h => by cases h)⟩⟩⟩⟩⟩⟩⟩⟩⟩, List.forall_mem_cons.2 ⟨by kernel_rfl, List.forall_mem_cons.2 ⟨by kernel_rfl, (fun _ h => by cases h)⟩⟩, mixed⟩
/-- (*ostiary/box.Box).Hash -/
noncomputable def cx_box_Box_Hash (W0 : World) (S : Nat → Prop) (bs : List Nat := []) : Cx := ⟨Tryd.prog, W0, S, 20, [(3, ti3), (4, ti4), (5, ti5), (9, ti9), (24, ti24), (26, ti26), (74, ti74), (75, ti75), (77, ti77), (123, ti123), (148, ti148), (150, ti150)], [43, 78, 91], bs, none, []⟩
abbrev n_box_Box_Hash : FuncId := 58
theorem b_box_Box_Hash : Tryd.prog.funcs[n_box_Box_Hash]? = some Tryd.f58 := Tryd.func58
theorem good_box_Box_Hash (W0 : World) (S : Nat → Prop) (bs : List Nat := []) : Good (cx_box_Box_Hash W0 S bs) := ⟨List.forall_mem_cons.2 ⟨ok3, List.forall_mem_cons.2 ⟨ok4, List.forall_mem_cons.2 ⟨ok5, List.forall_mem_cons.2 ⟨ok9, List.forall_mem_cons.2 ⟨ok24, List.forall_mem_cons.2 ⟨ok26, List.forall_mem_cons.2 ⟨ok74, List.forall_mem_cons.2 ⟨ok75, List.forall_mem_cons.2 ⟨ok77, List.forall_mem_cons.2 ⟨ok123, List.forall_mem_cons.2 ⟨ok148, List.forall_mem_cons.2 ⟨ok150, (fun _ h => by cases h)⟩⟩⟩⟩⟩⟩⟩⟩⟩⟩⟩⟩, List.forall_mem_cons.2 ⟨by kernel_rfl, List.forall_mem_cons.2 ⟨by kernel_rfl, List.forall_mem_cons.2 ⟨by kernel_rfl, (fun _ h => by cases h)⟩⟩⟩, mixed⟩
/-- (*ostiary/box.Box).Turn -/
noncomputable def cx_box_Box_Turn (W0 : World) (S : Nat → Prop) (bs : List Nat := []) : Cx := ⟨Tryd.prog, W0, S, 83, [(3, ti3), (4, ti4), (5, ti5), (9, ti9), (24, ti24), (26, ti26), (74, ti74), (75, ti75), (77, ti77), (148, ti148), (150, ti150), (152, ti152)], [26, 60, 61, 91, 92, 93], bs, none, []⟩
abbrev n_box_Box_Turn : FuncId := 59
theorem b_box_Box_Turn : Tryd.prog.funcs[n_box_Box_Turn]? = some Tryd.f59 := Tryd.func59
def p_box_Box_Turn_8 : Plan := .take 0 (.take 1 (.exec 2 (.exec 3 (.take 4 (.done)))))
def p_box_Box_Turn_9 : Plan := .take 0 (.take 1 (.take 2 (.take 3 (.take 4 (.take 5 (.take 6 (.take 7 (.take 8 (.take 9 (.take 10 (.take 11 (.take 12 (.take 13 (.exec 14 (.exec 15 (.take 16 (.take 17 (.take 18 (.take 19 (.done))))))))))))))))))))
theorem good_box_Box_Turn (W0 : World) (S : Nat → Prop) (bs : List Nat := []) : Good (cx_box_Box_Turn W0 S bs) := ⟨List.forall_mem_cons.2 ⟨ok3, List.forall_mem_cons.2 ⟨ok4, List.forall_mem_cons.2 ⟨ok5, List.forall_mem_cons.2 ⟨ok9, List.forall_mem_cons.2 ⟨ok24, List.forall_mem_cons.2 ⟨ok26, List.forall_mem_cons.2 ⟨ok74, List.forall_mem_cons.2 ⟨ok75, List.forall_mem_cons.2 ⟨ok77, List.forall_mem_cons.2 ⟨ok148, List.forall_mem_cons.2 ⟨ok150, List.forall_mem_cons.2 ⟨ok152, (fun _ h => by cases h)⟩⟩⟩⟩⟩⟩⟩⟩⟩⟩⟩⟩, List.forall_mem_cons.2 ⟨by kernel_rfl, List.forall_mem_cons.2 ⟨by kernel_rfl, List.forall_mem_cons.2 ⟨by kernel_rfl, List.forall_mem_cons.2 ⟨by kernel_rfl, List.forall_mem_cons.2 ⟨by kernel_rfl, List.forall_mem_cons.2 ⟨by kernel_rfl, (fun _ h => by cases h)⟩⟩⟩⟩⟩⟩, mixed⟩
/-- ostiary/box.mark -/
noncomputable def cx_box_mark (W0 : World) (S : Nat → Prop) (bs : List Nat := []) : Cx := ⟨Tryd.prog, W0, S, 7, [(5, ti5), (26, ti26)], [], bs, none, []⟩
abbrev n_box_mark : FuncId := 60
theorem b_box_mark : Tryd.prog.funcs[n_box_mark]? = some Tryd.f60 := Tryd.func60
theorem good_box_mark (W0 : World) (S : Nat → Prop) (bs : List Nat := []) : Good (cx_box_mark W0 S bs) := ⟨List.forall_mem_cons.2 ⟨ok5, List.forall_mem_cons.2 ⟨ok26, (fun _ h => by cases h)⟩⟩, (fun _ h => by cases h), mixed⟩
/-- bytes.Equal -/
noncomputable def cx_bytes_Equal (W0 : World) (S : Nat → Prop) (bs : List Nat := []) : Cx := ⟨Tryd.prog, W0, S, 10, [(5, ti5), (9, ti9), (26, ti26)], [], bs, none, []⟩
abbrev n_bytes_Equal : FuncId := 61
theorem b_bytes_Equal : Tryd.prog.funcs[n_bytes_Equal]? = some Tryd.f61 := Tryd.func61
theorem good_bytes_Equal (W0 : World) (S : Nat → Prop) (bs : List Nat := []) : Good (cx_bytes_Equal W0 S bs) := ⟨List.forall_mem_cons.2 ⟨ok5, List.forall_mem_cons.2 ⟨ok9, List.forall_mem_cons.2 ⟨ok26, (fun _ h => by cases h)⟩⟩⟩, (fun _ h => by cases h), mixed⟩
/-- ostiary/ostiaryref05.front -/
noncomputable def cx_ostiaryref05_front (W0 : World) (S : Nat → Prop) (bs : List Nat := []) : Cx := ⟨Tryd.prog, W0, S, 3, [(3, ti3), (5, ti5), (26, ti26)], [], bs, none, []⟩
abbrev n_ostiaryref05_front : FuncId := 62
theorem b_ostiaryref05_front : Tryd.prog.funcs[n_ostiaryref05_front]? = some Tryd.f62 := Tryd.func62
theorem good_ostiaryref05_front (W0 : World) (S : Nat → Prop) (bs : List Nat := []) : Good (cx_ostiaryref05_front W0 S bs) := ⟨List.forall_mem_cons.2 ⟨ok3, List.forall_mem_cons.2 ⟨ok5, List.forall_mem_cons.2 ⟨ok26, (fun _ h => by cases h)⟩⟩⟩, (fun _ h => by cases h), mixed⟩
/-- ostiary/ostiaryref01.Bytes -/
noncomputable def cx_ostiaryref01_Bytes (W0 : World) (S : Nat → Prop) (bs : List Nat := []) : Cx := ⟨Tryd.prog, W0, S, 24, [(3, ti3), (5, ti5), (26, ti26), (44, ti44)], [], bs, none, []⟩
abbrev n_ostiaryref01_Bytes : FuncId := 63
theorem b_ostiaryref01_Bytes : Tryd.prog.funcs[n_ostiaryref01_Bytes]? = some Tryd.f63 := Tryd.func63
theorem good_ostiaryref01_Bytes (W0 : World) (S : Nat → Prop) (bs : List Nat := []) : Good (cx_ostiaryref01_Bytes W0 S bs) := ⟨List.forall_mem_cons.2 ⟨ok3, List.forall_mem_cons.2 ⟨ok5, List.forall_mem_cons.2 ⟨ok26, List.forall_mem_cons.2 ⟨ok44, (fun _ h => by cases h)⟩⟩⟩⟩, (fun _ h => by cases h), mixed⟩
/-- ostiary/ostiaryref05.Looks -/
noncomputable def cx_ostiaryref05_Looks (W0 : World) (S : Nat → Prop) (bs : List Nat := []) : Cx := ⟨Tryd.prog, W0, S, 18, [(3, ti3), (5, ti5), (26, ti26), (44, ti44)], [28, 62, 94], bs, none, []⟩
abbrev n_ostiaryref05_Looks : FuncId := 64
theorem b_ostiaryref05_Looks : Tryd.prog.funcs[n_ostiaryref05_Looks]? = some Tryd.f64 := Tryd.func64
def p_ostiaryref05_Looks_1 : Plan := .take 0 (.take 1 (.take 2 (.take 3 (.take 4 (.take 5 (.exec 6 (.exec 7 (.take 8 (.take 9 (.done))))))))))
theorem good_ostiaryref05_Looks (W0 : World) (S : Nat → Prop) (bs : List Nat := []) : Good (cx_ostiaryref05_Looks W0 S bs) := ⟨List.forall_mem_cons.2 ⟨ok3, List.forall_mem_cons.2 ⟨ok5, List.forall_mem_cons.2 ⟨ok26, List.forall_mem_cons.2 ⟨ok44, (fun _ h => by cases h)⟩⟩⟩⟩, List.forall_mem_cons.2 ⟨by kernel_rfl, List.forall_mem_cons.2 ⟨by kernel_rfl, List.forall_mem_cons.2 ⟨by kernel_rfl, (fun _ h => by cases h)⟩⟩⟩, mixed⟩
/-- ostiary/box.Handles -/
noncomputable def cx_box_Handles (W0 : World) (S : Nat → Prop) (bs : List Nat := []) : Cx := ⟨Tryd.prog, W0, S, 4, [(5, ti5), (26, ti26)], [95], bs, none, []⟩
abbrev n_box_Handles : FuncId := 65
theorem b_box_Handles : Tryd.prog.funcs[n_box_Handles]? = some Tryd.f65 := Tryd.func65
theorem good_box_Handles (W0 : World) (S : Nat → Prop) (bs : List Nat := []) : Good (cx_box_Handles W0 S bs) := ⟨List.forall_mem_cons.2 ⟨ok5, List.forall_mem_cons.2 ⟨ok26, (fun _ h => by cases h)⟩⟩, List.forall_mem_cons.2 ⟨by kernel_rfl, (fun _ h => by cases h)⟩, mixed⟩
/-- slices.BinarySearch[[]string,string] -/
noncomputable def cx_slices_BinarySearch_string_string (W0 : World) (S : Nat → Prop) (bs : List Nat := []) : Cx := ⟨Tryd.prog, W0, S, 54, [(3, ti3), (9, ti9), (45, ti45), (99, ti99)], [96, 97], bs, none, []⟩
abbrev n_slices_BinarySearch_string_string : FuncId := 66
theorem b_slices_BinarySearch_string_string : Tryd.prog.funcs[n_slices_BinarySearch_string_string]? = some Tryd.f66 := Tryd.func66
theorem good_slices_BinarySearch_string_string (W0 : World) (S : Nat → Prop) (bs : List Nat := []) : Good (cx_slices_BinarySearch_string_string W0 S bs) := ⟨List.forall_mem_cons.2 ⟨ok3, List.forall_mem_cons.2 ⟨ok9, List.forall_mem_cons.2 ⟨ok45, List.forall_mem_cons.2 ⟨ok99, (fun _ h => by cases h)⟩⟩⟩⟩, List.forall_mem_cons.2 ⟨by kernel_rfl, List.forall_mem_cons.2 ⟨by kernel_rfl, (fun _ h => by cases h)⟩⟩, mixed⟩
/-- slices.Insert[[]string,string] -/
noncomputable def cx_slices_Insert_string_string (W0 : World) (S : Nat → Prop) (bs : List Nat := []) : Cx := ⟨Tryd.prog, W0, S, 95, [(3, ti3), (9, ti9), (45, ti45)], [99], bs, none, []⟩
abbrev n_slices_Insert_string_string : FuncId := 67
theorem b_slices_Insert_string_string : Tryd.prog.funcs[n_slices_Insert_string_string]? = some Tryd.f67 := Tryd.func67
def p_slices_Insert_string_string_11 : Plan := .take 0 (.take 1 (.take 2 (.take 3 (.take 4 (.take 5 (.take 6 (.take 7 (.exec 8 (.done)))))))))
def p_slices_Insert_string_string_15 : Plan := .take 0 (.take 1 (.take 2 (.take 3 (.take 4 (.take 5 (.take 6 (.take 7 (.exec 8 (.done)))))))))
theorem good_slices_Insert_string_string (W0 : World) (S : Nat → Prop) (bs : List Nat := []) : Good (cx_slices_Insert_string_string W0 S bs) := ⟨List.forall_mem_cons.2 ⟨ok3, List.forall_mem_cons.2 ⟨ok9, List.forall_mem_cons.2 ⟨ok45, (fun _ h => by cases h)⟩⟩⟩, List.forall_mem_cons.2 ⟨by kernel_rfl, (fun _ h => by cases h)⟩, mixed⟩
/-- slices.Clone[[]string,string] -/
noncomputable def cx_slices_Clone_string_string (W0 : World) (S : Nat → Prop) (bs : List Nat := []) : Cx := ⟨Tryd.prog, W0, S, 8, [(9, ti9), (45, ti45)], [], bs, none, []⟩
abbrev n_slices_Clone_string_string : FuncId := 68
theorem b_slices_Clone_string_string : Tryd.prog.funcs[n_slices_Clone_string_string]? = some Tryd.f68 := Tryd.func68
theorem good_slices_Clone_string_string (W0 : World) (S : Nat → Prop) (bs : List Nat := []) : Good (cx_slices_Clone_string_string W0 S bs) := ⟨List.forall_mem_cons.2 ⟨ok9, List.forall_mem_cons.2 ⟨ok45, (fun _ h => by cases h)⟩⟩, (fun _ h => by cases h), mixed⟩
/-- slices.Collect[string] -/
noncomputable def cx_slices_Collect_string (W0 : World) (S : Nat → Prop) (bs : List Nat := []) : Cx := ⟨Tryd.prog, W0, S, 5, [(9, ti9), (45, ti45), (111, ti111)], [100], bs, none, []⟩
abbrev n_slices_Collect_string : FuncId := 69
theorem b_slices_Collect_string : Tryd.prog.funcs[n_slices_Collect_string]? = some Tryd.f69 := Tryd.func69
theorem good_slices_Collect_string (W0 : World) (S : Nat → Prop) (bs : List Nat := []) : Good (cx_slices_Collect_string W0 S bs) := ⟨List.forall_mem_cons.2 ⟨ok9, List.forall_mem_cons.2 ⟨ok45, List.forall_mem_cons.2 ⟨ok111, (fun _ h => by cases h)⟩⟩⟩, List.forall_mem_cons.2 ⟨by kernel_rfl, (fun _ h => by cases h)⟩, mixed⟩
/-- (*ostiary/cred.Store).Tenants -/
noncomputable def cx_cred_Store_Tenants (W0 : World) (S : Nat → Prop) (bs : List Nat := []) : Cx := ⟨Tryd.prog, W0, S, 4, [(38, ti38)], [101], bs, none, []⟩
abbrev n_cred_Store_Tenants : FuncId := 70
theorem b_cred_Store_Tenants : Tryd.prog.funcs[n_cred_Store_Tenants]? = some Tryd.f70 := Tryd.func70
theorem good_cred_Store_Tenants (W0 : World) (S : Nat → Prop) (bs : List Nat := []) : Good (cx_cred_Store_Tenants W0 S bs) := ⟨List.forall_mem_cons.2 ⟨ok38, (fun _ h => by cases h)⟩, List.forall_mem_cons.2 ⟨by kernel_rfl, (fun _ h => by cases h)⟩, mixed⟩
/-- slices.Collect[ostiary/cred.Cred] -/
noncomputable def cx_slices_Collect_cred_Cred (W0 : World) (S : Nat → Prop) (bs : List Nat := []) : Cx := ⟨Tryd.prog, W0, S, 5, [(3, ti3), (4, ti4), (5, ti5), (9, ti9), (26, ti26), (29, ti29), (44, ti44), (45, ti45), (47, ti47), (113, ti113), (116, ti116)], [104], bs, none, []⟩
abbrev n_slices_Collect_cred_Cred : FuncId := 71
theorem b_slices_Collect_cred_Cred : Tryd.prog.funcs[n_slices_Collect_cred_Cred]? = some Tryd.f71 := Tryd.func71
theorem good_slices_Collect_cred_Cred (W0 : World) (S : Nat → Prop) (bs : List Nat := []) : Good (cx_slices_Collect_cred_Cred W0 S bs) := ⟨List.forall_mem_cons.2 ⟨ok3, List.forall_mem_cons.2 ⟨ok4, List.forall_mem_cons.2 ⟨ok5, List.forall_mem_cons.2 ⟨ok9, List.forall_mem_cons.2 ⟨ok26, List.forall_mem_cons.2 ⟨ok29, List.forall_mem_cons.2 ⟨ok44, List.forall_mem_cons.2 ⟨ok45, List.forall_mem_cons.2 ⟨ok47, List.forall_mem_cons.2 ⟨ok113, List.forall_mem_cons.2 ⟨ok116, (fun _ h => by cases h)⟩⟩⟩⟩⟩⟩⟩⟩⟩⟩⟩, List.forall_mem_cons.2 ⟨by kernel_rfl, (fun _ h => by cases h)⟩, mixed⟩
/-- (*ostiary/cred.Store).Users -/
noncomputable def cx_cred_Store_Users (W0 : World) (S : Nat → Prop) (bs : List Nat := []) : Cx := ⟨Tryd.prog, W0, S, 6, [(9, ti9), (38, ti38)], [105], bs, none, []⟩
abbrev n_cred_Store_Users : FuncId := 72
theorem b_cred_Store_Users : Tryd.prog.funcs[n_cred_Store_Users]? = some Tryd.f72 := Tryd.func72
theorem good_cred_Store_Users (W0 : World) (S : Nat → Prop) (bs : List Nat := []) : Good (cx_cred_Store_Users W0 S bs) := ⟨List.forall_mem_cons.2 ⟨ok9, List.forall_mem_cons.2 ⟨ok38, (fun _ h => by cases h)⟩⟩, List.forall_mem_cons.2 ⟨by kernel_rfl, (fun _ h => by cases h)⟩, mixed⟩
/-- ostiary/ostiarylaw14.back -/
noncomputable def cx_ostiarylaw14_back (W0 : World) (S : Nat → Prop) (bs : List Nat := []) : Cx := ⟨Tryd.prog, W0, S, 17, [(3, ti3), (4, ti4), (5, ti5), (9, ti9), (26, ti26), (28, ti28), (29, ti29), (44, ti44), (45, ti45), (47, ti47), (119, ti119)], [107], bs, none, []⟩
abbrev n_ostiarylaw14_back : FuncId := 73
theorem b_ostiarylaw14_back : Tryd.prog.funcs[n_ostiarylaw14_back]? = some Tryd.f73 := Tryd.func73
def p_ostiarylaw14_back_1 : Plan := .take 0 (.take 1 (.take 2 (.take 3 (.take 4 (.take 5 (.take 7 (.take 8 (.take 9 (.take 10 (.take 11 (.take 12 (.exec 6 (.take 13 (.exec 14 (.done)))))))))))))))
theorem good_ostiarylaw14_back (W0 : World) (S : Nat → Prop) (bs : List Nat := []) : Good (cx_ostiarylaw14_back W0 S bs) := ⟨List.forall_mem_cons.2 ⟨ok3, List.forall_mem_cons.2 ⟨ok4, List.forall_mem_cons.2 ⟨ok5, List.forall_mem_cons.2 ⟨ok9, List.forall_mem_cons.2 ⟨ok26, List.forall_mem_cons.2 ⟨ok28, List.forall_mem_cons.2 ⟨ok29, List.forall_mem_cons.2 ⟨ok44, List.forall_mem_cons.2 ⟨ok45, List.forall_mem_cons.2 ⟨ok47, List.forall_mem_cons.2 ⟨ok119, (fun _ h => by cases h)⟩⟩⟩⟩⟩⟩⟩⟩⟩⟩⟩, List.forall_mem_cons.2 ⟨by kernel_rfl, (fun _ h => by cases h)⟩, mixed⟩
/-- ostiary/proof.joined -/
noncomputable def cx_proof_joined (W0 : World) (S : Nat → Prop) (bs : List Nat := []) : Cx := ⟨Tryd.prog, W0, S, 6, [(5, ti5), (9, ti9), (26, ti26), (45, ti45)], [46], bs, none, []⟩
abbrev n_proof_joined : FuncId := 74
theorem b_proof_joined : Tryd.prog.funcs[n_proof_joined]? = some Tryd.f74 := Tryd.func74
theorem good_proof_joined (W0 : World) (S : Nat → Prop) (bs : List Nat := []) : Good (cx_proof_joined W0 S bs) := ⟨List.forall_mem_cons.2 ⟨ok5, List.forall_mem_cons.2 ⟨ok9, List.forall_mem_cons.2 ⟨ok26, List.forall_mem_cons.2 ⟨ok45, (fun _ h => by cases h)⟩⟩⟩⟩, List.forall_mem_cons.2 ⟨by kernel_rfl, (fun _ h => by cases h)⟩, mixed⟩
/-- ostiary/b64.Hex -/
noncomputable def cx_b64_Hex (W0 : World) (S : Nat → Prop) (bs : List Nat := []) : Cx := ⟨Tryd.prog, W0, S, 22, [(3, ti3), (5, ti5), (9, ti9), (26, ti26), (137, ti137), (139, ti139)], [87, 108], bs, none, []⟩
abbrev n_b64_Hex : FuncId := 75
theorem b_b64_Hex : Tryd.prog.funcs[n_b64_Hex]? = some Tryd.f75 := Tryd.func75
theorem good_b64_Hex (W0 : World) (S : Nat → Prop) (bs : List Nat := []) : Good (cx_b64_Hex W0 S bs) := ⟨List.forall_mem_cons.2 ⟨ok3, List.forall_mem_cons.2 ⟨ok5, List.forall_mem_cons.2 ⟨ok9, List.forall_mem_cons.2 ⟨ok26, List.forall_mem_cons.2 ⟨ok137, List.forall_mem_cons.2 ⟨ok139, (fun _ h => by cases h)⟩⟩⟩⟩⟩⟩, List.forall_mem_cons.2 ⟨by kernel_rfl, List.forall_mem_cons.2 ⟨by kernel_rfl, (fun _ h => by cases h)⟩⟩, mixed⟩
/-- ostiary/digest.Count -/
noncomputable def cx_digest_Count (W0 : World) (S : Nat → Prop) (bs : List Nat := []) : Cx := ⟨Tryd.prog, W0, S, 16, [(5, ti5), (26, ti26), (53, ti53)], [75], bs, none, []⟩
abbrev n_digest_Count : FuncId := 76
theorem b_digest_Count : Tryd.prog.funcs[n_digest_Count]? = some Tryd.f76 := Tryd.func76
theorem good_digest_Count (W0 : World) (S : Nat → Prop) (bs : List Nat := []) : Good (cx_digest_Count W0 S bs) := ⟨List.forall_mem_cons.2 ⟨ok5, List.forall_mem_cons.2 ⟨ok26, List.forall_mem_cons.2 ⟨ok53, (fun _ h => by cases h)⟩⟩⟩, List.forall_mem_cons.2 ⟨by kernel_rfl, (fun _ h => by cases h)⟩, mixed⟩
/-- ostiary/sha.Blocks -/
noncomputable def cx_sha_Blocks (W0 : World) (S : Nat → Prop) (bs : List Nat := []) : Cx := ⟨Tryd.prog, W0, S, 4, [(5, ti5), (26, ti26)], [109], bs, none, []⟩
abbrev n_sha_Blocks : FuncId := 77
theorem b_sha_Blocks : Tryd.prog.funcs[n_sha_Blocks]? = some Tryd.f77 := Tryd.func77
theorem good_sha_Blocks (W0 : World) (S : Nat → Prop) (bs : List Nat := []) : Good (cx_sha_Blocks W0 S bs) := ⟨List.forall_mem_cons.2 ⟨ok5, List.forall_mem_cons.2 ⟨ok26, (fun _ h => by cases h)⟩⟩, List.forall_mem_cons.2 ⟨by kernel_rfl, (fun _ h => by cases h)⟩, mixed⟩
/-- bytes.Join -/
noncomputable def cx_bytes_Join (W0 : World) (S : Nat → Prop) (bs : List Nat := []) : Cx := ⟨Tryd.prog, W0, S, 92, [(3, ti3), (5, ti5), (9, ti9), (26, ti26), (123, ti123)], [], bs, none, []⟩
abbrev n_bytes_Join : FuncId := 78
theorem b_bytes_Join : Tryd.prog.funcs[n_bytes_Join]? = some Tryd.f78 := Tryd.func78
theorem good_bytes_Join (W0 : World) (S : Nat → Prop) (bs : List Nat := []) : Good (cx_bytes_Join W0 S bs) := ⟨List.forall_mem_cons.2 ⟨ok3, List.forall_mem_cons.2 ⟨ok5, List.forall_mem_cons.2 ⟨ok9, List.forall_mem_cons.2 ⟨ok26, List.forall_mem_cons.2 ⟨ok123, (fun _ h => by cases h)⟩⟩⟩⟩⟩, (fun _ h => by cases h), mixed⟩
/-- (*ostiary/sha.state).step -/
noncomputable def cx_sha_state_step (W0 : World) (S : Nat → Prop) (bs : List Nat := []) : Cx := ⟨Tryd.prog, W0, S, 144, [(3, ti3), (5, ti5), (26, ti26), (53, ti53), (124, ti124), (125, ti125), (170, ti170)], [112, 113], bs, none, []⟩
abbrev n_sha_state_step : FuncId := 79
theorem b_sha_state_step : Tryd.prog.funcs[n_sha_state_step]? = some Tryd.f79 := Tryd.func79
def p_sha_state_step_1 : Plan := .take 0 (.take 1 (.take 2 (.take 3 (.take 4 (.take 5 (.take 6 (.take 7 (.take 8 (.take 9 (.take 10 (.take 11 (.take 12 (.take 13 (.take 14 (.take 15 (.take 16 (.take 17 (.take 18 (.take 19 (.take 20 (.take 21 (.take 22 (.take 23 (.take 24 (.take 25 (.take 26 (.take 27 (.take 28 (.take 29 (.take 30 (.take 31 (.take 32 (.take 33 (.take 34 (.take 35 (.take 36 (.take 37 (.take 38 (.take 39 (.done))))))))))))))))))))))))))))))))))))))))
def p_sha_state_step_7 : Plan := .take 0 (.take 1 (.take 2 (.take 3 (.take 4 (.take 5 (.take 6 (.take 7 (.take 8 (.take 9 (.take 10 (.take 11 (.take 12 (.take 13 (.done))))))))))))))
def p_sha_state_step_15 : Plan := .take 0 (.take 1 (.take 2 (.take 3 (.take 5 (.take 7 (.exec 4 (.take 6 (.take 8 (.exec 9 (.done))))))))))
theorem good_sha_state_step (W0 : World) (S : Nat → Prop) (bs : List Nat := []) : Good (cx_sha_state_step W0 S bs) := ⟨List.forall_mem_cons.2 ⟨ok3, List.forall_mem_cons.2 ⟨ok5, List.forall_mem_cons.2 ⟨ok26, List.forall_mem_cons.2 ⟨ok53, List.forall_mem_cons.2 ⟨ok124, List.forall_mem_cons.2 ⟨ok125, List.forall_mem_cons.2 ⟨ok170, (fun _ h => by cases h)⟩⟩⟩⟩⟩⟩⟩, List.forall_mem_cons.2 ⟨by kernel_rfl, List.forall_mem_cons.2 ⟨by kernel_rfl, (fun _ h => by cases h)⟩⟩, mixed⟩
/-- (*ostiary/sha.state).bytes -/
noncomputable def cx_sha_state_bytes (W0 : World) (S : Nat → Prop) (bs : List Nat := []) : Cx := ⟨Tryd.prog, W0, S, 28, [(3, ti3), (5, ti5), (26, ti26), (53, ti53), (125, ti125)], [], bs, none, []⟩
abbrev n_sha_state_bytes : FuncId := 80
theorem b_sha_state_bytes : Tryd.prog.funcs[n_sha_state_bytes]? = some Tryd.f80 := Tryd.func80
theorem good_sha_state_bytes (W0 : World) (S : Nat → Prop) (bs : List Nat := []) : Good (cx_sha_state_bytes W0 S bs) := ⟨List.forall_mem_cons.2 ⟨ok3, List.forall_mem_cons.2 ⟨ok5, List.forall_mem_cons.2 ⟨ok26, List.forall_mem_cons.2 ⟨ok53, List.forall_mem_cons.2 ⟨ok125, (fun _ h => by cases h)⟩⟩⟩⟩⟩, (fun _ h => by cases h), mixed⟩
/-- ostiary/ostiaryref01.Go -/
noncomputable def cx_ostiaryref01_Go (W0 : World) (S : Nat → Prop) (bs : List Nat := []) : Cx := ⟨Tryd.prog, W0, S, 17, [(3, ti3), (5, ti5), (26, ti26), (53, ti53), (131, ti131)], [114], bs, none, []⟩
abbrev n_ostiaryref01_Go : FuncId := 81
theorem b_ostiaryref01_Go : Tryd.prog.funcs[n_ostiaryref01_Go]? = some Tryd.f81 := Tryd.func81
def p_ostiaryref01_Go_2 : Plan := .take 1 (.take 2 (.take 4 (.take 5 (.exec 0 (.exec 3 (.exec 6 (.take 7 (.done))))))))
theorem good_ostiaryref01_Go (W0 : World) (S : Nat → Prop) (bs : List Nat := []) : Good (cx_ostiaryref01_Go W0 S bs) := ⟨List.forall_mem_cons.2 ⟨ok3, List.forall_mem_cons.2 ⟨ok5, List.forall_mem_cons.2 ⟨ok26, List.forall_mem_cons.2 ⟨ok53, List.forall_mem_cons.2 ⟨ok131, (fun _ h => by cases h)⟩⟩⟩⟩⟩, List.forall_mem_cons.2 ⟨by kernel_rfl, (fun _ h => by cases h)⟩, mixed⟩
/-- ostiary/ostiaryref01.First -/
noncomputable def cx_ostiaryref01_First (W0 : World) (S : Nat → Prop) (bs : List Nat := []) : Cx := ⟨Tryd.prog, W0, S, 2, [(53, ti53), (131, ti131)], [], bs, none, []⟩
abbrev n_ostiaryref01_First : FuncId := 82
theorem b_ostiaryref01_First : Tryd.prog.funcs[n_ostiaryref01_First]? = some Tryd.f82 := Tryd.func82
theorem good_ostiaryref01_First (W0 : World) (S : Nat → Prop) (bs : List Nat := []) : Good (cx_ostiaryref01_First W0 S bs) := ⟨List.forall_mem_cons.2 ⟨ok53, List.forall_mem_cons.2 ⟨ok131, (fun _ h => by cases h)⟩⟩, (fun _ h => by cases h), mixed⟩
/-- ostiary/ostiaryref01.Tail -/
noncomputable def cx_ostiaryref01_Tail (W0 : World) (S : Nat → Prop) (bs : List Nat := []) : Cx := ⟨Tryd.prog, W0, S, 22, [(3, ti3), (5, ti5), (26, ti26), (44, ti44)], [63], bs, none, []⟩
abbrev n_ostiaryref01_Tail : FuncId := 83
theorem b_ostiaryref01_Tail : Tryd.prog.funcs[n_ostiaryref01_Tail]? = some Tryd.f83 := Tryd.func83
theorem good_ostiaryref01_Tail (W0 : World) (S : Nat → Prop) (bs : List Nat := []) : Good (cx_ostiaryref01_Tail W0 S bs) := ⟨List.forall_mem_cons.2 ⟨ok3, List.forall_mem_cons.2 ⟨ok5, List.forall_mem_cons.2 ⟨ok26, List.forall_mem_cons.2 ⟨ok44, (fun _ h => by cases h)⟩⟩⟩⟩, List.forall_mem_cons.2 ⟨by kernel_rfl, (fun _ h => by cases h)⟩, mixed⟩
/-- ostiary/ostiaryref01.Out -/
noncomputable def cx_ostiaryref01_Out (W0 : World) (S : Nat → Prop) (bs : List Nat := []) : Cx := ⟨Tryd.prog, W0, S, 17, [(3, ti3), (5, ti5), (26, ti26), (44, ti44), (53, ti53), (131, ti131)], [63], bs, none, []⟩
abbrev n_ostiaryref01_Out : FuncId := 84
theorem b_ostiaryref01_Out : Tryd.prog.funcs[n_ostiaryref01_Out]? = some Tryd.f84 := Tryd.func84
theorem good_ostiaryref01_Out (W0 : World) (S : Nat → Prop) (bs : List Nat := []) : Good (cx_ostiaryref01_Out W0 S bs) := ⟨List.forall_mem_cons.2 ⟨ok3, List.forall_mem_cons.2 ⟨ok5, List.forall_mem_cons.2 ⟨ok26, List.forall_mem_cons.2 ⟨ok44, List.forall_mem_cons.2 ⟨ok53, List.forall_mem_cons.2 ⟨ok131, (fun _ h => by cases h)⟩⟩⟩⟩⟩⟩, List.forall_mem_cons.2 ⟨by kernel_rfl, (fun _ h => by cases h)⟩, mixed⟩
/-- (*strings.Builder).Grow -/
noncomputable def cx_strings_Builder_Grow (W0 : World) (S : Nat → Prop) (bs : List Nat := []) : Cx := ⟨Tryd.prog, W0, S, 25, [(3, ti3), (5, ti5), (9, ti9), (26, ti26), (137, ti137), (139, ti139)], [115, 116], bs, none, []⟩
abbrev n_strings_Builder_Grow : FuncId := 85
theorem b_strings_Builder_Grow : Tryd.prog.funcs[n_strings_Builder_Grow]? = some Tryd.f85 := Tryd.func85
def p_strings_Builder_Grow_3 : Plan := .take 0 (.take 1 (.take 2 (.take 3 (.take 4 (.take 5 (.take 6 (.take 7 (.take 8 (.take 9 (.take 10 (.take 11 (.take 12 (.done)))))))))))))
theorem good_strings_Builder_Grow (W0 : World) (S : Nat → Prop) (bs : List Nat := []) : Good (cx_strings_Builder_Grow W0 S bs) := ⟨List.forall_mem_cons.2 ⟨ok3, List.forall_mem_cons.2 ⟨ok5, List.forall_mem_cons.2 ⟨ok9, List.forall_mem_cons.2 ⟨ok26, List.forall_mem_cons.2 ⟨ok137, List.forall_mem_cons.2 ⟨ok139, (fun _ h => by cases h)⟩⟩⟩⟩⟩⟩, List.forall_mem_cons.2 ⟨by kernel_rfl, List.forall_mem_cons.2 ⟨by kernel_rfl, (fun _ h => by cases h)⟩⟩, mixed⟩
/-- (*strings.Builder).WriteString -/
noncomputable def cx_strings_Builder_WriteString (W0 : World) (S : Nat → Prop) (bs : List Nat := []) : Cx := ⟨Tryd.prog, W0, S, 19, [(5, ti5), (9, ti9), (26, ti26), (137, ti137), (139, ti139)], [115], bs, none, []⟩
abbrev n_strings_Builder_WriteString : FuncId := 86
theorem b_strings_Builder_WriteString : Tryd.prog.funcs[n_strings_Builder_WriteString]? = some Tryd.f86 := Tryd.func86
theorem good_strings_Builder_WriteString (W0 : World) (S : Nat → Prop) (bs : List Nat := []) : Good (cx_strings_Builder_WriteString W0 S bs) := ⟨List.forall_mem_cons.2 ⟨ok5, List.forall_mem_cons.2 ⟨ok9, List.forall_mem_cons.2 ⟨ok26, List.forall_mem_cons.2 ⟨ok137, List.forall_mem_cons.2 ⟨ok139, (fun _ h => by cases h)⟩⟩⟩⟩⟩, List.forall_mem_cons.2 ⟨by kernel_rfl, (fun _ h => by cases h)⟩, mixed⟩
/-- (*strings.Builder).String -/
noncomputable def cx_strings_Builder_String (W0 : World) (S : Nat → Prop) (bs : List Nat := []) : Cx := ⟨Tryd.prog, W0, S, 14, [(3, ti3), (5, ti5), (26, ti26), (137, ti137), (139, ti139), (174, ti174)], [], bs, none, []⟩
abbrev n_strings_Builder_String : FuncId := 87
theorem b_strings_Builder_String : Tryd.prog.funcs[n_strings_Builder_String]? = some Tryd.f87 := Tryd.func87
def p_strings_Builder_String_1 : Plan := .take 0 (.take 1 (.take 2 (.take 3 (.take 5 (.take 6 (.take 7 (.take 8 (.take 9 (.exec 4 (.exec 10 (.take 11 (.done))))))))))))
theorem good_strings_Builder_String (W0 : World) (S : Nat → Prop) (bs : List Nat := []) : Good (cx_strings_Builder_String W0 S bs) := ⟨List.forall_mem_cons.2 ⟨ok3, List.forall_mem_cons.2 ⟨ok5, List.forall_mem_cons.2 ⟨ok26, List.forall_mem_cons.2 ⟨ok137, List.forall_mem_cons.2 ⟨ok139, List.forall_mem_cons.2 ⟨ok174, (fun _ h => by cases h)⟩⟩⟩⟩⟩⟩, (fun _ h => by cases h), mixed⟩
/-- ostiary/name.sized -/
noncomputable def cx_name_sized (W0 : World) (S : Nat → Prop) (bs : List Nat := []) : Cx := ⟨Tryd.prog, W0, S, 26, [(3, ti3), (9, ti9), (40, ti40)], [117], bs, none, []⟩
abbrev n_name_sized : FuncId := 88
theorem b_name_sized : Tryd.prog.funcs[n_name_sized]? = some Tryd.f88 := Tryd.func88
theorem good_name_sized (W0 : World) (S : Nat → Prop) (bs : List Nat := []) : Good (cx_name_sized W0 S bs) := ⟨List.forall_mem_cons.2 ⟨ok3, List.forall_mem_cons.2 ⟨ok9, List.forall_mem_cons.2 ⟨ok40, (fun _ h => by cases h)⟩⟩⟩, List.forall_mem_cons.2 ⟨by kernel_rfl, (fun _ h => by cases h)⟩, mixed⟩
/-- ostiary/cred.salted -/
noncomputable def cx_cred_salted (W0 : World) (S : Nat → Prop) (bs : List Nat := []) : Cx := ⟨Tryd.prog, W0, S, 21, [(3, ti3), (5, ti5), (26, ti26)], [], bs, none, []⟩
abbrev n_cred_salted : FuncId := 89
theorem b_cred_salted : Tryd.prog.funcs[n_cred_salted]? = some Tryd.f89 := Tryd.func89
theorem good_cred_salted (W0 : World) (S : Nat → Prop) (bs : List Nat := []) : Good (cx_cred_salted W0 S bs) := ⟨List.forall_mem_cons.2 ⟨ok3, List.forall_mem_cons.2 ⟨ok5, List.forall_mem_cons.2 ⟨ok26, (fun _ h => by cases h)⟩⟩⟩, (fun _ h => by cases h), mixed⟩
/-- bytes.Clone -/
noncomputable def cx_bytes_Clone (W0 : World) (S : Nat → Prop) (bs : List Nat := []) : Cx := ⟨Tryd.prog, W0, S, 8, [(5, ti5), (26, ti26)], [], bs, none, []⟩
abbrev n_bytes_Clone : FuncId := 90
theorem b_bytes_Clone : Tryd.prog.funcs[n_bytes_Clone]? = some Tryd.f90 := Tryd.func90
theorem good_bytes_Clone (W0 : World) (S : Nat → Prop) (bs : List Nat := []) : Good (cx_bytes_Clone W0 S bs) := ⟨List.forall_mem_cons.2 ⟨ok5, List.forall_mem_cons.2 ⟨ok26, (fun _ h => by cases h)⟩⟩, (fun _ h => by cases h), mixed⟩
/-- (*ostiary/box.Box).tag -/
noncomputable def cx_box_Box_tag (W0 : World) (S : Nat → Prop) (bs : List Nat := []) : Cx := ⟨Tryd.prog, W0, S, 61, [(3, ti3), (4, ti4), (5, ti5), (9, ti9), (26, ti26), (74, ti74), (75, ti75), (77, ti77), (148, ti148), (150, ti150)], [26, 118, 119], bs, none, []⟩
abbrev n_box_Box_tag : FuncId := 91
theorem b_box_Box_tag : Tryd.prog.funcs[n_box_Box_tag]? = some Tryd.f91 := Tryd.func91
def p_box_Box_tag_8 : Plan := .take 0 (.take 1 (.take 2 (.take 3 (.take 4 (.take 5 (.exec 6 (.exec 7 (.exec 8 (.exec 9 (.take 10 (.brk 11 (.done))))))))))))
def p_box_Box_tag_9 : Plan := .take 0 (.take 1 (.take 2 (.take 3 (.take 4 (.take 5 (.take 6 (.take 7 (.take 8 (.take 9 (.exec 10 (.done)))))))))))
theorem good_box_Box_tag (W0 : World) (S : Nat → Prop) (bs : List Nat := []) : Good (cx_box_Box_tag W0 S bs) := ⟨List.forall_mem_cons.2 ⟨ok3, List.forall_mem_cons.2 ⟨ok4, List.forall_mem_cons.2 ⟨ok5, List.forall_mem_cons.2 ⟨ok9, List.forall_mem_cons.2 ⟨ok26, List.forall_mem_cons.2 ⟨ok74, List.forall_mem_cons.2 ⟨ok75, List.forall_mem_cons.2 ⟨ok77, List.forall_mem_cons.2 ⟨ok148, List.forall_mem_cons.2 ⟨ok150, (fun _ h => by cases h)⟩⟩⟩⟩⟩⟩⟩⟩⟩⟩, List.forall_mem_cons.2 ⟨by kernel_rfl, List.forall_mem_cons.2 ⟨by kernel_rfl, List.forall_mem_cons.2 ⟨by kernel_rfl, (fun _ h => by cases h)⟩⟩⟩, mixed⟩
/-- (*ostiary/box.Box).open -/
noncomputable def cx_box_Box_open (W0 : World) (S : Nat → Prop) (bs : List Nat := []) : Cx := ⟨Tryd.prog, W0, S, 72, [(3, ti3), (4, ti4), (5, ti5), (9, ti9), (26, ti26), (74, ti74), (75, ti75), (77, ti77), (148, ti148), (150, ti150), (152, ti152)], [27, 60, 61, 90, 120], bs, none, []⟩
abbrev n_box_Box_open : FuncId := 92
theorem b_box_Box_open : Tryd.prog.funcs[n_box_Box_open]? = some Tryd.f92 := Tryd.func92
def p_box_Box_open_5 : Plan := .take 0 (.take 1 (.take 2 (.take 3 (.take 4 (.take 5 (.take 6 (.take 7 (.exec 8 (.exec 9 (.take 10 (.take 11 (.take 12 (.done)))))))))))))
def p_box_Box_open_11 : Plan := .take 0 (.take 1 (.take 3 (.take 4 (.exec 2 (.exec 5 (.take 6 (.exec 7 (.take 8 (.done)))))))))
theorem good_box_Box_open (W0 : World) (S : Nat → Prop) (bs : List Nat := []) : Good (cx_box_Box_open W0 S bs) := ⟨List.forall_mem_cons.2 ⟨ok3, List.forall_mem_cons.2 ⟨ok4, List.forall_mem_cons.2 ⟨ok5, List.forall_mem_cons.2 ⟨ok9, List.forall_mem_cons.2 ⟨ok26, List.forall_mem_cons.2 ⟨ok74, List.forall_mem_cons.2 ⟨ok75, List.forall_mem_cons.2 ⟨ok77, List.forall_mem_cons.2 ⟨ok148, List.forall_mem_cons.2 ⟨ok150, List.forall_mem_cons.2 ⟨ok152, (fun _ h => by cases h)⟩⟩⟩⟩⟩⟩⟩⟩⟩⟩⟩, List.forall_mem_cons.2 ⟨by kernel_rfl, List.forall_mem_cons.2 ⟨by kernel_rfl, List.forall_mem_cons.2 ⟨by kernel_rfl, List.forall_mem_cons.2 ⟨by kernel_rfl, List.forall_mem_cons.2 ⟨by kernel_rfl, (fun _ h => by cases h)⟩⟩⟩⟩⟩, mixed⟩
/-- ostiary/box.turned -/
noncomputable def cx_box_turned (W0 : World) (S : Nat → Prop) (bs : List Nat := []) : Cx := ⟨Tryd.prog, W0, S, 58, [(3, ti3), (5, ti5), (26, ti26), (148, ti148), (152, ti152)], [121, 122, 123], bs, none, []⟩
abbrev n_box_turned : FuncId := 93
theorem b_box_turned : Tryd.prog.funcs[n_box_turned]? = some Tryd.f93 := Tryd.func93
theorem good_box_turned (W0 : World) (S : Nat → Prop) (bs : List Nat := []) : Good (cx_box_turned W0 S bs) := ⟨List.forall_mem_cons.2 ⟨ok3, List.forall_mem_cons.2 ⟨ok5, List.forall_mem_cons.2 ⟨ok26, List.forall_mem_cons.2 ⟨ok148, List.forall_mem_cons.2 ⟨ok152, (fun _ h => by cases h)⟩⟩⟩⟩⟩, List.forall_mem_cons.2 ⟨by kernel_rfl, List.forall_mem_cons.2 ⟨by kernel_rfl, List.forall_mem_cons.2 ⟨by kernel_rfl, (fun _ h => by cases h)⟩⟩⟩, mixed⟩
/-- ostiary/ostiaryref01.Num -/
noncomputable def cx_ostiaryref01_Num (W0 : World) (S : Nat → Prop) (bs : List Nat := []) : Cx := ⟨Tryd.prog, W0, S, 19, [(3, ti3), (5, ti5), (26, ti26), (44, ti44)], [], bs, none, []⟩
abbrev n_ostiaryref01_Num : FuncId := 94
theorem b_ostiaryref01_Num : Tryd.prog.funcs[n_ostiaryref01_Num]? = some Tryd.f94 := Tryd.func94
theorem good_ostiaryref01_Num (W0 : World) (S : Nat → Prop) (bs : List Nat := []) : Good (cx_ostiaryref01_Num W0 S bs) := ⟨List.forall_mem_cons.2 ⟨ok3, List.forall_mem_cons.2 ⟨ok5, List.forall_mem_cons.2 ⟨ok26, List.forall_mem_cons.2 ⟨ok44, (fun _ h => by cases h)⟩⟩⟩⟩, (fun _ h => by cases h), mixed⟩
/-- ostiary/box.Handles$1 -/
noncomputable def cx_box_Handles_1 (W0 : World) (S : Nat → Prop) (bs : List Nat := []) : Cx := ⟨Tryd.prog, W0, S, 31, [(3, ti3), (5, ti5), (26, ti26)], [27], bs, none, []⟩
abbrev n_box_Handles_1 : FuncId := 95
theorem b_box_Handles_1 : Tryd.prog.funcs[n_box_Handles_1]? = some Tryd.f95 := Tryd.func95
theorem good_box_Handles_1 (W0 : World) (S : Nat → Prop) (bs : List Nat := []) : Good (cx_box_Handles_1 W0 S bs) := ⟨List.forall_mem_cons.2 ⟨ok3, List.forall_mem_cons.2 ⟨ok5, List.forall_mem_cons.2 ⟨ok26, (fun _ h => by cases h)⟩⟩⟩, List.forall_mem_cons.2 ⟨by kernel_rfl, (fun _ h => by cases h)⟩, mixed⟩
/-- cmp.Less[string] -/
noncomputable def cx_cmp_Less_string (W0 : World) (S : Nat → Prop) (bs : List Nat := []) : Cx := ⟨Tryd.prog, W0, S, 17, [(9, ti9)], [124], bs, none, []⟩
abbrev n_cmp_Less_string : FuncId := 96
theorem b_cmp_Less_string : Tryd.prog.funcs[n_cmp_Less_string]? = some Tryd.f96 := Tryd.func96
theorem good_cmp_Less_string (W0 : World) (S : Nat → Prop) (bs : List Nat := []) : Good (cx_cmp_Less_string W0 S bs) := ⟨List.forall_mem_cons.2 ⟨ok9, (fun _ h => by cases h)⟩, List.forall_mem_cons.2 ⟨by kernel_rfl, (fun _ h => by cases h)⟩, mixed⟩
/-- slices.isNaN[string] -/
noncomputable def cx_slices_isNaN_string (W0 : World) (S : Nat → Prop) (bs : List Nat := []) : Cx := ⟨Tryd.prog, W0, S, 6, [(9, ti9)], [], bs, none, []⟩
abbrev n_slices_isNaN_string : FuncId := 97
theorem b_slices_isNaN_string : Tryd.prog.funcs[n_slices_isNaN_string]? = some Tryd.f97 := Tryd.func97
theorem good_slices_isNaN_string (W0 : World) (S : Nat → Prop) (bs : List Nat := []) : Good (cx_slices_isNaN_string W0 S bs) := ⟨List.forall_mem_cons.2 ⟨ok9, (fun _ h => by cases h)⟩, (fun _ h => by cases h), mixed⟩
/-- slices.rotateRight[string] -/
noncomputable def cx_slices_rotateRight_string (W0 : World) (S : Nat → Prop) (bs : List Nat := []) : Cx := ⟨Tryd.prog, W0, S, 10, [(3, ti3), (9, ti9), (45, ti45)], [125], bs, none, []⟩
abbrev n_slices_rotateRight_string : FuncId := 99
theorem b_slices_rotateRight_string : Tryd.prog.funcs[n_slices_rotateRight_string]? = some Tryd.f99 := Tryd.func99
theorem good_slices_rotateRight_string (W0 : World) (S : Nat → Prop) (bs : List Nat := []) : Good (cx_slices_rotateRight_string W0 S bs) := ⟨List.forall_mem_cons.2 ⟨ok3, List.forall_mem_cons.2 ⟨ok9, List.forall_mem_cons.2 ⟨ok45, (fun _ h => by cases h)⟩⟩⟩, List.forall_mem_cons.2 ⟨by kernel_rfl, (fun _ h => by cases h)⟩, mixed⟩
/-- slices.AppendSeq[[]string,string] -/
noncomputable def cx_slices_AppendSeq_string_string (W0 : World) (S : Nat → Prop) (bs : List Nat := []) : Cx := ⟨Tryd.prog, W0, S, 13, [(9, ti9), (45, ti45)], [], bs, none, []⟩
abbrev n_slices_AppendSeq_string_string : FuncId := 100
theorem b_slices_AppendSeq_string_string : Tryd.prog.funcs[n_slices_AppendSeq_string_string]? = some Tryd.f100 := Tryd.func100
theorem good_slices_AppendSeq_string_string (W0 : World) (S : Nat → Prop) (bs : List Nat := []) : Good (cx_slices_AppendSeq_string_string W0 S bs) := ⟨List.forall_mem_cons.2 ⟨ok9, List.forall_mem_cons.2 ⟨ok45, (fun _ h => by cases h)⟩⟩, (fun _ h => by cases h), mixed⟩
/-- (*ostiary/cred.Store).Tenants$1 -/
noncomputable def cx_cred_Store_Tenants_1 (W0 : World) (S : Nat → Prop) (bs : List Nat := []) : Cx := ⟨Tryd.prog, W0, S, 23, [(3, ti3), (9, ti9), (38, ti38), (44, ti44), (45, ti45), (84, ti84), (86, ti86), (88, ti88), (92, ti92), (111, ti111)], [102, 103], bs, none, []⟩
abbrev n_cred_Store_Tenants_1 : FuncId := 101
theorem b_cred_Store_Tenants_1 : Tryd.prog.funcs[n_cred_Store_Tenants_1]? = some Tryd.f101 := Tryd.func101
theorem good_cred_Store_Tenants_1 (W0 : World) (S : Nat → Prop) (bs : List Nat := []) : Good (cx_cred_Store_Tenants_1 W0 S bs) := ⟨List.forall_mem_cons.2 ⟨ok3, List.forall_mem_cons.2 ⟨ok9, List.forall_mem_cons.2 ⟨ok38, List.forall_mem_cons.2 ⟨ok44, List.forall_mem_cons.2 ⟨ok45, List.forall_mem_cons.2 ⟨ok84, List.forall_mem_cons.2 ⟨ok86, List.forall_mem_cons.2 ⟨ok88, List.forall_mem_cons.2 ⟨ok92, List.forall_mem_cons.2 ⟨ok111, (fun _ h => by cases h)⟩⟩⟩⟩⟩⟩⟩⟩⟩⟩, List.forall_mem_cons.2 ⟨by kernel_rfl, List.forall_mem_cons.2 ⟨by kernel_rfl, (fun _ h => by cases h)⟩⟩, mixed⟩
/-- slices.Sorted[string] -/
noncomputable def cx_slices_Sorted_string (W0 : World) (S : Nat → Prop) (bs : List Nat := []) : Cx := ⟨Tryd.prog, W0, S, 9, [(9, ti9), (45, ti45), (111, ti111)], [69, 126], bs, none, []⟩
abbrev n_slices_Sorted_string : FuncId := 102
theorem b_slices_Sorted_string : Tryd.prog.funcs[n_slices_Sorted_string]? = some Tryd.f102 := Tryd.func102
theorem good_slices_Sorted_string (W0 : World) (S : Nat → Prop) (bs : List Nat := []) : Good (cx_slices_Sorted_string W0 S bs) := ⟨List.forall_mem_cons.2 ⟨ok9, List.forall_mem_cons.2 ⟨ok45, List.forall_mem_cons.2 ⟨ok111, (fun _ h => by cases h)⟩⟩⟩, List.forall_mem_cons.2 ⟨by kernel_rfl, List.forall_mem_cons.2 ⟨by kernel_rfl, (fun _ h => by cases h)⟩⟩, mixed⟩
/-- maps.Keys[map[string]map[string]*ostiary/cred.Cred,string,map[string]*ostiary/cred.Cred] -/
noncomputable def cx_maps_Keys_map_string_map_string_cred_Cred_string_map_string_cred_Cred (W0 : World) (S : Nat → Prop) (bs : List Nat := []) : Cx := ⟨Tryd.prog, W0, S, 4, [(9, ti9), (84, ti84), (88, ti88), (92, ti92)], [127], bs, none, []⟩
abbrev n_maps_Keys_map_string_map_string_cred_Cred_string_map_string_cred_Cred : FuncId := 103
theorem b_maps_Keys_map_string_map_string_cred_Cred_string_map_string_cred_Cred : Tryd.prog.funcs[n_maps_Keys_map_string_map_string_cred_Cred_string_map_string_cred_Cred]? = some Tryd.f103 := Tryd.func103
theorem good_maps_Keys_map_string_map_string_cred_Cred_string_map_string_cred_Cred (W0 : World) (S : Nat → Prop) (bs : List Nat := []) : Good (cx_maps_Keys_map_string_map_string_cred_Cred_string_map_string_cred_Cred W0 S bs) := ⟨List.forall_mem_cons.2 ⟨ok9, List.forall_mem_cons.2 ⟨ok84, List.forall_mem_cons.2 ⟨ok88, List.forall_mem_cons.2 ⟨ok92, (fun _ h => by cases h)⟩⟩⟩⟩, List.forall_mem_cons.2 ⟨by kernel_rfl, (fun _ h => by cases h)⟩, mixed⟩
/-- slices.AppendSeq[[]ostiary/cred.Cred,ostiary/cred.Cred] -/
noncomputable def cx_slices_AppendSeq_cred_Cred_cred_Cred (W0 : World) (S : Nat → Prop) (bs : List Nat := []) : Cx := ⟨Tryd.prog, W0, S, 13, [(3, ti3), (4, ti4), (5, ti5), (9, ti9), (26, ti26), (29, ti29), (44, ti44), (45, ti45), (47, ti47), (113, ti113)], [], bs, none, []⟩
abbrev n_slices_AppendSeq_cred_Cred_cred_Cred : FuncId := 104
theorem b_slices_AppendSeq_cred_Cred_cred_Cred : Tryd.prog.funcs[n_slices_AppendSeq_cred_Cred_cred_Cred]? = some Tryd.f104 := Tryd.func104
theorem good_slices_AppendSeq_cred_Cred_cred_Cred (W0 : World) (S : Nat → Prop) (bs : List Nat := []) : Good (cx_slices_AppendSeq_cred_Cred_cred_Cred W0 S bs) := ⟨List.forall_mem_cons.2 ⟨ok3, List.forall_mem_cons.2 ⟨ok4, List.forall_mem_cons.2 ⟨ok5, List.forall_mem_cons.2 ⟨ok9, List.forall_mem_cons.2 ⟨ok26, List.forall_mem_cons.2 ⟨ok29, List.forall_mem_cons.2 ⟨ok44, List.forall_mem_cons.2 ⟨ok45, List.forall_mem_cons.2 ⟨ok47, List.forall_mem_cons.2 ⟨ok113, (fun _ h => by cases h)⟩⟩⟩⟩⟩⟩⟩⟩⟩⟩, (fun _ h => by cases h), mixed⟩
/-- (*ostiary/cred.Store).Users$1 -/
noncomputable def cx_cred_Store_Users_1 (W0 : World) (S : Nat → Prop) (bs : List Nat := []) : Cx := ⟨Tryd.prog, W0, S, 34, [(3, ti3), (4, ti4), (5, ti5), (9, ti9), (26, ti26), (29, ti29), (38, ti38), (44, ti44), (45, ti45), (47, ti47), (88, ti88), (92, ti92), (111, ti111)], [51, 57, 102, 106], bs, none, []⟩
abbrev n_cred_Store_Users_1 : FuncId := 105
theorem b_cred_Store_Users_1 : Tryd.prog.funcs[n_cred_Store_Users_1]? = some Tryd.f105 := Tryd.func105
theorem good_cred_Store_Users_1 (W0 : World) (S : Nat → Prop) (bs : List Nat := []) : Good (cx_cred_Store_Users_1 W0 S bs) := ⟨List.forall_mem_cons.2 ⟨ok3, List.forall_mem_cons.2 ⟨ok4, List.forall_mem_cons.2 ⟨ok5, List.forall_mem_cons.2 ⟨ok9, List.forall_mem_cons.2 ⟨ok26, List.forall_mem_cons.2 ⟨ok29, List.forall_mem_cons.2 ⟨ok38, List.forall_mem_cons.2 ⟨ok44, List.forall_mem_cons.2 ⟨ok45, List.forall_mem_cons.2 ⟨ok47, List.forall_mem_cons.2 ⟨ok88, List.forall_mem_cons.2 ⟨ok92, List.forall_mem_cons.2 ⟨ok111, (fun _ h => by cases h)⟩⟩⟩⟩⟩⟩⟩⟩⟩⟩⟩⟩⟩, List.forall_mem_cons.2 ⟨by kernel_rfl, List.forall_mem_cons.2 ⟨by kernel_rfl, List.forall_mem_cons.2 ⟨by kernel_rfl, List.forall_mem_cons.2 ⟨by kernel_rfl, (fun _ h => by cases h)⟩⟩⟩⟩, mixed⟩
/-- maps.Keys[map[string]*ostiary/cred.Cred,string,*ostiary/cred.Cred] -/
noncomputable def cx_maps_Keys_map_string_cred_Cred_string_cred_Cred (W0 : World) (S : Nat → Prop) (bs : List Nat := []) : Cx := ⟨Tryd.prog, W0, S, 4, [(9, ti9), (88, ti88), (92, ti92)], [128], bs, none, []⟩
abbrev n_maps_Keys_map_string_cred_Cred_string_cred_Cred : FuncId := 106
theorem b_maps_Keys_map_string_cred_Cred_string_cred_Cred : Tryd.prog.funcs[n_maps_Keys_map_string_cred_Cred_string_cred_Cred]? = some Tryd.f106 := Tryd.func106
theorem good_maps_Keys_map_string_cred_Cred_string_cred_Cred (W0 : World) (S : Nat → Prop) (bs : List Nat := []) : Good (cx_maps_Keys_map_string_cred_Cred_string_cred_Cred W0 S bs) := ⟨List.forall_mem_cons.2 ⟨ok9, List.forall_mem_cons.2 ⟨ok88, List.forall_mem_cons.2 ⟨ok92, (fun _ h => by cases h)⟩⟩⟩, List.forall_mem_cons.2 ⟨by kernel_rfl, (fun _ h => by cases h)⟩, mixed⟩
/-- ostiary/ostiarylaw14.secret -/
noncomputable def cx_ostiarylaw14_secret (W0 : World) (S : Nat → Prop) (bs : List Nat := []) : Cx := ⟨Tryd.prog, W0, S, 4, [(3, ti3), (5, ti5), (26, ti26), (28, ti28), (29, ti29)], [], bs, none, []⟩
abbrev n_ostiarylaw14_secret : FuncId := 107
theorem b_ostiarylaw14_secret : Tryd.prog.funcs[n_ostiarylaw14_secret]? = some Tryd.f107 := Tryd.func107
theorem good_ostiarylaw14_secret (W0 : World) (S : Nat → Prop) (bs : List Nat := []) : Good (cx_ostiarylaw14_secret W0 S bs) := ⟨List.forall_mem_cons.2 ⟨ok3, List.forall_mem_cons.2 ⟨ok5, List.forall_mem_cons.2 ⟨ok26, List.forall_mem_cons.2 ⟨ok28, List.forall_mem_cons.2 ⟨ok29, (fun _ h => by cases h)⟩⟩⟩⟩⟩, (fun _ h => by cases h), mixed⟩
/-- (*strings.Builder).WriteByte -/
noncomputable def cx_strings_Builder_WriteByte (W0 : World) (S : Nat → Prop) (bs : List Nat := []) : Cx := ⟨Tryd.prog, W0, S, 17, [(5, ti5), (26, ti26), (137, ti137), (139, ti139)], [115], bs, none, []⟩
abbrev n_strings_Builder_WriteByte : FuncId := 108
theorem b_strings_Builder_WriteByte : Tryd.prog.funcs[n_strings_Builder_WriteByte]? = some Tryd.f108 := Tryd.func108
theorem good_strings_Builder_WriteByte (W0 : World) (S : Nat → Prop) (bs : List Nat := []) : Good (cx_strings_Builder_WriteByte W0 S bs) := ⟨List.forall_mem_cons.2 ⟨ok5, List.forall_mem_cons.2 ⟨ok26, List.forall_mem_cons.2 ⟨ok137, List.forall_mem_cons.2 ⟨ok139, (fun _ h => by cases h)⟩⟩⟩⟩, List.forall_mem_cons.2 ⟨by kernel_rfl, (fun _ h => by cases h)⟩, mixed⟩
/-- ostiary/sha.Blocks$1 -/
noncomputable def cx_sha_Blocks_1 (W0 : World) (S : Nat → Prop) (bs : List Nat := []) : Cx := ⟨Tryd.prog, W0, S, 21, [(3, ti3), (5, ti5), (26, ti26), (44, ti44)], [90, 110], bs, none, []⟩
abbrev n_sha_Blocks_1 : FuncId := 109
theorem b_sha_Blocks_1 : Tryd.prog.funcs[n_sha_Blocks_1]? = some Tryd.f109 := Tryd.func109
def p_sha_Blocks_1_0 : Plan := .take 0 (.take 2 (.take 3 (.take 4 (.exec 1 (.exec 5 (.exec 6 (.take 7 (.done))))))))
theorem good_sha_Blocks_1 (W0 : World) (S : Nat → Prop) (bs : List Nat := []) : Good (cx_sha_Blocks_1 W0 S bs) := ⟨List.forall_mem_cons.2 ⟨ok3, List.forall_mem_cons.2 ⟨ok5, List.forall_mem_cons.2 ⟨ok26, List.forall_mem_cons.2 ⟨ok44, (fun _ h => by cases h)⟩⟩⟩⟩, List.forall_mem_cons.2 ⟨by kernel_rfl, List.forall_mem_cons.2 ⟨by kernel_rfl, (fun _ h => by cases h)⟩⟩, mixed⟩
/-- ostiary/sha.ends -/
noncomputable def cx_sha_ends (W0 : World) (S : Nat → Prop) (bs : List Nat := []) : Cx := ⟨Tryd.prog, W0, S, 21, [(3, ti3), (5, ti5), (26, ti26), (44, ti44)], [129], bs, none, []⟩
abbrev n_sha_ends : FuncId := 110
theorem b_sha_ends : Tryd.prog.funcs[n_sha_ends]? = some Tryd.f110 := Tryd.func110
theorem good_sha_ends (W0 : World) (S : Nat → Prop) (bs : List Nat := []) : Good (cx_sha_ends W0 S bs) := ⟨List.forall_mem_cons.2 ⟨ok3, List.forall_mem_cons.2 ⟨ok5, List.forall_mem_cons.2 ⟨ok26, List.forall_mem_cons.2 ⟨ok44, (fun _ h => by cases h)⟩⟩⟩⟩, List.forall_mem_cons.2 ⟨by kernel_rfl, (fun _ h => by cases h)⟩, mixed⟩
/-- ostiary/sha.spread -/
noncomputable def cx_sha_spread (W0 : World) (S : Nat → Prop) (bs : List Nat := []) : Cx := ⟨Tryd.prog, W0, S, 65, [(3, ti3), (5, ti5), (26, ti26), (53, ti53), (170, ti170)], [113, 130], bs, none, []⟩
abbrev n_sha_spread : FuncId := 112
theorem b_sha_spread : Tryd.prog.funcs[n_sha_spread]? = some Tryd.f112 := Tryd.func112
def p_sha_spread_10 : Plan := .take 0 (.take 1 (.take 2 (.take 3 (.take 4 (.take 5 (.take 6 (.take 7 (.take 8 (.take 9 (.done))))))))))
def p_sha_spread_13 : Plan := .take 0 (.take 1 (.take 2 (.take 3 (.take 4 (.take 5 (.take 6 (.take 7 (.take 8 (.take 9 (.take 10 (.take 11 (.take 12 (.take 13 (.take 14 (.brk 15 (.done))))))))))))))))
theorem good_sha_spread (W0 : World) (S : Nat → Prop) (bs : List Nat := []) : Good (cx_sha_spread W0 S bs) := ⟨List.forall_mem_cons.2 ⟨ok3, List.forall_mem_cons.2 ⟨ok5, List.forall_mem_cons.2 ⟨ok26, List.forall_mem_cons.2 ⟨ok53, List.forall_mem_cons.2 ⟨ok170, (fun _ h => by cases h)⟩⟩⟩⟩⟩, List.forall_mem_cons.2 ⟨by kernel_rfl, List.forall_mem_cons.2 ⟨by kernel_rfl, (fun _ h => by cases h)⟩⟩, mixed⟩
/-- math/bits.RotateLeft32 -/
noncomputable def cx_math_bits_RotateLeft32 (W0 : World) (S : Nat → Prop) (bs : List Nat := []) : Cx := ⟨Tryd.prog, W0, S, 17, [(3, ti3), (53, ti53), (99, ti99)], [], bs, none, []⟩
abbrev n_math_bits_RotateLeft32 : FuncId := 113
theorem b_math_bits_RotateLeft32 : Tryd.prog.funcs[n_math_bits_RotateLeft32]? = some Tryd.f113 := Tryd.func113
theorem good_math_bits_RotateLeft32 (W0 : World) (S : Nat → Prop) (bs : List Nat := []) : Good (cx_math_bits_RotateLeft32 W0 S bs) := ⟨List.forall_mem_cons.2 ⟨ok3, List.forall_mem_cons.2 ⟨ok53, List.forall_mem_cons.2 ⟨ok99, (fun _ h => by cases h)⟩⟩⟩, (fun _ h => by cases h), mixed⟩
/-- ostiary/ostiaryref01.Step -/
noncomputable def cx_ostiaryref01_Step (W0 : World) (S : Nat → Prop) (bs : List Nat := []) : Cx := ⟨Tryd.prog, W0, S, 178, [(3, ti3), (5, ti5), (26, ti26), (44, ti44), (53, ti53), (99, ti99), (131, ti131), (170, ti170)], [94, 131], bs, none, []⟩
abbrev n_ostiaryref01_Step : FuncId := 114
theorem b_ostiaryref01_Step : Tryd.prog.funcs[n_ostiaryref01_Step]? = some Tryd.f114 := Tryd.func114
def p_ostiaryref01_Step_7 : Plan := .take 0 (.take 1 (.take 2 (.take 3 (.take 5 (.take 6 (.take 7 (.take 8 (.take 11 (.take 12 (.take 13 (.take 14 (.take 15 (.exec 4 (.exec 9 (.take 10 (.take 16 (.take 17 (.done))))))))))))))))))
def p_ostiaryref01_Step_8 : Plan := .take 0 (.take 1 (.take 2 (.take 3 (.take 5 (.take 6 (.take 7 (.take 8 (.take 11 (.take 12 (.take 13 (.take 14 (.take 15 (.exec 4 (.exec 9 (.take 10 (.take 16 (.take 17 (.done))))))))))))))))))
def p_ostiaryref01_Step_9 : Plan := .take 0 (.take 1 (.take 2 (.take 3 (.take 4 (.take 5 (.take 6 (.take 7 (.take 8 (.take 9 (.take 10 (.take 11 (.take 12 (.take 13 (.take 14 (.brk 15 (.done))))))))))))))))
def p_ostiaryref01_Step_15 : Plan := .take 0 (.take 1 (.take 2 (.take 4 (.take 7 (.take 11 (.take 12 (.take 13 (.take 14 (.take 15 (.take 16 (.take 17 (.take 18 (.take 19 (.take 20 (.take 22 (.take 23 (.take 24 (.take 26 (.take 27 (.take 28 (.exec 3 (.exec 5 (.take 6 (.exec 8 (.take 9 (.take 10 (.take 21 (.take 25 (.take 29 (.take 30 (.done)))))))))))))))))))))))))))))))
def p_ostiaryref01_Step_17 : Plan := .take 0 (.take 2 (.take 5 (.take 8 (.take 9 (.take 10 (.take 11 (.take 12 (.take 13 (.take 14 (.take 15 (.take 16 (.take 17 (.take 18 (.take 19 (.take 20 (.take 21 (.take 22 (.exec 1 (.exec 3 (.take 4 (.exec 6 (.take 7 (.take 23 (.take 24 (.done)))))))))))))))))))))))))
def p_ostiaryref01_Step_22 : Plan := .take 0 (.take 1 (.take 2 (.take 3 (.take 4 (.take 5 (.take 6 (.take 7 (.brk 8 (.done)))))))))
theorem good_ostiaryref01_Step (W0 : World) (S : Nat → Prop) (bs : List Nat := []) : Good (cx_ostiaryref01_Step W0 S bs) := ⟨List.forall_mem_cons.2 ⟨ok3, List.forall_mem_cons.2 ⟨ok5, List.forall_mem_cons.2 ⟨ok26, List.forall_mem_cons.2 ⟨ok44, List.forall_mem_cons.2 ⟨ok53, List.forall_mem_cons.2 ⟨ok99, List.forall_mem_cons.2 ⟨ok131, List.forall_mem_cons.2 ⟨ok170, (fun _ h => by cases h)⟩⟩⟩⟩⟩⟩⟩⟩, List.forall_mem_cons.2 ⟨by kernel_rfl, List.forall_mem_cons.2 ⟨by kernel_rfl, (fun _ h => by cases h)⟩⟩, mixed⟩
/-- (*strings.Builder).copyCheck -/
noncomputable def cx_strings_Builder_copyCheck (W0 : World) (S : Nat → Prop) (bs : List Nat := []) : Cx := ⟨Tryd.prog, W0, S, 20, [(5, ti5), (26, ti26), (137, ti137), (139, ti139)], [], bs, none, []⟩
abbrev n_strings_Builder_copyCheck : FuncId := 115
theorem b_strings_Builder_copyCheck : Tryd.prog.funcs[n_strings_Builder_copyCheck]? = some Tryd.f115 := Tryd.func115
theorem good_strings_Builder_copyCheck (W0 : World) (S : Nat → Prop) (bs : List Nat := []) : Good (cx_strings_Builder_copyCheck W0 S bs) := ⟨List.forall_mem_cons.2 ⟨ok5, List.forall_mem_cons.2 ⟨ok26, List.forall_mem_cons.2 ⟨ok137, List.forall_mem_cons.2 ⟨ok139, (fun _ h => by cases h)⟩⟩⟩⟩, (fun _ h => by cases h), mixed⟩
/-- (*strings.Builder).grow -/
noncomputable def cx_strings_Builder_grow (W0 : World) (S : Nat → Prop) (bs : List Nat := []) : Cx := ⟨Tryd.prog, W0, S, 30, [(3, ti3), (5, ti5), (26, ti26), (137, ti137), (139, ti139)], [], bs, none, []⟩
abbrev n_strings_Builder_grow : FuncId := 116
theorem b_strings_Builder_grow : Tryd.prog.funcs[n_strings_Builder_grow]? = some Tryd.f116 := Tryd.func116
def p_strings_Builder_grow_0 : Plan := .take 0 (.take 1 (.take 2 (.take 3 (.take 4 (.take 5 (.take 6 (.take 7 (.take 9 (.take 10 (.take 11 (.take 12 (.take 13 (.exec 8 (.take 14 (.take 15 (.done))))))))))))))))
theorem good_strings_Builder_grow (W0 : World) (S : Nat → Prop) (bs : List Nat := []) : Good (cx_strings_Builder_grow W0 S bs) := ⟨List.forall_mem_cons.2 ⟨ok3, List.forall_mem_cons.2 ⟨ok5, List.forall_mem_cons.2 ⟨ok26, List.forall_mem_cons.2 ⟨ok137, List.forall_mem_cons.2 ⟨ok139, (fun _ h => by cases h)⟩⟩⟩⟩⟩, (fun _ h => by cases h), mixed⟩
/-- ostiary/name.Prepare -/
noncomputable def cx_name_Prepare (W0 : World) (S : Nat → Prop) (bs : List Nat := []) : Cx := ⟨Tryd.prog, W0, S, 25, [(5, ti5), (9, ti9), (21, ti21), (26, ti26), (40, ti40), (189, ti189), (191, ti191), (192, ti192)], [133, 134, 135, 136], bs, none, []⟩
abbrev n_name_Prepare : FuncId := 117
theorem b_name_Prepare : Tryd.prog.funcs[n_name_Prepare]? = some Tryd.f117 := Tryd.func117
theorem good_name_Prepare (W0 : World) (S : Nat → Prop) (bs : List Nat := []) : Good (cx_name_Prepare W0 S bs) := ⟨List.forall_mem_cons.2 ⟨ok5, List.forall_mem_cons.2 ⟨ok9, List.forall_mem_cons.2 ⟨ok21, List.forall_mem_cons.2 ⟨ok26, List.forall_mem_cons.2 ⟨ok40, List.forall_mem_cons.2 ⟨ok189, List.forall_mem_cons.2 ⟨ok191, List.forall_mem_cons.2 ⟨ok192, (fun _ h => by cases h)⟩⟩⟩⟩⟩⟩⟩⟩, List.forall_mem_cons.2 ⟨by kernel_rfl, List.forall_mem_cons.2 ⟨by kernel_rfl, List.forall_mem_cons.2 ⟨by kernel_rfl, List.forall_mem_cons.2 ⟨by kernel_rfl, (fun _ h => by cases h)⟩⟩⟩⟩, mixed⟩
/-- (ostiary/box.Term).print -/
noncomputable def cx_box_Term_print (W0 : World) (S : Nat → Prop) (bs : List Nat := []) : Cx := ⟨Tryd.prog, W0, S, 54, [(3, ti3), (5, ti5), (9, ti9), (26, ti26), (123, ti123), (148, ti148), (150, ti150)], [78, 137], bs, none, []⟩
abbrev n_box_Term_print : FuncId := 118
theorem b_box_Term_print : Tryd.prog.funcs[n_box_Term_print]? = some Tryd.f118 := Tryd.func118
theorem good_box_Term_print (W0 : World) (S : Nat → Prop) (bs : List Nat := []) : Good (cx_box_Term_print W0 S bs) := ⟨List.forall_mem_cons.2 ⟨ok3, List.forall_mem_cons.2 ⟨ok5, List.forall_mem_cons.2 ⟨ok9, List.forall_mem_cons.2 ⟨ok26, List.forall_mem_cons.2 ⟨ok123, List.forall_mem_cons.2 ⟨ok148, List.forall_mem_cons.2 ⟨ok150, (fun _ h => by cases h)⟩⟩⟩⟩⟩⟩⟩, List.forall_mem_cons.2 ⟨by kernel_rfl, List.forall_mem_cons.2 ⟨by kernel_rfl, (fun _ h => by cases h)⟩⟩, mixed⟩
/-- ostiary/box.copyOf -/
noncomputable def cx_box_copyOf (W0 : World) (S : Nat → Prop) (bs : List Nat := []) : Cx := ⟨Tryd.prog, W0, S, 20, [(3, ti3), (5, ti5), (26, ti26), (148, ti148), (150, ti150)], [90, 120], bs, none, []⟩
abbrev n_box_copyOf : FuncId := 119
theorem b_box_copyOf : Tryd.prog.funcs[n_box_copyOf]? = some Tryd.f119 := Tryd.func119
def p_box_copyOf_1 : Plan := .take 0 (.take 1 (.take 3 (.take 4 (.take 6 (.take 7 (.take 9 (.take 10 (.exec 2 (.take 12 (.exec 5 (.exec 8 (.exec 11 (.brk 13 (.brk 14 (.brk 15 (.brk 16 (.brk 17 (.brk 18 (.brk 19 (.done))))))))))))))))))))
theorem good_box_copyOf (W0 : World) (S : Nat → Prop) (bs : List Nat := []) : Good (cx_box_copyOf W0 S bs) := ⟨List.forall_mem_cons.2 ⟨ok3, List.forall_mem_cons.2 ⟨ok5, List.forall_mem_cons.2 ⟨ok26, List.forall_mem_cons.2 ⟨ok148, List.forall_mem_cons.2 ⟨ok150, (fun _ h => by cases h)⟩⟩⟩⟩⟩, List.forall_mem_cons.2 ⟨by kernel_rfl, List.forall_mem_cons.2 ⟨by kernel_rfl, (fun _ h => by cases h)⟩⟩, mixed⟩
/-- slices.Clone[[]int,int] -/
noncomputable def cx_slices_Clone_int_int (W0 : World) (S : Nat → Prop) (bs : List Nat := []) : Cx := ⟨Tryd.prog, W0, S, 8, [(3, ti3), (148, ti148)], [], bs, none, []⟩
abbrev n_slices_Clone_int_int : FuncId := 120
theorem b_slices_Clone_int_int : Tryd.prog.funcs[n_slices_Clone_int_int]? = some Tryd.f120 := Tryd.func120
theorem good_slices_Clone_int_int (W0 : World) (S : Nat → Prop) (bs : List Nat := []) : Good (cx_slices_Clone_int_int W0 S bs) := ⟨List.forall_mem_cons.2 ⟨ok3, List.forall_mem_cons.2 ⟨ok148, (fun _ h => by cases h)⟩⟩, (fun _ h => by cases h), mixed⟩
/-- ostiary/hmac.Xor -/
noncomputable def cx_hmac_Xor (W0 : World) (S : Nat → Prop) (bs : List Nat := []) : Cx := ⟨Tryd.prog, W0, S, 29, [(3, ti3), (5, ti5), (26, ti26)], [], bs, none, []⟩
abbrev n_hmac_Xor : FuncId := 121
theorem b_hmac_Xor : Tryd.prog.funcs[n_hmac_Xor]? = some Tryd.f121 := Tryd.func121
def p_hmac_Xor_5 : Plan := .take 0 (.take 1 (.take 2 (.take 3 (.take 4 (.take 5 (.take 6 (.take 7 (.take 8 (.take 9 (.exec 10 (.exec 11 (.take 12 (.done)))))))))))))
theorem good_hmac_Xor (W0 : World) (S : Nat → Prop) (bs : List Nat := []) : Good (cx_hmac_Xor W0 S bs) := ⟨List.forall_mem_cons.2 ⟨ok3, List.forall_mem_cons.2 ⟨ok5, List.forall_mem_cons.2 ⟨ok26, (fun _ h => by cases h)⟩⟩⟩, (fun _ h => by cases h), mixed⟩
/-- slices.Contains[[]int,int] -/
noncomputable def cx_slices_Contains_int_int (W0 : World) (S : Nat → Prop) (bs : List Nat := []) : Cx := ⟨Tryd.prog, W0, S, 9, [(3, ti3), (148, ti148)], [138], bs, none, []⟩
abbrev n_slices_Contains_int_int : FuncId := 122
theorem b_slices_Contains_int_int : Tryd.prog.funcs[n_slices_Contains_int_int]? = some Tryd.f122 := Tryd.func122
theorem good_slices_Contains_int_int (W0 : World) (S : Nat → Prop) (bs : List Nat := []) : Good (cx_slices_Contains_int_int W0 S bs) := ⟨List.forall_mem_cons.2 ⟨ok3, List.forall_mem_cons.2 ⟨ok148, (fun _ h => by cases h)⟩⟩, List.forall_mem_cons.2 ⟨by kernel_rfl, (fun _ h => by cases h)⟩, mixed⟩
/-- slices.Sort[[]int,int] -/
noncomputable def cx_slices_Sort_int_int (W0 : World) (S : Nat → Prop) (bs : List Nat := []) : Cx := ⟨Tryd.prog, W0, S, 11, [(3, ti3), (99, ti99), (148, ti148)], [139, 140], bs, none, []⟩
abbrev n_slices_Sort_int_int : FuncId := 123
theorem b_slices_Sort_int_int : Tryd.prog.funcs[n_slices_Sort_int_int]? = some Tryd.f123 := Tryd.func123
theorem good_slices_Sort_int_int (W0 : World) (S : Nat → Prop) (bs : List Nat := []) : Good (cx_slices_Sort_int_int W0 S bs) := ⟨List.forall_mem_cons.2 ⟨ok3, List.forall_mem_cons.2 ⟨ok99, List.forall_mem_cons.2 ⟨ok148, (fun _ h => by cases h)⟩⟩⟩, List.forall_mem_cons.2 ⟨by kernel_rfl, List.forall_mem_cons.2 ⟨by kernel_rfl, (fun _ h => by cases h)⟩⟩, mixed⟩
/-- cmp.isNaN[string] -/
noncomputable def cx_cmp_isNaN_string (W0 : World) (S : Nat → Prop) (bs : List Nat := []) : Cx := ⟨Tryd.prog, W0, S, 6, [(9, ti9)], [], bs, none, []⟩
abbrev n_cmp_isNaN_string : FuncId := 124
theorem b_cmp_isNaN_string : Tryd.prog.funcs[n_cmp_isNaN_string]? = some Tryd.f124 := Tryd.func124
theorem good_cmp_isNaN_string (W0 : World) (S : Nat → Prop) (bs : List Nat := []) : Good (cx_cmp_isNaN_string W0 S bs) := ⟨List.forall_mem_cons.2 ⟨ok9, (fun _ h => by cases h)⟩, (fun _ h => by cases h), mixed⟩
/-- slices.rotateLeft[string] -/
noncomputable def cx_slices_rotateLeft_string (W0 : World) (S : Nat → Prop) (bs : List Nat := []) : Cx := ⟨Tryd.prog, W0, S, 14, [(9, ti9), (45, ti45)], [141], bs, none, []⟩
abbrev n_slices_rotateLeft_string : FuncId := 125
theorem b_slices_rotateLeft_string : Tryd.prog.funcs[n_slices_rotateLeft_string]? = some Tryd.f125 := Tryd.func125
theorem good_slices_rotateLeft_string (W0 : World) (S : Nat → Prop) (bs : List Nat := []) : Good (cx_slices_rotateLeft_string W0 S bs) := ⟨List.forall_mem_cons.2 ⟨ok9, List.forall_mem_cons.2 ⟨ok45, (fun _ h => by cases h)⟩⟩, List.forall_mem_cons.2 ⟨by kernel_rfl, (fun _ h => by cases h)⟩, mixed⟩
/-- slices.Sort[[]string,string] -/
noncomputable def cx_slices_Sort_string_string (W0 : World) (S : Nat → Prop) (bs : List Nat := []) : Cx := ⟨Tryd.prog, W0, S, 11, [(3, ti3), (9, ti9), (45, ti45), (99, ti99)], [140, 142], bs, none, []⟩
abbrev n_slices_Sort_string_string : FuncId := 126
theorem b_slices_Sort_string_string : Tryd.prog.funcs[n_slices_Sort_string_string]? = some Tryd.f126 := Tryd.func126
theorem good_slices_Sort_string_string (W0 : World) (S : Nat → Prop) (bs : List Nat := []) : Good (cx_slices_Sort_string_string W0 S bs) := ⟨List.forall_mem_cons.2 ⟨ok3, List.forall_mem_cons.2 ⟨ok9, List.forall_mem_cons.2 ⟨ok45, List.forall_mem_cons.2 ⟨ok99, (fun _ h => by cases h)⟩⟩⟩⟩, List.forall_mem_cons.2 ⟨by kernel_rfl, List.forall_mem_cons.2 ⟨by kernel_rfl, (fun _ h => by cases h)⟩⟩, mixed⟩
/-- maps.Keys[map[string]map[string]*ostiary/cred.Cred,string,map[string]*ostiary/cred.Cred]$1 -/
noncomputable def cx_maps_Keys_map_string_map_string_cred_Cred_string_map_string_cred_Cred_1 (W0 : World) (S : Nat → Prop) (bs : List Nat := []) : Cx := ⟨Tryd.prog, W0, S, 14, [(9, ti9), (84, ti84), (88, ti88), (92, ti92)], [], bs, none, []⟩
abbrev n_maps_Keys_map_string_map_string_cred_Cred_string_map_string_cred_Cred_1 : FuncId := 127
theorem b_maps_Keys_map_string_map_string_cred_Cred_string_map_string_cred_Cred_1 : Tryd.prog.funcs[n_maps_Keys_map_string_map_string_cred_Cred_string_map_string_cred_Cred_1]? = some Tryd.f127 := Tryd.func127
theorem good_maps_Keys_map_string_map_string_cred_Cred_string_map_string_cred_Cred_1 (W0 : World) (S : Nat → Prop) (bs : List Nat := []) : Good (cx_maps_Keys_map_string_map_string_cred_Cred_string_map_string_cred_Cred_1 W0 S bs) := ⟨List.forall_mem_cons.2 ⟨ok9, List.forall_mem_cons.2 ⟨ok84, List.forall_mem_cons.2 ⟨ok88, List.forall_mem_cons.2 ⟨ok92, (fun _ h => by cases h)⟩⟩⟩⟩, (fun _ h => by cases h), mixed⟩
/-- maps.Keys[map[string]*ostiary/cred.Cred,string,*ostiary/cred.Cred]$1 -/
noncomputable def cx_maps_Keys_map_string_cred_Cred_string_cred_Cred_1 (W0 : World) (S : Nat → Prop) (bs : List Nat := []) : Cx := ⟨Tryd.prog, W0, S, 14, [(9, ti9), (88, ti88), (92, ti92)], [], bs, none, []⟩
abbrev n_maps_Keys_map_string_cred_Cred_string_cred_Cred_1 : FuncId := 128
theorem b_maps_Keys_map_string_cred_Cred_string_cred_Cred_1 : Tryd.prog.funcs[n_maps_Keys_map_string_cred_Cred_string_cred_Cred_1]? = some Tryd.f128 := Tryd.func128
theorem good_maps_Keys_map_string_cred_Cred_string_cred_Cred_1 (W0 : World) (S : Nat → Prop) (bs : List Nat := []) : Good (cx_maps_Keys_map_string_cred_Cred_string_cred_Cred_1 W0 S bs) := ⟨List.forall_mem_cons.2 ⟨ok9, List.forall_mem_cons.2 ⟨ok88, List.forall_mem_cons.2 ⟨ok92, (fun _ h => by cases h)⟩⟩⟩, (fun _ h => by cases h), mixed⟩
/-- ostiary/sha.long -/
noncomputable def cx_sha_long (W0 : World) (S : Nat → Prop) (bs : List Nat := []) : Cx := ⟨Tryd.prog, W0, S, 19, [(3, ti3), (5, ti5), (26, ti26), (44, ti44)], [], bs, none, []⟩
abbrev n_sha_long : FuncId := 129
theorem b_sha_long : Tryd.prog.funcs[n_sha_long]? = some Tryd.f129 := Tryd.func129
theorem good_sha_long (W0 : World) (S : Nat → Prop) (bs : List Nat := []) : Good (cx_sha_long W0 S bs) := ⟨List.forall_mem_cons.2 ⟨ok3, List.forall_mem_cons.2 ⟨ok5, List.forall_mem_cons.2 ⟨ok26, List.forall_mem_cons.2 ⟨ok44, (fun _ h => by cases h)⟩⟩⟩⟩, (fun _ h => by cases h), mixed⟩
/-- ostiary/sha.word -/
noncomputable def cx_sha_word (W0 : World) (S : Nat → Prop) (bs : List Nat := []) : Cx := ⟨Tryd.prog, W0, S, 25, [(5, ti5), (26, ti26), (53, ti53)], [], bs, none, []⟩
abbrev n_sha_word : FuncId := 130
theorem b_sha_word : Tryd.prog.funcs[n_sha_word]? = some Tryd.f130 := Tryd.func130
def p_sha_word_1 : Plan := .take 0 (.take 1 (.take 2 (.take 3 (.take 4 (.take 5 (.take 6 (.take 7 (.take 8 (.take 9 (.take 10 (.take 11 (.take 12 (.take 13 (.take 14 (.take 15 (.take 16 (.take 17 (.take 18 (.take 19 (.take 20 (.take 21 (.take 22 (.done)))))))))))))))))))))))
theorem good_sha_word (W0 : World) (S : Nat → Prop) (bs : List Nat := []) : Good (cx_sha_word W0 S bs) := ⟨List.forall_mem_cons.2 ⟨ok5, List.forall_mem_cons.2 ⟨ok26, List.forall_mem_cons.2 ⟨ok53, (fun _ h => by cases h)⟩⟩⟩, (fun _ h => by cases h), mixed⟩
/-- ostiary/ostiaryref01.turn -/
noncomputable def cx_ostiaryref01_turn (W0 : World) (S : Nat → Prop) (bs : List Nat := []) : Cx := ⟨Tryd.prog, W0, S, 13, [(53, ti53), (99, ti99)], [], bs, none, []⟩
abbrev n_ostiaryref01_turn : FuncId := 131
theorem b_ostiaryref01_turn : Tryd.prog.funcs[n_ostiaryref01_turn]? = some Tryd.f131 := Tryd.func131
theorem good_ostiaryref01_turn (W0 : World) (S : Nat → Prop) (bs : List Nat := []) : Good (cx_ostiaryref01_turn W0 S bs) := ⟨List.forall_mem_cons.2 ⟨ok53, List.forall_mem_cons.2 ⟨ok99, (fun _ h => by cases h)⟩⟩, (fun _ h => by cases h), mixed⟩
/-- ostiary/name.Valid -/
noncomputable def cx_name_Valid (W0 : World) (S : Nat → Prop) (bs : List Nat := []) : Cx := ⟨Tryd.prog, W0, S, 11, [(4, ti4), (9, ti9), (21, ti21)], [143], bs, none, []⟩
abbrev n_name_Valid : FuncId := 133
theorem b_name_Valid : Tryd.prog.funcs[n_name_Valid]? = some Tryd.f133 := Tryd.func133
theorem good_name_Valid (W0 : World) (S : Nat → Prop) (bs : List Nat := []) : Good (cx_name_Valid W0 S bs) := ⟨List.forall_mem_cons.2 ⟨ok4, List.forall_mem_cons.2 ⟨ok9, List.forall_mem_cons.2 ⟨ok21, (fun _ h => by cases h)⟩⟩⟩, List.forall_mem_cons.2 ⟨by kernel_rfl, (fun _ h => by cases h)⟩, mixed⟩
/-- ostiary/name.prepared -/
noncomputable def cx_name_prepared (W0 : World) (S : Nat → Prop) (bs : List Nat := []) : Cx := ⟨Tryd.prog, W0, S, 4, [(9, ti9)], [144], bs, none, []⟩
abbrev n_name_prepared : FuncId := 134
theorem b_name_prepared : Tryd.prog.funcs[n_name_prepared]? = some Tryd.f134 := Tryd.func134
theorem good_name_prepared (W0 : World) (S : Nat → Prop) (bs : List Nat := []) : Good (cx_name_prepared W0 S bs) := ⟨List.forall_mem_cons.2 ⟨ok9, (fun _ h => by cases h)⟩, List.forall_mem_cons.2 ⟨by kernel_rfl, (fun _ h => by cases h)⟩, mixed⟩
/-- ostiary/name.within -/
noncomputable def cx_name_within (W0 : World) (S : Nat → Prop) (bs : List Nat := []) : Cx := ⟨Tryd.prog, W0, S, 24, [(3, ti3), (21, ti21), (189, ti189), (191, ti191)], [], bs, none, []⟩
abbrev n_name_within : FuncId := 135
theorem b_name_within : Tryd.prog.funcs[n_name_within]? = some Tryd.f135 := Tryd.func135
theorem good_name_within (W0 : World) (S : Nat → Prop) (bs : List Nat := []) : Good (cx_name_within W0 S bs) := ⟨List.forall_mem_cons.2 ⟨ok3, List.forall_mem_cons.2 ⟨ok21, List.forall_mem_cons.2 ⟨ok189, List.forall_mem_cons.2 ⟨ok191, (fun _ h => by cases h)⟩⟩⟩⟩, (fun _ h => by cases h), mixed⟩
/-- ostiary/name.Append -/
noncomputable def cx_name_Append (W0 : World) (S : Nat → Prop) (bs : List Nat := []) : Cx := ⟨Tryd.prog, W0, S, 60, [(3, ti3), (5, ti5), (21, ti21), (26, ti26), (205, ti205), (206, ti206)], [90, 145], bs, none, []⟩
abbrev n_name_Append : FuncId := 136
theorem b_name_Append : Tryd.prog.funcs[n_name_Append]? = some Tryd.f136 := Tryd.func136
theorem good_name_Append (W0 : World) (S : Nat → Prop) (bs : List Nat := []) : Good (cx_name_Append W0 S bs) := ⟨List.forall_mem_cons.2 ⟨ok3, List.forall_mem_cons.2 ⟨ok5, List.forall_mem_cons.2 ⟨ok21, List.forall_mem_cons.2 ⟨ok26, List.forall_mem_cons.2 ⟨ok205, List.forall_mem_cons.2 ⟨ok206, (fun _ h => by cases h)⟩⟩⟩⟩⟩⟩, List.forall_mem_cons.2 ⟨by kernel_rfl, List.forall_mem_cons.2 ⟨by kernel_rfl, (fun _ h => by cases h)⟩⟩, mixed⟩
/-- (ostiary/box.Term).print$1 -/
noncomputable def cx_box_Term_print_1 (W0 : World) (S : Nat → Prop) (bs : List Nat := []) : Cx := ⟨Tryd.prog, W0, S, 18, [(3, ti3), (5, ti5), (26, ti26)], [], bs, none, []⟩
abbrev n_box_Term_print_1 : FuncId := 137
theorem b_box_Term_print_1 : Tryd.prog.funcs[n_box_Term_print_1]? = some Tryd.f137 := Tryd.func137
theorem good_box_Term_print_1 (W0 : World) (S : Nat → Prop) (bs : List Nat := []) : Good (cx_box_Term_print_1 W0 S bs) := ⟨List.forall_mem_cons.2 ⟨ok3, List.forall_mem_cons.2 ⟨ok5, List.forall_mem_cons.2 ⟨ok26, (fun _ h => by cases h)⟩⟩⟩, (fun _ h => by cases h), mixed⟩
/-- slices.Index[[]int,int] -/
noncomputable def cx_slices_Index_int_int (W0 : World) (S : Nat → Prop) (bs : List Nat := []) : Cx := ⟨Tryd.prog, W0, S, 19, [(3, ti3), (148, ti148)], [], bs, none, []⟩
abbrev n_slices_Index_int_int : FuncId := 138
theorem b_slices_Index_int_int : Tryd.prog.funcs[n_slices_Index_int_int]? = some Tryd.f138 := Tryd.func138
theorem good_slices_Index_int_int (W0 : World) (S : Nat → Prop) (bs : List Nat := []) : Good (cx_slices_Index_int_int W0 S bs) := ⟨List.forall_mem_cons.2 ⟨ok3, List.forall_mem_cons.2 ⟨ok148, (fun _ h => by cases h)⟩⟩, (fun _ h => by cases h), mixed⟩
/-- slices.pdqsortOrdered[int] -/
noncomputable def cx_slices_pdqsortOrdered_int (W0 : World) (S : Nat → Prop) (bs : List Nat := []) : Cx := ⟨Tryd.prog, W0, S, 134, [(3, ti3), (148, ti148), (208, ti208)], [139, 146, 147, 148, 149, 150, 151, 152, 153, 154], bs, none, []⟩
abbrev n_slices_pdqsortOrdered_int : FuncId := 139
theorem b_slices_pdqsortOrdered_int : Tryd.prog.funcs[n_slices_pdqsortOrdered_int]? = some Tryd.f139 := Tryd.func139
def p_slices_pdqsortOrdered_int_17 : Plan := .take 0 (.take 1 (.take 2 (.take 3 (.take 4 (.take 5 (.take 6 (.take 7 (.take 8 (.take 9 (.take 10 (.take 11 (.exec 12 (.take 13 (.take 14 (.done)))))))))))))))
theorem good_slices_pdqsortOrdered_int (W0 : World) (S : Nat → Prop) (bs : List Nat := []) : Good (cx_slices_pdqsortOrdered_int W0 S bs) := ⟨List.forall_mem_cons.2 ⟨ok3, List.forall_mem_cons.2 ⟨ok148, List.forall_mem_cons.2 ⟨ok208, (fun _ h => by cases h)⟩⟩⟩, List.forall_mem_cons.2 ⟨by kernel_rfl, List.forall_mem_cons.2 ⟨by kernel_rfl, List.forall_mem_cons.2 ⟨by kernel_rfl, List.forall_mem_cons.2 ⟨by kernel_rfl, List.forall_mem_cons.2 ⟨by kernel_rfl, List.forall_mem_cons.2 ⟨by kernel_rfl, List.forall_mem_cons.2 ⟨by kernel_rfl, List.forall_mem_cons.2 ⟨by kernel_rfl, List.forall_mem_cons.2 ⟨by kernel_rfl, List.forall_mem_cons.2 ⟨by kernel_rfl, (fun _ h => by cases h)⟩⟩⟩⟩⟩⟩⟩⟩⟩⟩, mixed⟩
/-- math/bits.Len -/
noncomputable def cx_math_bits_Len (W0 : World) (S : Nat → Prop) (bs : List Nat := []) : Cx := ⟨Tryd.prog, W0, S, 8, [(44, ti44), (53, ti53), (99, ti99)], [155, 156], bs, none, []⟩
abbrev n_math_bits_Len : FuncId := 140
theorem b_math_bits_Len : Tryd.prog.funcs[n_math_bits_Len]? = some Tryd.f140 := Tryd.func140
theorem good_math_bits_Len (W0 : World) (S : Nat → Prop) (bs : List Nat := []) : Good (cx_math_bits_Len W0 S bs) := ⟨List.forall_mem_cons.2 ⟨ok44, List.forall_mem_cons.2 ⟨ok53, List.forall_mem_cons.2 ⟨ok99, (fun _ h => by cases h)⟩⟩⟩, List.forall_mem_cons.2 ⟨by kernel_rfl, List.forall_mem_cons.2 ⟨by kernel_rfl, (fun _ h => by cases h)⟩⟩, mixed⟩
/-- slices.Reverse[[]string,string] -/
noncomputable def cx_slices_Reverse_string_string (W0 : World) (S : Nat → Prop) (bs : List Nat := []) : Cx := ⟨Tryd.prog, W0, S, 28, [(3, ti3), (9, ti9), (45, ti45)], [], bs, none, []⟩
abbrev n_slices_Reverse_string_string : FuncId := 141
theorem b_slices_Reverse_string_string : Tryd.prog.funcs[n_slices_Reverse_string_string]? = some Tryd.f141 := Tryd.func141
def p_slices_Reverse_string_string_3 : Plan := .take 0 (.take 1 (.take 2 (.take 3 (.take 4 (.take 5 (.take 6 (.take 8 (.take 9 (.take 10 (.alt 7 (.exec 11 (.take 12 (.exec 13 (.take 14 (.exec 15 (.done)))))) (.exec 11 (.exec 7 (.take 12 (.exec 13 (.take 14 (.exec 15 (.done)))))))))))))))))
theorem good_slices_Reverse_string_string (W0 : World) (S : Nat → Prop) (bs : List Nat := []) : Good (cx_slices_Reverse_string_string W0 S bs) := ⟨List.forall_mem_cons.2 ⟨ok3, List.forall_mem_cons.2 ⟨ok9, List.forall_mem_cons.2 ⟨ok45, (fun _ h => by cases h)⟩⟩⟩, (fun _ h => by cases h), mixed⟩
/-- slices.pdqsortOrdered[string] -/
noncomputable def cx_slices_pdqsortOrdered_string (W0 : World) (S : Nat → Prop) (bs : List Nat := []) : Cx := ⟨Tryd.prog, W0, S, 134, [(3, ti3), (9, ti9), (45, ti45), (208, ti208)], [96, 142, 157, 158, 159, 160, 161, 162, 163, 164], bs, none, []⟩
abbrev n_slices_pdqsortOrdered_string : FuncId := 142
theorem b_slices_pdqsortOrdered_string : Tryd.prog.funcs[n_slices_pdqsortOrdered_string]? = some Tryd.f142 := Tryd.func142
def p_slices_pdqsortOrdered_string_17 : Plan := .take 0 (.take 1 (.take 2 (.take 3 (.take 4 (.take 5 (.take 6 (.take 7 (.take 8 (.take 9 (.take 10 (.take 11 (.exec 12 (.take 13 (.take 14 (.done)))))))))))))))
theorem good_slices_pdqsortOrdered_string (W0 : World) (S : Nat → Prop) (bs : List Nat := []) : Good (cx_slices_pdqsortOrdered_string W0 S bs) := ⟨List.forall_mem_cons.2 ⟨ok3, List.forall_mem_cons.2 ⟨ok9, List.forall_mem_cons.2 ⟨ok45, List.forall_mem_cons.2 ⟨ok208, (fun _ h => by cases h)⟩⟩⟩⟩, List.forall_mem_cons.2 ⟨by kernel_rfl, List.forall_mem_cons.2 ⟨by kernel_rfl, List.forall_mem_cons.2 ⟨by kernel_rfl, List.forall_mem_cons.2 ⟨by kernel_rfl, List.forall_mem_cons.2 ⟨by kernel_rfl, List.forall_mem_cons.2 ⟨by kernel_rfl, List.forall_mem_cons.2 ⟨by kernel_rfl, List.forall_mem_cons.2 ⟨by kernel_rfl, List.forall_mem_cons.2 ⟨by kernel_rfl, List.forall_mem_cons.2 ⟨by kernel_rfl, (fun _ h => by cases h)⟩⟩⟩⟩⟩⟩⟩⟩⟩⟩, mixed⟩
/-- ostiary/name.Runes -/
noncomputable def cx_name_Runes (W0 : World) (S : Nat → Prop) (bs : List Nat := []) : Cx := ⟨Tryd.prog, W0, S, 4, [(9, ti9)], [165], bs, none, []⟩
abbrev n_name_Runes : FuncId := 143
theorem b_name_Runes : Tryd.prog.funcs[n_name_Runes]? = some Tryd.f143 := Tryd.func143
theorem good_name_Runes (W0 : World) (S : Nat → Prop) (bs : List Nat := []) : Good (cx_name_Runes W0 S bs) := ⟨List.forall_mem_cons.2 ⟨ok9, (fun _ h => by cases h)⟩, List.forall_mem_cons.2 ⟨by kernel_rfl, (fun _ h => by cases h)⟩, mixed⟩
/-- ostiary/name.prepared$1 -/
noncomputable def cx_name_prepared_1 (W0 : World) (S : Nat → Prop) (bs : List Nat := []) : Cx := ⟨Tryd.prog, W0, S, 21, [(9, ti9), (21, ti21), (189, ti189), (191, ti191), (201, ti201), (202, ti202), (203, ti203)], [135, 143], bs, none, []⟩
abbrev n_name_prepared_1 : FuncId := 144
theorem b_name_prepared_1 : Tryd.prog.funcs[n_name_prepared_1]? = some Tryd.f144 := Tryd.func144
theorem good_name_prepared_1 (W0 : World) (S : Nat → Prop) (bs : List Nat := []) : Good (cx_name_prepared_1 W0 S bs) := ⟨List.forall_mem_cons.2 ⟨ok9, List.forall_mem_cons.2 ⟨ok21, List.forall_mem_cons.2 ⟨ok189, List.forall_mem_cons.2 ⟨ok191, List.forall_mem_cons.2 ⟨ok201, List.forall_mem_cons.2 ⟨ok202, List.forall_mem_cons.2 ⟨ok203, (fun _ h => by cases h)⟩⟩⟩⟩⟩⟩⟩, List.forall_mem_cons.2 ⟨by kernel_rfl, List.forall_mem_cons.2 ⟨by kernel_rfl, (fun _ h => by cases h)⟩⟩, mixed⟩
/-- ostiary/name.sign -/
noncomputable def cx_name_sign (W0 : World) (S : Nat → Prop) (bs : List Nat := []) : Cx := ⟨Tryd.prog, W0, S, 17, [(21, ti21)], [], bs, none, []⟩
abbrev n_name_sign : FuncId := 145
theorem b_name_sign : Tryd.prog.funcs[n_name_sign]? = some Tryd.f145 := Tryd.func145
theorem good_name_sign (W0 : World) (S : Nat → Prop) (bs : List Nat := []) : Good (cx_name_sign W0 S bs) := ⟨List.forall_mem_cons.2 ⟨ok21, (fun _ h => by cases h)⟩, (fun _ h => by cases h), mixed⟩
/-- slices.insertionSortOrdered[int] -/
noncomputable def cx_slices_insertionSortOrdered_int (W0 : World) (S : Nat → Prop) (bs : List Nat := []) : Cx := ⟨Tryd.prog, W0, S, 49, [(3, ti3), (148, ti148)], [152], bs, none, []⟩
abbrev n_slices_insertionSortOrdered_int : FuncId := 146
theorem b_slices_insertionSortOrdered_int : Tryd.prog.funcs[n_slices_insertionSortOrdered_int]? = some Tryd.f146 := Tryd.func146
def p_slices_insertionSortOrdered_int_4 : Plan := .take 0 (.take 1 (.take 2 (.take 3 (.take 4 (.take 5 (.take 6 (.take 7 (.take 8 (.take 9 (.take 10 (.take 11 (.take 12 (.exec 13 (.take 14 (.done)))))))))))))))
def p_slices_insertionSortOrdered_int_6 : Plan := .take 0 (.take 1 (.take 2 (.take 3 (.take 4 (.take 5 (.take 6 (.take 7 (.take 8 (.take 10 (.take 11 (.take 12 (.alt 9 (.exec 13 (.take 14 (.exec 15 (.take 16 (.exec 17 (.done)))))) (.exec 13 (.exec 9 (.take 14 (.exec 15 (.take 16 (.exec 17 (.done)))))))))))))))))))
theorem good_slices_insertionSortOrdered_int (W0 : World) (S : Nat → Prop) (bs : List Nat := []) : Good (cx_slices_insertionSortOrdered_int W0 S bs) := ⟨List.forall_mem_cons.2 ⟨ok3, List.forall_mem_cons.2 ⟨ok148, (fun _ h => by cases h)⟩⟩, List.forall_mem_cons.2 ⟨by kernel_rfl, (fun _ h => by cases h)⟩, mixed⟩
/-- slices.heapSortOrdered[int] -/
noncomputable def cx_slices_heapSortOrdered_int (W0 : World) (S : Nat → Prop) (bs : List Nat := []) : Cx := ⟨Tryd.prog, W0, S, 56, [(3, ti3), (148, ti148)], [167], bs, none, []⟩
abbrev n_slices_heapSortOrdered_int : FuncId := 147
theorem b_slices_heapSortOrdered_int : Tryd.prog.funcs[n_slices_heapSortOrdered_int]? = some Tryd.f147 := Tryd.func147
def p_slices_heapSortOrdered_int_10 : Plan := .take 0 (.take 1 (.take 2 (.take 3 (.take 4 (.take 5 (.take 6 (.take 7 (.take 8 (.take 9 (.take 10 (.take 12 (.take 13 (.take 14 (.alt 11 (.exec 15 (.take 16 (.exec 17 (.take 18 (.exec 19 (.done)))))) (.exec 15 (.exec 11 (.take 16 (.exec 17 (.take 18 (.exec 19 (.done)))))))))))))))))))))
theorem good_slices_heapSortOrdered_int (W0 : World) (S : Nat → Prop) (bs : List Nat := []) : Good (cx_slices_heapSortOrdered_int W0 S bs) := ⟨List.forall_mem_cons.2 ⟨ok3, List.forall_mem_cons.2 ⟨ok148, (fun _ h => by cases h)⟩⟩, List.forall_mem_cons.2 ⟨by kernel_rfl, (fun _ h => by cases h)⟩, mixed⟩
/-- slices.breakPatternsOrdered[int] -/
noncomputable def cx_slices_breakPatternsOrdered_int (W0 : World) (S : Nat → Prop) (bs : List Nat := []) : Cx := ⟨Tryd.prog, W0, S, 65, [(3, ti3), (99, ti99), (148, ti148), (224, ti224)], [168, 169], bs, none, []⟩
abbrev n_slices_breakPatternsOrdered_int : FuncId := 148
theorem b_slices_breakPatternsOrdered_int : Tryd.prog.funcs[n_slices_breakPatternsOrdered_int]? = some Tryd.f148 := Tryd.func148
def p_slices_breakPatternsOrdered_int_10 : Plan := .take 0 (.take 1 (.take 2 (.take 3 (.take 4 (.take 5 (.take 6 (.take 7 (.take 8 (.take 9 (.take 10 (.take 12 (.take 13 (.take 14 (.alt 11 (.exec 15 (.take 16 (.exec 17 (.take 18 (.exec 19 (.done)))))) (.exec 15 (.exec 11 (.take 16 (.exec 17 (.take 18 (.exec 19 (.done)))))))))))))))))))))
theorem good_slices_breakPatternsOrdered_int (W0 : World) (S : Nat → Prop) (bs : List Nat := []) : Good (cx_slices_breakPatternsOrdered_int W0 S bs) := ⟨List.forall_mem_cons.2 ⟨ok3, List.forall_mem_cons.2 ⟨ok99, List.forall_mem_cons.2 ⟨ok148, List.forall_mem_cons.2 ⟨ok224, (fun _ h => by cases h)⟩⟩⟩⟩, List.forall_mem_cons.2 ⟨by kernel_rfl, List.forall_mem_cons.2 ⟨by kernel_rfl, (fun _ h => by cases h)⟩⟩, mixed⟩
/-- slices.choosePivotOrdered[int] -/
noncomputable def cx_slices_choosePivotOrdered_int (W0 : World) (S : Nat → Prop) (bs : List Nat := []) : Cx := ⟨Tryd.prog, W0, S, 57, [(3, ti3), (148, ti148), (227, ti227)], [170, 171], bs, none, []⟩
abbrev n_slices_choosePivotOrdered_int : FuncId := 149
theorem b_slices_choosePivotOrdered_int : Tryd.prog.funcs[n_slices_choosePivotOrdered_int]? = some Tryd.f149 := Tryd.func149
theorem good_slices_choosePivotOrdered_int (W0 : World) (S : Nat → Prop) (bs : List Nat := []) : Good (cx_slices_choosePivotOrdered_int W0 S bs) := ⟨List.forall_mem_cons.2 ⟨ok3, List.forall_mem_cons.2 ⟨ok148, List.forall_mem_cons.2 ⟨ok227, (fun _ h => by cases h)⟩⟩⟩, List.forall_mem_cons.2 ⟨by kernel_rfl, List.forall_mem_cons.2 ⟨by kernel_rfl, (fun _ h => by cases h)⟩⟩, mixed⟩
/-- slices.reverseRangeOrdered[int] -/
noncomputable def cx_slices_reverseRangeOrdered_int (W0 : World) (S : Nat → Prop) (bs : List Nat := []) : Cx := ⟨Tryd.prog, W0, S, 32, [(3, ti3), (148, ti148)], [], bs, none, []⟩
abbrev n_slices_reverseRangeOrdered_int : FuncId := 150
theorem b_slices_reverseRangeOrdered_int : Tryd.prog.funcs[n_slices_reverseRangeOrdered_int]? = some Tryd.f150 := Tryd.func150
def p_slices_reverseRangeOrdered_int_3 : Plan := .take 0 (.take 1 (.take 2 (.take 3 (.take 4 (.take 5 (.take 6 (.take 8 (.take 9 (.take 10 (.alt 7 (.exec 11 (.take 12 (.exec 13 (.take 14 (.exec 15 (.done)))))) (.exec 11 (.exec 7 (.take 12 (.exec 13 (.take 14 (.exec 15 (.done)))))))))))))))))
theorem good_slices_reverseRangeOrdered_int (W0 : World) (S : Nat → Prop) (bs : List Nat := []) : Good (cx_slices_reverseRangeOrdered_int W0 S bs) := ⟨List.forall_mem_cons.2 ⟨ok3, List.forall_mem_cons.2 ⟨ok148, (fun _ h => by cases h)⟩⟩, (fun _ h => by cases h), mixed⟩
/-- slices.partialInsertionSortOrdered[int] -/
noncomputable def cx_slices_partialInsertionSortOrdered_int (W0 : World) (S : Nat → Prop) (bs : List Nat := []) : Cx := ⟨Tryd.prog, W0, S, 133, [(3, ti3), (148, ti148)], [152], bs, none, []⟩
abbrev n_slices_partialInsertionSortOrdered_int : FuncId := 151
theorem b_slices_partialInsertionSortOrdered_int : Tryd.prog.funcs[n_slices_partialInsertionSortOrdered_int]? = some Tryd.f151 := Tryd.func151
def p_slices_partialInsertionSortOrdered_int_5 : Plan := .take 0 (.take 1 (.take 2 (.take 3 (.take 4 (.take 5 (.take 6 (.take 7 (.take 8 (.take 9 (.take 10 (.take 11 (.take 12 (.exec 13 (.take 14 (.take 15 (.done))))))))))))))))
def p_slices_partialInsertionSortOrdered_int_11 : Plan := .take 0 (.take 1 (.take 2 (.take 3 (.take 4 (.take 5 (.take 6 (.take 7 (.take 8 (.take 10 (.take 11 (.take 12 (.alt 9 (.exec 13 (.take 14 (.exec 15 (.take 16 (.exec 17 (.done)))))) (.exec 13 (.exec 9 (.take 14 (.exec 15 (.take 16 (.exec 17 (.done)))))))))))))))))))
def p_slices_partialInsertionSortOrdered_int_16 : Plan := .take 0 (.take 1 (.take 2 (.take 3 (.take 4 (.take 5 (.take 6 (.take 7 (.take 8 (.exec 9 (.take 10 (.done)))))))))))
def p_slices_partialInsertionSortOrdered_int_17 : Plan := .take 0 (.take 1 (.take 2 (.take 3 (.take 4 (.take 5 (.take 6 (.take 7 (.take 8 (.take 10 (.take 11 (.take 12 (.alt 9 (.exec 13 (.take 14 (.exec 15 (.take 16 (.exec 17 (.done)))))) (.exec 13 (.exec 9 (.take 14 (.exec 15 (.take 16 (.exec 17 (.done)))))))))))))))))))
def p_slices_partialInsertionSortOrdered_int_22 : Plan := .take 0 (.take 1 (.take 2 (.take 3 (.take 4 (.take 5 (.take 6 (.take 7 (.take 8 (.exec 9 (.take 10 (.done)))))))))))
def p_slices_partialInsertionSortOrdered_int_23 : Plan := .take 0 (.take 1 (.take 2 (.take 3 (.take 4 (.take 5 (.take 6 (.take 7 (.take 8 (.take 10 (.take 11 (.take 12 (.alt 9 (.exec 13 (.take 14 (.exec 15 (.take 16 (.exec 17 (.done)))))) (.exec 13 (.exec 9 (.take 14 (.exec 15 (.take 16 (.exec 17 (.done)))))))))))))))))))
theorem good_slices_partialInsertionSortOrdered_int (W0 : World) (S : Nat → Prop) (bs : List Nat := []) : Good (cx_slices_partialInsertionSortOrdered_int W0 S bs) := ⟨List.forall_mem_cons.2 ⟨ok3, List.forall_mem_cons.2 ⟨ok148, (fun _ h => by cases h)⟩⟩, List.forall_mem_cons.2 ⟨by kernel_rfl, (fun _ h => by cases h)⟩, mixed⟩
/-- cmp.Less[int] -/
noncomputable def cx_cmp_Less_int (W0 : World) (S : Nat → Prop) (bs : List Nat := []) : Cx := ⟨Tryd.prog, W0, S, 17, [(3, ti3)], [172], bs, none, []⟩
abbrev n_cmp_Less_int : FuncId := 152
theorem b_cmp_Less_int : Tryd.prog.funcs[n_cmp_Less_int]? = some Tryd.f152 := Tryd.func152
theorem good_cmp_Less_int (W0 : World) (S : Nat → Prop) (bs : List Nat := []) : Good (cx_cmp_Less_int W0 S bs) := ⟨List.forall_mem_cons.2 ⟨ok3, (fun _ h => by cases h)⟩, List.forall_mem_cons.2 ⟨by kernel_rfl, (fun _ h => by cases h)⟩, mixed⟩
/-- slices.partitionEqualOrdered[int] -/
noncomputable def cx_slices_partitionEqualOrdered_int (W0 : World) (S : Nat → Prop) (bs : List Nat := []) : Cx := ⟨Tryd.prog, W0, S, 84, [(3, ti3), (148, ti148)], [152], bs, none, []⟩
abbrev n_slices_partitionEqualOrdered_int : FuncId := 153
theorem b_slices_partitionEqualOrdered_int : Tryd.prog.funcs[n_slices_partitionEqualOrdered_int]? = some Tryd.f153 := Tryd.func153
def p_slices_partitionEqualOrdered_int_1 : Plan := .take 0 (.take 1 (.take 2 (.take 3 (.take 4 (.take 5 (.take 6 (.take 8 (.take 9 (.take 10 (.alt 7 (.exec 11 (.take 12 (.exec 13 (.take 14 (.exec 15 (.done)))))) (.exec 11 (.exec 7 (.take 12 (.exec 13 (.take 14 (.exec 15 (.done)))))))))))))))))
def p_slices_partitionEqualOrdered_int_3 : Plan := .take 0 (.take 1 (.take 2 (.take 3 (.take 4 (.take 5 (.take 6 (.take 7 (.take 8 (.take 9 (.take 10 (.take 11 (.exec 12 (.take 13 (.take 14 (.done)))))))))))))))
def p_slices_partitionEqualOrdered_int_5 : Plan := .take 0 (.take 1 (.take 2 (.take 3 (.take 4 (.take 5 (.take 6 (.take 7 (.take 8 (.take 9 (.take 10 (.take 11 (.exec 12 (.take 13 (.done))))))))))))))
def p_slices_partitionEqualOrdered_int_8 : Plan := .take 0 (.take 1 (.take 2 (.take 3 (.take 4 (.take 5 (.take 6 (.take 8 (.take 9 (.take 10 (.alt 7 (.exec 11 (.take 12 (.exec 13 (.take 14 (.exec 15 (.done)))))) (.exec 11 (.exec 7 (.take 12 (.exec 13 (.take 14 (.exec 15 (.done)))))))))))))))))
theorem good_slices_partitionEqualOrdered_int (W0 : World) (S : Nat → Prop) (bs : List Nat := []) : Good (cx_slices_partitionEqualOrdered_int W0 S bs) := ⟨List.forall_mem_cons.2 ⟨ok3, List.forall_mem_cons.2 ⟨ok148, (fun _ h => by cases h)⟩⟩, List.forall_mem_cons.2 ⟨by kernel_rfl, (fun _ h => by cases h)⟩, mixed⟩
/-- slices.partitionOrdered[int] -/
noncomputable def cx_slices_partitionOrdered_int (W0 : World) (S : Nat → Prop) (bs : List Nat := []) : Cx := ⟨Tryd.prog, W0, S, 168, [(3, ti3), (148, ti148)], [152], bs, none, []⟩
abbrev n_slices_partitionOrdered_int : FuncId := 154
theorem b_slices_partitionOrdered_int : Tryd.prog.funcs[n_slices_partitionOrdered_int]? = some Tryd.f154 := Tryd.func154
def p_slices_partitionOrdered_int_1 : Plan := .take 0 (.take 1 (.take 2 (.take 3 (.take 4 (.take 5 (.take 6 (.take 8 (.take 9 (.take 10 (.alt 7 (.exec 11 (.take 12 (.exec 13 (.take 14 (.exec 15 (.done)))))) (.exec 11 (.exec 7 (.take 12 (.exec 13 (.take 14 (.exec 15 (.done)))))))))))))))))
def p_slices_partitionOrdered_int_3 : Plan := .take 0 (.take 1 (.take 2 (.take 3 (.take 4 (.take 5 (.take 6 (.take 7 (.take 8 (.take 9 (.take 10 (.take 11 (.exec 12 (.take 13 (.done))))))))))))))
def p_slices_partitionOrdered_int_5 : Plan := .take 0 (.take 1 (.take 2 (.take 3 (.take 4 (.take 5 (.take 6 (.take 7 (.take 8 (.take 9 (.take 10 (.take 11 (.exec 12 (.take 13 (.take 14 (.done)))))))))))))))
def p_slices_partitionOrdered_int_8 : Plan := .take 0 (.take 1 (.take 2 (.take 3 (.take 4 (.take 5 (.take 6 (.take 8 (.take 9 (.take 10 (.alt 7 (.exec 11 (.take 12 (.exec 13 (.take 14 (.exec 15 (.done)))))) (.exec 11 (.exec 7 (.take 12 (.exec 13 (.take 14 (.exec 15 (.done)))))))))))))))))
def p_slices_partitionOrdered_int_10 : Plan := .take 0 (.take 1 (.take 2 (.take 3 (.take 4 (.take 5 (.take 6 (.take 8 (.take 9 (.take 10 (.alt 7 (.exec 11 (.take 12 (.exec 13 (.take 14 (.exec 15 (.done)))))) (.exec 11 (.exec 7 (.take 12 (.exec 13 (.take 14 (.exec 15 (.done)))))))))))))))))
def p_slices_partitionOrdered_int_13 : Plan := .take 0 (.take 1 (.take 2 (.take 3 (.take 4 (.take 5 (.take 6 (.take 7 (.take 8 (.take 9 (.take 10 (.take 11 (.exec 12 (.take 13 (.done))))))))))))))
def p_slices_partitionOrdered_int_15 : Plan := .take 0 (.take 1 (.take 2 (.take 3 (.take 4 (.take 5 (.take 6 (.take 7 (.take 8 (.take 9 (.take 10 (.take 11 (.exec 12 (.take 13 (.take 14 (.done)))))))))))))))
def p_slices_partitionOrdered_int_18 : Plan := .take 0 (.take 1 (.take 2 (.take 3 (.take 4 (.take 5 (.take 6 (.take 8 (.take 9 (.take 10 (.alt 7 (.exec 11 (.take 12 (.exec 13 (.take 14 (.exec 15 (.done)))))) (.exec 11 (.exec 7 (.take 12 (.exec 13 (.take 14 (.exec 15 (.done)))))))))))))))))
def p_slices_partitionOrdered_int_21 : Plan := .take 0 (.take 1 (.take 2 (.take 3 (.take 4 (.take 5 (.take 6 (.take 8 (.take 9 (.take 10 (.alt 7 (.exec 11 (.take 12 (.exec 13 (.take 14 (.exec 15 (.done)))))) (.exec 11 (.exec 7 (.take 12 (.exec 13 (.take 14 (.exec 15 (.done)))))))))))))))))
theorem good_slices_partitionOrdered_int (W0 : World) (S : Nat → Prop) (bs : List Nat := []) : Good (cx_slices_partitionOrdered_int W0 S bs) := ⟨List.forall_mem_cons.2 ⟨ok3, List.forall_mem_cons.2 ⟨ok148, (fun _ h => by cases h)⟩⟩, List.forall_mem_cons.2 ⟨by kernel_rfl, (fun _ h => by cases h)⟩, mixed⟩
/-- math/bits.Len32 -/
noncomputable def cx_math_bits_Len32 (W0 : World) (S : Nat → Prop) (bs : List Nat := []) : Cx := ⟨Tryd.prog, W0, S, 19, [(3, ti3), (5, ti5), (9, ti9), (53, ti53)], [], bs, none, []⟩
abbrev n_math_bits_Len32 : FuncId := 155
theorem b_math_bits_Len32 : Tryd.prog.funcs[n_math_bits_Len32]? = some Tryd.f155 := Tryd.func155
theorem good_math_bits_Len32 (W0 : World) (S : Nat → Prop) (bs : List Nat := []) : Good (cx_math_bits_Len32 W0 S bs) := ⟨List.forall_mem_cons.2 ⟨ok3, List.forall_mem_cons.2 ⟨ok5, List.forall_mem_cons.2 ⟨ok9, List.forall_mem_cons.2 ⟨ok53, (fun _ h => by cases h)⟩⟩⟩⟩, (fun _ h => by cases h), mixed⟩
/-- math/bits.Len64 -/
noncomputable def cx_math_bits_Len64 (W0 : World) (S : Nat → Prop) (bs : List Nat := []) : Cx := ⟨Tryd.prog, W0, S, 25, [(3, ti3), (5, ti5), (9, ti9), (44, ti44)], [], bs, none, []⟩
abbrev n_math_bits_Len64 : FuncId := 156
theorem b_math_bits_Len64 : Tryd.prog.funcs[n_math_bits_Len64]? = some Tryd.f156 := Tryd.func156
theorem good_math_bits_Len64 (W0 : World) (S : Nat → Prop) (bs : List Nat := []) : Good (cx_math_bits_Len64 W0 S bs) := ⟨List.forall_mem_cons.2 ⟨ok3, List.forall_mem_cons.2 ⟨ok5, List.forall_mem_cons.2 ⟨ok9, List.forall_mem_cons.2 ⟨ok44, (fun _ h => by cases h)⟩⟩⟩⟩, (fun _ h => by cases h), mixed⟩
/-- slices.insertionSortOrdered[string] -/
noncomputable def cx_slices_insertionSortOrdered_string (W0 : World) (S : Nat → Prop) (bs : List Nat := []) : Cx := ⟨Tryd.prog, W0, S, 49, [(3, ti3), (9, ti9), (45, ti45)], [96], bs, none, []⟩
abbrev n_slices_insertionSortOrdered_string : FuncId := 157
theorem b_slices_insertionSortOrdered_string : Tryd.prog.funcs[n_slices_insertionSortOrdered_string]? = some Tryd.f157 := Tryd.func157
def p_slices_insertionSortOrdered_string_4 : Plan := .take 0 (.take 1 (.take 2 (.take 3 (.take 4 (.take 5 (.take 6 (.take 7 (.take 8 (.take 9 (.take 10 (.take 11 (.take 12 (.exec 13 (.take 14 (.done)))))))))))))))
def p_slices_insertionSortOrdered_string_6 : Plan := .take 0 (.take 1 (.take 2 (.take 3 (.take 4 (.take 5 (.take 6 (.take 7 (.take 8 (.take 10 (.take 11 (.take 12 (.alt 9 (.exec 13 (.take 14 (.exec 15 (.take 16 (.exec 17 (.done)))))) (.exec 13 (.exec 9 (.take 14 (.exec 15 (.take 16 (.exec 17 (.done)))))))))))))))))))
theorem good_slices_insertionSortOrdered_string (W0 : World) (S : Nat → Prop) (bs : List Nat := []) : Good (cx_slices_insertionSortOrdered_string W0 S bs) := ⟨List.forall_mem_cons.2 ⟨ok3, List.forall_mem_cons.2 ⟨ok9, List.forall_mem_cons.2 ⟨ok45, (fun _ h => by cases h)⟩⟩⟩, List.forall_mem_cons.2 ⟨by kernel_rfl, (fun _ h => by cases h)⟩, mixed⟩
/-- slices.heapSortOrdered[string] -/
noncomputable def cx_slices_heapSortOrdered_string (W0 : World) (S : Nat → Prop) (bs : List Nat := []) : Cx := ⟨Tryd.prog, W0, S, 56, [(3, ti3), (9, ti9), (45, ti45)], [173], bs, none, []⟩
abbrev n_slices_heapSortOrdered_string : FuncId := 158
theorem b_slices_heapSortOrdered_string : Tryd.prog.funcs[n_slices_heapSortOrdered_string]? = some Tryd.f158 := Tryd.func158
def p_slices_heapSortOrdered_string_10 : Plan := .take 0 (.take 1 (.take 2 (.take 3 (.take 4 (.take 5 (.take 6 (.take 7 (.take 8 (.take 9 (.take 10 (.take 12 (.take 13 (.take 14 (.alt 11 (.exec 15 (.take 16 (.exec 17 (.take 18 (.exec 19 (.done)))))) (.exec 15 (.exec 11 (.take 16 (.exec 17 (.take 18 (.exec 19 (.done)))))))))))))))))))))
theorem good_slices_heapSortOrdered_string (W0 : World) (S : Nat → Prop) (bs : List Nat := []) : Good (cx_slices_heapSortOrdered_string W0 S bs) := ⟨List.forall_mem_cons.2 ⟨ok3, List.forall_mem_cons.2 ⟨ok9, List.forall_mem_cons.2 ⟨ok45, (fun _ h => by cases h)⟩⟩⟩, List.forall_mem_cons.2 ⟨by kernel_rfl, (fun _ h => by cases h)⟩, mixed⟩
/-- slices.breakPatternsOrdered[string] -/
noncomputable def cx_slices_breakPatternsOrdered_string (W0 : World) (S : Nat → Prop) (bs : List Nat := []) : Cx := ⟨Tryd.prog, W0, S, 65, [(3, ti3), (9, ti9), (45, ti45), (99, ti99), (224, ti224)], [168, 169], bs, none, []⟩
abbrev n_slices_breakPatternsOrdered_string : FuncId := 159
theorem b_slices_breakPatternsOrdered_string : Tryd.prog.funcs[n_slices_breakPatternsOrdered_string]? = some Tryd.f159 := Tryd.func159
def p_slices_breakPatternsOrdered_string_10 : Plan := .take 0 (.take 1 (.take 2 (.take 3 (.take 4 (.take 5 (.take 6 (.take 7 (.take 8 (.take 9 (.take 10 (.take 12 (.take 13 (.take 14 (.alt 11 (.exec 15 (.take 16 (.exec 17 (.take 18 (.exec 19 (.done)))))) (.exec 15 (.exec 11 (.take 16 (.exec 17 (.take 18 (.exec 19 (.done)))))))))))))))))))))
theorem good_slices_breakPatternsOrdered_string (W0 : World) (S : Nat → Prop) (bs : List Nat := []) : Good (cx_slices_breakPatternsOrdered_string W0 S bs) := ⟨List.forall_mem_cons.2 ⟨ok3, List.forall_mem_cons.2 ⟨ok9, List.forall_mem_cons.2 ⟨ok45, List.forall_mem_cons.2 ⟨ok99, List.forall_mem_cons.2 ⟨ok224, (fun _ h => by cases h)⟩⟩⟩⟩⟩, List.forall_mem_cons.2 ⟨by kernel_rfl, List.forall_mem_cons.2 ⟨by kernel_rfl, (fun _ h => by cases h)⟩⟩, mixed⟩
/-- slices.choosePivotOrdered[string] -/
noncomputable def cx_slices_choosePivotOrdered_string (W0 : World) (S : Nat → Prop) (bs : List Nat := []) : Cx := ⟨Tryd.prog, W0, S, 57, [(3, ti3), (9, ti9), (45, ti45), (227, ti227)], [174, 175], bs, none, []⟩
abbrev n_slices_choosePivotOrdered_string : FuncId := 160
theorem b_slices_choosePivotOrdered_string : Tryd.prog.funcs[n_slices_choosePivotOrdered_string]? = some Tryd.f160 := Tryd.func160
theorem good_slices_choosePivotOrdered_string (W0 : World) (S : Nat → Prop) (bs : List Nat := []) : Good (cx_slices_choosePivotOrdered_string W0 S bs) := ⟨List.forall_mem_cons.2 ⟨ok3, List.forall_mem_cons.2 ⟨ok9, List.forall_mem_cons.2 ⟨ok45, List.forall_mem_cons.2 ⟨ok227, (fun _ h => by cases h)⟩⟩⟩⟩, List.forall_mem_cons.2 ⟨by kernel_rfl, List.forall_mem_cons.2 ⟨by kernel_rfl, (fun _ h => by cases h)⟩⟩, mixed⟩
/-- slices.reverseRangeOrdered[string] -/
noncomputable def cx_slices_reverseRangeOrdered_string (W0 : World) (S : Nat → Prop) (bs : List Nat := []) : Cx := ⟨Tryd.prog, W0, S, 32, [(3, ti3), (9, ti9), (45, ti45)], [], bs, none, []⟩
abbrev n_slices_reverseRangeOrdered_string : FuncId := 161
theorem b_slices_reverseRangeOrdered_string : Tryd.prog.funcs[n_slices_reverseRangeOrdered_string]? = some Tryd.f161 := Tryd.func161
def p_slices_reverseRangeOrdered_string_3 : Plan := .take 0 (.take 1 (.take 2 (.take 3 (.take 4 (.take 5 (.take 6 (.take 8 (.take 9 (.take 10 (.alt 7 (.exec 11 (.take 12 (.exec 13 (.take 14 (.exec 15 (.done)))))) (.exec 11 (.exec 7 (.take 12 (.exec 13 (.take 14 (.exec 15 (.done)))))))))))))))))
theorem good_slices_reverseRangeOrdered_string (W0 : World) (S : Nat → Prop) (bs : List Nat := []) : Good (cx_slices_reverseRangeOrdered_string W0 S bs) := ⟨List.forall_mem_cons.2 ⟨ok3, List.forall_mem_cons.2 ⟨ok9, List.forall_mem_cons.2 ⟨ok45, (fun _ h => by cases h)⟩⟩⟩, (fun _ h => by cases h), mixed⟩
/-- slices.partialInsertionSortOrdered[string] -/
noncomputable def cx_slices_partialInsertionSortOrdered_string (W0 : World) (S : Nat → Prop) (bs : List Nat := []) : Cx := ⟨Tryd.prog, W0, S, 133, [(3, ti3), (9, ti9), (45, ti45)], [96], bs, none, []⟩
abbrev n_slices_partialInsertionSortOrdered_string : FuncId := 162
theorem b_slices_partialInsertionSortOrdered_string : Tryd.prog.funcs[n_slices_partialInsertionSortOrdered_string]? = some Tryd.f162 := Tryd.func162
def p_slices_partialInsertionSortOrdered_string_5 : Plan := .take 0 (.take 1 (.take 2 (.take 3 (.take 4 (.take 5 (.take 6 (.take 7 (.take 8 (.take 9 (.take 10 (.take 11 (.take 12 (.exec 13 (.take 14 (.take 15 (.done))))))))))))))))
def p_slices_partialInsertionSortOrdered_string_11 : Plan := .take 0 (.take 1 (.take 2 (.take 3 (.take 4 (.take 5 (.take 6 (.take 7 (.take 8 (.take 10 (.take 11 (.take 12 (.alt 9 (.exec 13 (.take 14 (.exec 15 (.take 16 (.exec 17 (.done)))))) (.exec 13 (.exec 9 (.take 14 (.exec 15 (.take 16 (.exec 17 (.done)))))))))))))))))))
def p_slices_partialInsertionSortOrdered_string_16 : Plan := .take 0 (.take 1 (.take 2 (.take 3 (.take 4 (.take 5 (.take 6 (.take 7 (.take 8 (.exec 9 (.take 10 (.done)))))))))))
def p_slices_partialInsertionSortOrdered_string_17 : Plan := .take 0 (.take 1 (.take 2 (.take 3 (.take 4 (.take 5 (.take 6 (.take 7 (.take 8 (.take 10 (.take 11 (.take 12 (.alt 9 (.exec 13 (.take 14 (.exec 15 (.take 16 (.exec 17 (.done)))))) (.exec 13 (.exec 9 (.take 14 (.exec 15 (.take 16 (.exec 17 (.done)))))))))))))))))))
def p_slices_partialInsertionSortOrdered_string_22 : Plan := .take 0 (.take 1 (.take 2 (.take 3 (.take 4 (.take 5 (.take 6 (.take 7 (.take 8 (.exec 9 (.take 10 (.done)))))))))))
def p_slices_partialInsertionSortOrdered_string_23 : Plan := .take 0 (.take 1 (.take 2 (.take 3 (.take 4 (.take 5 (.take 6 (.take 7 (.take 8 (.take 10 (.take 11 (.take 12 (.alt 9 (.exec 13 (.take 14 (.exec 15 (.take 16 (.exec 17 (.done)))))) (.exec 13 (.exec 9 (.take 14 (.exec 15 (.take 16 (.exec 17 (.done)))))))))))))))))))
theorem good_slices_partialInsertionSortOrdered_string (W0 : World) (S : Nat → Prop) (bs : List Nat := []) : Good (cx_slices_partialInsertionSortOrdered_string W0 S bs) := ⟨List.forall_mem_cons.2 ⟨ok3, List.forall_mem_cons.2 ⟨ok9, List.forall_mem_cons.2 ⟨ok45, (fun _ h => by cases h)⟩⟩⟩, List.forall_mem_cons.2 ⟨by kernel_rfl, (fun _ h => by cases h)⟩, mixed⟩
/-- slices.partitionEqualOrdered[string] -/
noncomputable def cx_slices_partitionEqualOrdered_string (W0 : World) (S : Nat → Prop) (bs : List Nat := []) : Cx := ⟨Tryd.prog, W0, S, 84, [(3, ti3), (9, ti9), (45, ti45)], [96], bs, none, []⟩
abbrev n_slices_partitionEqualOrdered_string : FuncId := 163
theorem b_slices_partitionEqualOrdered_string : Tryd.prog.funcs[n_slices_partitionEqualOrdered_string]? = some Tryd.f163 := Tryd.func163
def p_slices_partitionEqualOrdered_string_1 : Plan := .take 0 (.take 1 (.take 2 (.take 3 (.take 4 (.take 5 (.take 6 (.take 8 (.take 9 (.take 10 (.alt 7 (.exec 11 (.take 12 (.exec 13 (.take 14 (.exec 15 (.done)))))) (.exec 11 (.exec 7 (.take 12 (.exec 13 (.take 14 (.exec 15 (.done)))))))))))))))))
def p_slices_partitionEqualOrdered_string_3 : Plan := .take 0 (.take 1 (.take 2 (.take 3 (.take 4 (.take 5 (.take 6 (.take 7 (.take 8 (.take 9 (.take 10 (.take 11 (.exec 12 (.take 13 (.take 14 (.done)))))))))))))))
def p_slices_partitionEqualOrdered_string_5 : Plan := .take 0 (.take 1 (.take 2 (.take 3 (.take 4 (.take 5 (.take 6 (.take 7 (.take 8 (.take 9 (.take 10 (.take 11 (.exec 12 (.take 13 (.done))))))))))))))
def p_slices_partitionEqualOrdered_string_8 : Plan := .take 0 (.take 1 (.take 2 (.take 3 (.take 4 (.take 5 (.take 6 (.take 8 (.take 9 (.take 10 (.alt 7 (.exec 11 (.take 12 (.exec 13 (.take 14 (.exec 15 (.done)))))) (.exec 11 (.exec 7 (.take 12 (.exec 13 (.take 14 (.exec 15 (.done)))))))))))))))))
theorem good_slices_partitionEqualOrdered_string (W0 : World) (S : Nat → Prop) (bs : List Nat := []) : Good (cx_slices_partitionEqualOrdered_string W0 S bs) := ⟨List.forall_mem_cons.2 ⟨ok3, List.forall_mem_cons.2 ⟨ok9, List.forall_mem_cons.2 ⟨ok45, (fun _ h => by cases h)⟩⟩⟩, List.forall_mem_cons.2 ⟨by kernel_rfl, (fun _ h => by cases h)⟩, mixed⟩
/-- slices.partitionOrdered[string] -/
noncomputable def cx_slices_partitionOrdered_string (W0 : World) (S : Nat → Prop) (bs : List Nat := []) : Cx := ⟨Tryd.prog, W0, S, 168, [(3, ti3), (9, ti9), (45, ti45)], [96], bs, none, []⟩
abbrev n_slices_partitionOrdered_string : FuncId := 164
theorem b_slices_partitionOrdered_string : Tryd.prog.funcs[n_slices_partitionOrdered_string]? = some Tryd.f164 := Tryd.func164
def p_slices_partitionOrdered_string_1 : Plan := .take 0 (.take 1 (.take 2 (.take 3 (.take 4 (.take 5 (.take 6 (.take 8 (.take 9 (.take 10 (.alt 7 (.exec 11 (.take 12 (.exec 13 (.take 14 (.exec 15 (.done)))))) (.exec 11 (.exec 7 (.take 12 (.exec 13 (.take 14 (.exec 15 (.done)))))))))))))))))
def p_slices_partitionOrdered_string_3 : Plan := .take 0 (.take 1 (.take 2 (.take 3 (.take 4 (.take 5 (.take 6 (.take 7 (.take 8 (.take 9 (.take 10 (.take 11 (.exec 12 (.take 13 (.done))))))))))))))
def p_slices_partitionOrdered_string_5 : Plan := .take 0 (.take 1 (.take 2 (.take 3 (.take 4 (.take 5 (.take 6 (.take 7 (.take 8 (.take 9 (.take 10 (.take 11 (.exec 12 (.take 13 (.take 14 (.done)))))))))))))))
def p_slices_partitionOrdered_string_8 : Plan := .take 0 (.take 1 (.take 2 (.take 3 (.take 4 (.take 5 (.take 6 (.take 8 (.take 9 (.take 10 (.alt 7 (.exec 11 (.take 12 (.exec 13 (.take 14 (.exec 15 (.done)))))) (.exec 11 (.exec 7 (.take 12 (.exec 13 (.take 14 (.exec 15 (.done)))))))))))))))))
def p_slices_partitionOrdered_string_10 : Plan := .take 0 (.take 1 (.take 2 (.take 3 (.take 4 (.take 5 (.take 6 (.take 8 (.take 9 (.take 10 (.alt 7 (.exec 11 (.take 12 (.exec 13 (.take 14 (.exec 15 (.done)))))) (.exec 11 (.exec 7 (.take 12 (.exec 13 (.take 14 (.exec 15 (.done)))))))))))))))))
def p_slices_partitionOrdered_string_13 : Plan := .take 0 (.take 1 (.take 2 (.take 3 (.take 4 (.take 5 (.take 6 (.take 7 (.take 8 (.take 9 (.take 10 (.take 11 (.exec 12 (.take 13 (.done))))))))))))))
def p_slices_partitionOrdered_string_15 : Plan := .take 0 (.take 1 (.take 2 (.take 3 (.take 4 (.take 5 (.take 6 (.take 7 (.take 8 (.take 9 (.take 10 (.take 11 (.exec 12 (.take 13 (.take 14 (.done)))))))))))))))
def p_slices_partitionOrdered_string_18 : Plan := .take 0 (.take 1 (.take 2 (.take 3 (.take 4 (.take 5 (.take 6 (.take 8 (.take 9 (.take 10 (.alt 7 (.exec 11 (.take 12 (.exec 13 (.take 14 (.exec 15 (.done)))))) (.exec 11 (.exec 7 (.take 12 (.exec 13 (.take 14 (.exec 15 (.done)))))))))))))))))
def p_slices_partitionOrdered_string_21 : Plan := .take 0 (.take 1 (.take 2 (.take 3 (.take 4 (.take 5 (.take 6 (.take 8 (.take 9 (.take 10 (.alt 7 (.exec 11 (.take 12 (.exec 13 (.take 14 (.exec 15 (.done)))))) (.exec 11 (.exec 7 (.take 12 (.exec 13 (.take 14 (.exec 15 (.done)))))))))))))))))
theorem good_slices_partitionOrdered_string (W0 : World) (S : Nat → Prop) (bs : List Nat := []) : Good (cx_slices_partitionOrdered_string W0 S bs) := ⟨List.forall_mem_cons.2 ⟨ok3, List.forall_mem_cons.2 ⟨ok9, List.forall_mem_cons.2 ⟨ok45, (fun _ h => by cases h)⟩⟩⟩, List.forall_mem_cons.2 ⟨by kernel_rfl, (fun _ h => by cases h)⟩, mixed⟩
/-- ostiary/name.Runes$1 -/
noncomputable def cx_name_Runes_1 (W0 : World) (S : Nat → Prop) (bs : List Nat := []) : Cx := ⟨Tryd.prog, W0, S, 25, [(3, ti3), (9, ti9), (21, ti21)], [166], bs, none, []⟩
abbrev n_name_Runes_1 : FuncId := 165
theorem b_name_Runes_1 : Tryd.prog.funcs[n_name_Runes_1]? = some Tryd.f165 := Tryd.func165
theorem good_name_Runes_1 (W0 : World) (S : Nat → Prop) (bs : List Nat := []) : Good (cx_name_Runes_1 W0 S bs) := ⟨List.forall_mem_cons.2 ⟨ok3, List.forall_mem_cons.2 ⟨ok9, List.forall_mem_cons.2 ⟨ok21, (fun _ h => by cases h)⟩⟩⟩, List.forall_mem_cons.2 ⟨by kernel_rfl, (fun _ h => by cases h)⟩, mixed⟩
/-- ostiary/name.decode -/
noncomputable def cx_name_decode (W0 : World) (S : Nat → Prop) (bs : List Nat := []) : Cx := ⟨Tryd.prog, W0, S, 64, [(3, ti3), (5, ti5), (9, ti9), (21, ti21), (205, ti205), (206, ti206)], [145], bs, none, []⟩
abbrev n_name_decode : FuncId := 166
theorem b_name_decode : Tryd.prog.funcs[n_name_decode]? = some Tryd.f166 := Tryd.func166
def p_name_decode_4 : Plan := .take 0 (.take 1 (.take 2 (.take 3 (.take 4 (.take 5 (.take 6 (.take 7 (.take 8 (.take 9 (.take 10 (.take 11 (.take 12 (.take 13 (.take 14 (.done)))))))))))))))
def p_name_decode_5 : Plan := .take 0 (.take 1 (.take 2 (.take 3 (.take 4 (.take 5 (.take 6 (.done)))))))
def p_name_decode_12 : Plan := .take 0 (.take 1 (.take 2 (.take 3 (.take 4 (.done)))))
theorem good_name_decode (W0 : World) (S : Nat → Prop) (bs : List Nat := []) : Good (cx_name_decode W0 S bs) := ⟨List.forall_mem_cons.2 ⟨ok3, List.forall_mem_cons.2 ⟨ok5, List.forall_mem_cons.2 ⟨ok9, List.forall_mem_cons.2 ⟨ok21, List.forall_mem_cons.2 ⟨ok205, List.forall_mem_cons.2 ⟨ok206, (fun _ h => by cases h)⟩⟩⟩⟩⟩⟩, List.forall_mem_cons.2 ⟨by kernel_rfl, (fun _ h => by cases h)⟩, mixed⟩
/-- slices.siftDownOrdered[int] -/
noncomputable def cx_slices_siftDownOrdered_int (W0 : World) (S : Nat → Prop) (bs : List Nat := []) : Cx := ⟨Tryd.prog, W0, S, 76, [(3, ti3), (148, ti148)], [152], bs, none, []⟩
abbrev n_slices_siftDownOrdered_int : FuncId := 167
theorem b_slices_siftDownOrdered_int : Tryd.prog.funcs[n_slices_siftDownOrdered_int]? = some Tryd.f167 := Tryd.func167
def p_slices_siftDownOrdered_int_3 : Plan := .take 0 (.take 1 (.take 2 (.take 3 (.take 4 (.take 5 (.take 6 (.take 7 (.take 8 (.take 9 (.take 10 (.take 11 (.take 12 (.take 13 (.take 14 (.take 15 (.take 16 (.take 17 (.exec 18 (.take 19 (.done))))))))))))))))))))
def p_slices_siftDownOrdered_int_5 : Plan := .take 0 (.take 1 (.take 2 (.take 3 (.take 4 (.take 5 (.take 6 (.take 7 (.take 8 (.take 9 (.take 10 (.take 11 (.exec 12 (.take 13 (.done))))))))))))))
def p_slices_siftDownOrdered_int_6 : Plan := .take 0 (.take 1 (.take 2 (.take 3 (.take 4 (.take 5 (.take 6 (.take 7 (.take 8 (.take 9 (.take 10 (.take 11 (.take 12 (.take 14 (.take 15 (.take 16 (.take 17 (.take 18 (.alt 13 (.exec 19 (.take 20 (.exec 21 (.take 22 (.exec 23 (.done)))))) (.exec 19 (.exec 13 (.take 20 (.exec 21 (.take 22 (.exec 23 (.done)))))))))))))))))))))))))
theorem good_slices_siftDownOrdered_int (W0 : World) (S : Nat → Prop) (bs : List Nat := []) : Good (cx_slices_siftDownOrdered_int W0 S bs) := ⟨List.forall_mem_cons.2 ⟨ok3, List.forall_mem_cons.2 ⟨ok148, (fun _ h => by cases h)⟩⟩, List.forall_mem_cons.2 ⟨by kernel_rfl, (fun _ h => by cases h)⟩, mixed⟩
/-- slices.nextPowerOfTwo -/
noncomputable def cx_slices_nextPowerOfTwo (W0 : World) (S : Nat → Prop) (bs : List Nat := []) : Cx := ⟨Tryd.prog, W0, S, 7, [(3, ti3), (99, ti99)], [140], bs, none, []⟩
abbrev n_slices_nextPowerOfTwo : FuncId := 168
theorem b_slices_nextPowerOfTwo : Tryd.prog.funcs[n_slices_nextPowerOfTwo]? = some Tryd.f168 := Tryd.func168
theorem good_slices_nextPowerOfTwo (W0 : World) (S : Nat → Prop) (bs : List Nat := []) : Good (cx_slices_nextPowerOfTwo W0 S bs) := ⟨List.forall_mem_cons.2 ⟨ok3, List.forall_mem_cons.2 ⟨ok99, (fun _ h => by cases h)⟩⟩, List.forall_mem_cons.2 ⟨by kernel_rfl, (fun _ h => by cases h)⟩, mixed⟩
/-- (*slices.xorshift).Next -/
noncomputable def cx_slices_xorshift_Next (W0 : World) (S : Nat → Prop) (bs : List Nat := []) : Cx := ⟨Tryd.prog, W0, S, 33, [(224, ti224)], [], bs, none, []⟩
abbrev n_slices_xorshift_Next : FuncId := 169
theorem b_slices_xorshift_Next : Tryd.prog.funcs[n_slices_xorshift_Next]? = some Tryd.f169 := Tryd.func169
def p_slices_xorshift_Next_1 : Plan := .take 0 (.take 1 (.take 2 (.take 3 (.take 4 (.take 5 (.take 6 (.take 7 (.take 8 (.brk 9 (.done))))))))))
def p_slices_xorshift_Next_2 : Plan := .take 0 (.take 1 (.take 2 (.take 3 (.take 4 (.take 5 (.take 6 (.take 7 (.take 8 (.brk 9 (.done))))))))))
def p_slices_xorshift_Next_3 : Plan := .take 0 (.take 1 (.take 2 (.take 3 (.take 4 (.take 5 (.take 6 (.take 7 (.take 8 (.brk 9 (.done))))))))))
theorem good_slices_xorshift_Next (W0 : World) (S : Nat → Prop) (bs : List Nat := []) : Good (cx_slices_xorshift_Next W0 S bs) := ⟨List.forall_mem_cons.2 ⟨ok224, (fun _ h => by cases h)⟩, (fun _ h => by cases h), mixed⟩
/-- slices.medianAdjacentOrdered[int] -/
noncomputable def cx_slices_medianAdjacentOrdered_int (W0 : World) (S : Nat → Prop) (bs : List Nat := []) : Cx := ⟨Tryd.prog, W0, S, 15, [(3, ti3), (148, ti148), (227, ti227)], [171], bs, none, []⟩
abbrev n_slices_medianAdjacentOrdered_int : FuncId := 170
theorem b_slices_medianAdjacentOrdered_int : Tryd.prog.funcs[n_slices_medianAdjacentOrdered_int]? = some Tryd.f170 := Tryd.func170
theorem good_slices_medianAdjacentOrdered_int (W0 : World) (S : Nat → Prop) (bs : List Nat := []) : Good (cx_slices_medianAdjacentOrdered_int W0 S bs) := ⟨List.forall_mem_cons.2 ⟨ok3, List.forall_mem_cons.2 ⟨ok148, List.forall_mem_cons.2 ⟨ok227, (fun _ h => by cases h)⟩⟩⟩, List.forall_mem_cons.2 ⟨by kernel_rfl, (fun _ h => by cases h)⟩, mixed⟩
/-- slices.medianOrdered[int] -/
noncomputable def cx_slices_medianOrdered_int (W0 : World) (S : Nat → Prop) (bs : List Nat := []) : Cx := ⟨Tryd.prog, W0, S, 36, [(3, ti3), (148, ti148), (227, ti227)], [176], bs, none, []⟩
abbrev n_slices_medianOrdered_int : FuncId := 171
theorem b_slices_medianOrdered_int : Tryd.prog.funcs[n_slices_medianOrdered_int]? = some Tryd.f171 := Tryd.func171
theorem good_slices_medianOrdered_int (W0 : World) (S : Nat → Prop) (bs : List Nat := []) : Good (cx_slices_medianOrdered_int W0 S bs) := ⟨List.forall_mem_cons.2 ⟨ok3, List.forall_mem_cons.2 ⟨ok148, List.forall_mem_cons.2 ⟨ok227, (fun _ h => by cases h)⟩⟩⟩, List.forall_mem_cons.2 ⟨by kernel_rfl, (fun _ h => by cases h)⟩, mixed⟩
/-- cmp.isNaN[int] -/
noncomputable def cx_cmp_isNaN_int (W0 : World) (S : Nat → Prop) (bs : List Nat := []) : Cx := ⟨Tryd.prog, W0, S, 6, [(3, ti3)], [], bs, none, []⟩
abbrev n_cmp_isNaN_int : FuncId := 172
theorem b_cmp_isNaN_int : Tryd.prog.funcs[n_cmp_isNaN_int]? = some Tryd.f172 := Tryd.func172
theorem good_cmp_isNaN_int (W0 : World) (S : Nat → Prop) (bs : List Nat := []) : Good (cx_cmp_isNaN_int W0 S bs) := ⟨List.forall_mem_cons.2 ⟨ok3, (fun _ h => by cases h)⟩, (fun _ h => by cases h), mixed⟩
/-- slices.siftDownOrdered[string] -/
noncomputable def cx_slices_siftDownOrdered_string (W0 : World) (S : Nat → Prop) (bs : List Nat := []) : Cx := ⟨Tryd.prog, W0, S, 76, [(3, ti3), (9, ti9), (45, ti45)], [96], bs, none, []⟩
abbrev n_slices_siftDownOrdered_string : FuncId := 173
theorem b_slices_siftDownOrdered_string : Tryd.prog.funcs[n_slices_siftDownOrdered_string]? = some Tryd.f173 := Tryd.func173
def p_slices_siftDownOrdered_string_3 : Plan := .take 0 (.take 1 (.take 2 (.take 3 (.take 4 (.take 5 (.take 6 (.take 7 (.take 8 (.take 9 (.take 10 (.take 11 (.take 12 (.take 13 (.take 14 (.take 15 (.take 16 (.take 17 (.exec 18 (.take 19 (.done))))))))))))))))))))
def p_slices_siftDownOrdered_string_5 : Plan := .take 0 (.take 1 (.take 2 (.take 3 (.take 4 (.take 5 (.take 6 (.take 7 (.take 8 (.take 9 (.take 10 (.take 11 (.exec 12 (.take 13 (.done))))))))))))))
def p_slices_siftDownOrdered_string_6 : Plan := .take 0 (.take 1 (.take 2 (.take 3 (.take 4 (.take 5 (.take 6 (.take 7 (.take 8 (.take 9 (.take 10 (.take 11 (.take 12 (.take 14 (.take 15 (.take 16 (.take 17 (.take 18 (.alt 13 (.exec 19 (.take 20 (.exec 21 (.take 22 (.exec 23 (.done)))))) (.exec 19 (.exec 13 (.take 20 (.exec 21 (.take 22 (.exec 23 (.done)))))))))))))))))))))))))
theorem good_slices_siftDownOrdered_string (W0 : World) (S : Nat → Prop) (bs : List Nat := []) : Good (cx_slices_siftDownOrdered_string W0 S bs) := ⟨List.forall_mem_cons.2 ⟨ok3, List.forall_mem_cons.2 ⟨ok9, List.forall_mem_cons.2 ⟨ok45, (fun _ h => by cases h)⟩⟩⟩, List.forall_mem_cons.2 ⟨by kernel_rfl, (fun _ h => by cases h)⟩, mixed⟩
/-- slices.medianAdjacentOrdered[string] -/
noncomputable def cx_slices_medianAdjacentOrdered_string (W0 : World) (S : Nat → Prop) (bs : List Nat := []) : Cx := ⟨Tryd.prog, W0, S, 15, [(3, ti3), (9, ti9), (45, ti45), (227, ti227)], [175], bs, none, []⟩
abbrev n_slices_medianAdjacentOrdered_string : FuncId := 174
theorem b_slices_medianAdjacentOrdered_string : Tryd.prog.funcs[n_slices_medianAdjacentOrdered_string]? = some Tryd.f174 := Tryd.func174
theorem good_slices_medianAdjacentOrdered_string (W0 : World) (S : Nat → Prop) (bs : List Nat := []) : Good (cx_slices_medianAdjacentOrdered_string W0 S bs) := ⟨List.forall_mem_cons.2 ⟨ok3, List.forall_mem_cons.2 ⟨ok9, List.forall_mem_cons.2 ⟨ok45, List.forall_mem_cons.2 ⟨ok227, (fun _ h => by cases h)⟩⟩⟩⟩, List.forall_mem_cons.2 ⟨by kernel_rfl, (fun _ h => by cases h)⟩, mixed⟩
/-- slices.medianOrdered[string] -/
noncomputable def cx_slices_medianOrdered_string (W0 : World) (S : Nat → Prop) (bs : List Nat := []) : Cx := ⟨Tryd.prog, W0, S, 36, [(3, ti3), (9, ti9), (45, ti45), (227, ti227)], [177], bs, none, []⟩
abbrev n_slices_medianOrdered_string : FuncId := 175
theorem b_slices_medianOrdered_string : Tryd.prog.funcs[n_slices_medianOrdered_string]? = some Tryd.f175 := Tryd.func175
theorem good_slices_medianOrdered_string (W0 : World) (S : Nat → Prop) (bs : List Nat := []) : Good (cx_slices_medianOrdered_string W0 S bs) := ⟨List.forall_mem_cons.2 ⟨ok3, List.forall_mem_cons.2 ⟨ok9, List.forall_mem_cons.2 ⟨ok45, List.forall_mem_cons.2 ⟨ok227, (fun _ h => by cases h)⟩⟩⟩⟩, List.forall_mem_cons.2 ⟨by kernel_rfl, (fun _ h => by cases h)⟩, mixed⟩
/-- slices.order2Ordered[int] -/
noncomputable def cx_slices_order2Ordered_int (W0 : World) (S : Nat → Prop) (bs : List Nat := []) : Cx := ⟨Tryd.prog, W0, S, 28, [(3, ti3), (148, ti148)], [152], bs, none, []⟩
abbrev n_slices_order2Ordered_int : FuncId := 176
theorem b_slices_order2Ordered_int : Tryd.prog.funcs[n_slices_order2Ordered_int]? = some Tryd.f176 := Tryd.func176
def p_slices_order2Ordered_int_1 : Plan := .take 0 (.take 1 (.take 2 (.take 3 (.take 4 (.take 5 (.take 6 (.take 7 (.exec 8 (.done)))))))))
theorem good_slices_order2Ordered_int (W0 : World) (S : Nat → Prop) (bs : List Nat := []) : Good (cx_slices_order2Ordered_int W0 S bs) := ⟨List.forall_mem_cons.2 ⟨ok3, List.forall_mem_cons.2 ⟨ok148, (fun _ h => by cases h)⟩⟩, List.forall_mem_cons.2 ⟨by kernel_rfl, (fun _ h => by cases h)⟩, mixed⟩
/-- slices.order2Ordered[string] -/
noncomputable def cx_slices_order2Ordered_string (W0 : World) (S : Nat → Prop) (bs : List Nat := []) : Cx := ⟨Tryd.prog, W0, S, 28, [(3, ti3), (9, ti9), (45, ti45)], [96], bs, none, []⟩
abbrev n_slices_order2Ordered_string : FuncId := 177
theorem b_slices_order2Ordered_string : Tryd.prog.funcs[n_slices_order2Ordered_string]? = some Tryd.f177 := Tryd.func177
def p_slices_order2Ordered_string_1 : Plan := .take 0 (.take 1 (.take 2 (.take 3 (.take 4 (.take 5 (.take 6 (.take 7 (.exec 8 (.done)))))))))
theorem good_slices_order2Ordered_string (W0 : World) (S : Nat → Prop) (bs : List Nat := []) : Good (cx_slices_order2Ordered_string W0 S bs) := ⟨List.forall_mem_cons.2 ⟨ok3, List.forall_mem_cons.2 ⟨ok9, List.forall_mem_cons.2 ⟨ok45, (fun _ h => by cases h)⟩⟩⟩, List.forall_mem_cons.2 ⟨by kernel_rfl, (fun _ h => by cases h)⟩, mixed⟩
end Go.Proofs.YthkjfepbmnabkaaDoor.Sx

/- The references' small words on bytes. -/
namespace Go.Proofs.YthkjfepbmnabkaaDoor.Sx
open Go
attribute [local irreducible] Calls

theorem copy_c (w : World) (A : Option Addr) (l : List UInt8) (c : Nat) (hr : Bs w A l) (hn : l.length ≤ lim) :
    Calls Tryd.prog n_ostiaryref01_Copy #[.slice A l.length c] w fun e w' => ∃ v, e = .returned v ∧ ∃ A' c', v = .slice A' l.length c' ∧ Chg None_ w w' ∧ NewRow w w' A' l c' ty_uint8 := by
  refine calls_of_sx (cx := cx_ostiaryref01_Copy w None_) (good_ostiaryref01_Copy w None_) b_ostiaryref01_Copy rfl rfl (β := Va.z) [.c (.v (.slice A l.length c))] 0 [] [bsF A l] rfl rfl ((Sat.start rfl).rd (fun _ h => by cases h) hr) ?_
  intro b
  refine ⟨0, 0, l.length, [], l.map byte, _, rfl, fun β w hs => hs.get 1 rfl, bytes_one l, Nat.zero_add _, rfl, by rw [maxLen_eq]; rw [lim_eq] at hn; omega, by show l.length * 1 ≤ _; rw [lim_eq] at hn; omega, ?_⟩
  intro A' c' h1 h2 h3 β w' hs
  exact ⟨A', c', rfl, hs.chg, hs.newRow rfl 0 rfl h1 h2⟩

theorem cut_c (w : World) (A : Option Addr) (l : List UInt8) (c k : Nat) (hr : Bs w A l) (hc : l.length ≤ c) (hn : k ≤ lim) :
    Calls Tryd.prog n_ostiaryref01_Cut #[.slice A l.length c, .int .i64 k] w fun e w' => ∃ v, e = .returned v ∧ ∃ A' c', v = .slice A' (l.take k).length c' ∧ Chg None_ w w' ∧ NewRow w w' A' (l.take k) c' ty_uint8 := by
  have hk : (l.take k).length = min l.length k := by simp; omega
  refine calls_of_sx (cx := cx_ostiaryref01_Cut w None_) (good_ostiaryref01_Cut w None_) b_ostiaryref01_Cut rfl rfl (β := Va.z) [.c (.v (.slice A l.length c)), .c (.v (.int .i64 k))] 0 [] [bsF A l] rfl rfl ((Sat.start rfl).rd (fun _ h => by cases h) hr) ?_
  intro b
  refine ⟨_, mn _ _, ?_⟩
  refine ⟨c, min l.length k, 0, (l.take k).length, c, _, rfl, rfl, rfl, Nat.le_refl _, by omega, Nat.zero_le _, by omega, rfl, rfl, ?_⟩
  refine ⟨0, 0, (l.take k).length, [], (l.take k).map byte, _, rfl, fun β w hs => ?_, bytes_one _, Nat.zero_add _, rfl, by rw [maxLen_eq]; rw [lim_eq] at hn; omega, by show (l.take k).length * 1 ≤ _; rw [lim_eq] at hn; omega, ?_⟩
  · have h1 := Bs.cut (hs.get 1 rfl : Bs w A l) (c := c) (m := c) (i := 0) (j := (l.take k).length) hc (.inl rfl) (Nat.zero_le _) (by omega) (Nat.le_refl _)
    rw [Nat.sub_zero, List.drop_zero] at h1
    rw [show l.take (l.take k).length = l.take k by rw [hk]; simp [List.take_eq_take_iff, Nat.min_comm]] at h1
    exact h1
  intro A' c' h1 h2 h3 β w' hs
  exact ⟨A', c', rfl, hs.chg, hs.newRow rfl 0 rfl h1 h2⟩

theorem same_c (w : World) (A B : Option Addr) (l m : List UInt8) (c d : Nat) (hl : Bs w A l) (hm : Bs w B m) :
    Calls Tryd.prog n_ostiaryref01_Same #[.slice A l.length c, .slice B m.length d] w fun e w' => ∃ v, e = .returned v ∧ v = .bool (decide (l = m)) ∧ Chg None_ w w' := by
  refine calls_of_sx (cx := cx_ostiaryref01_Same w None_) (good_ostiaryref01_Same w None_) b_ostiaryref01_Same rfl rfl (β := Va.z) [.c (.v (.slice A l.length c)), .c (.v (.slice B m.length d))] 0 [] [bsF B m, bsF A l] rfl rfl (((Sat.start rfl).rd (fun _ h => by cases h) hl).rd (fun g h => by obtain rfl := List.mem_singleton.1 h; rfl) hm) ?_
  refine ⟨l, fun β w hs => hs.get 1 rfl, ?_⟩
  refine ⟨m, fun β w hs => hs.get 0 rfl, ?_⟩
  intro β w' hs
  refine ⟨?_, hs.chg⟩
  show Value.bool (decide ((⟨l.toArray⟩ : ByteArray) = ⟨m.toArray⟩)) = _
  congr 1
  simp

def kindB (k : UInt8) : Bool := decide (1 ≤ k.toNat ∧ k.toNat ≤ 15)
/-- Bytes as a number, the highest first. -/
def numB (l : List UInt8) : Nat := l.foldl (fun a x => (a * 256 + x.toNat) % 18446744073709551616) 0
theorem numB_snoc (l : List UInt8) (x : UInt8) : numB (l ++ [x]) = (numB l * 256 + x.toNat) % 18446744073709551616 := by simp [numB]
theorem take_snoc (l : List UInt8) (k : Nat) (h : k < l.length) : l.take (k + 1) = l.take k ++ [l[k]] := by rw [List.take_succ_eq_append_getElem h]
theorem wrap_u64 (x : Int) : IntKind.u64.wrap x = x % 18446744073709551616 := by simp [IntKind.wrap, IntKind.bits, IntKind.signed]

theorem num_c (w : World) (A : Option Addr) (l : List UInt8) (c : Nat) (hr : Bs w A l) (hn : l.length ≤ lim) :
    Calls Tryd.prog n_ostiaryref01_Num #[.slice A l.length c] w fun e w' => ∃ v, e = .returned v ∧ v = .int .u64 (numB l) ∧ Chg None_ w w' := by
  rw [lim_eq] at hn
  have g := good_ostiaryref01_Num w None_
  refine calls_of_sx (cx := cx_ostiaryref01_Num w None_) g b_ostiaryref01_Num rfl rfl (β := Va.z) [.c (.v (.slice A l.length c))] 0 [] [bsF A l] rfl rfl ((Sat.start rfl).rd (fun _ h => by cases h) hr) ?_
  refine loop_rule 0 (fun k : Nat => [(6, .c (.v (.slice A l.length c))), (7, .c (.v (.int .i64 l.length))), (8, .c (.v (.int .i64 k))), (3, .c (.v (.int .u64 (numB (l.take k)))))]) (fun _ => []) (fun _ => [bsF A l])
    (fun k => k ≤ l.length) (fun k => l.length - k) 0 (Nat.zero_le _) (Ent.same ⟨rfl, rfl, rfl, rfl, trivial⟩ rfl) g ?_
  intro k hk
  refine BIf.dec (fun hlt => ?_) (fun hge => ?_)
  · have hlt : k < l.length := by omega
    obtain ⟨ad, hA⟩ := Bs.addr hr (by omega)
    refine ⟨ad, k, hA, rfl, hlt, byte l[k], fun β w hs => Bs.cell (hs.get 0 rfl) hA hlt, ?_⟩
    refine ⟨_, wrap_u64 _, ?_⟩
    refine ⟨((l[k].toNat : Nat) : Int), by rw [wrap_u64]; have := l[k].toNat_lt; omega, ?_⟩
    refine ⟨(numB (l.take (k + 1)) : Int), by rw [wrap_u64, take_snoc l k hlt, numB_snoc]; omega, ?_⟩
    refine ⟨((k + 1 : Nat) : Int), by rw [wrap_i64 (by omega) (by omega)]; rfl, ?_⟩
    exact ⟨k + 1, hlt, by omega, Ent.same ⟨rfl, rfl, rfl, rfl, trivial⟩ rfl⟩
  · intro β w' hs
    refine ⟨?_, hs.chg⟩
    show Value.int .u64 (numB (l.take k)) = _
    rw [List.take_of_length_le (by omega)]
end Go.Proofs.YthkjfepbmnabkaaDoor.Sx

/- The references' bytes of a number. -/
namespace Go.Proofs.YthkjfepbmnabkaaDoor.Sx
open Go
attribute [local irreducible] Calls

/-- A number's bytes, the highest first. -/
def be : Nat → Nat → List UInt8
  | 0, _ => []
  | k + 1, n => be k (n / 256) ++ [UInt8.ofNat (n % 256)]
theorem be_length : ∀ k n, (be k n).length = k
  | 0, _ => rfl
  | k + 1, n => by simp [be, be_length k]
theorem ofNat_toNat (n : Nat) (h : n < 256) : (UInt8.ofNat n).toNat = n := by simp; omega
theorem byte_ofNat (n : Nat) (h : n < 256) : byte (UInt8.ofNat n) = .int .u8 (n : Int) := by simp only [byte, ofNat_toNat n h]
theorem wrap_u8 (x : Int) : IntKind.u8.wrap x = x % 256 := by simp [IntKind.wrap, IntKind.bits, IntKind.signed]

theorem NewRow.none (w w' : World) (e : Nat) : NewRow w w' none [] 0 e :=
  ⟨Nat.le_refl _, Nat.zero_le _, World.ownsRow_nil w' 0 e 1, fun k hk => by cases hk⟩
theorem NewRow.from {w w1 w' : World} {A : Option Addr} {l : List UInt8} {c e : Nat} (h : NewRow w1 w' A l c e) (hs : w.heap.size ≤ w1.heap.size) : NewRow w w' A l c e :=
  ⟨h.1, h.2.1, h.2.2.1, fun k hk => Nat.le_trans hs (h.2.2.2 k hk)⟩

theorem bytes_c (w : World) (n k : Nat) (hn : n < 18446744073709551616) (hk : k ≤ 4096) :
    Calls Tryd.prog n_ostiaryref01_Bytes #[.int .u64 n, .int .i64 k] w fun e w' => ∃ v, e = .returned v ∧ ∃ A' c', v = .slice A' (be k n).length c' ∧ Chg None_ w w' ∧ NewRow w w' A' (be k n) c' ty_uint8 := by
  have g := good_ostiaryref01_Bytes w None_
  refine calls_of_sx (cx := cx_ostiaryref01_Bytes w None_) g b_ostiaryref01_Bytes rfl rfl (β := Va.z) [.c (.v (.int .u64 n)), .c (.v (.int .i64 k))] 0 [] [] rfl rfl (Sat.start rfl) ?_
  refine ⟨k, k, rfl, rfl, Nat.le_refl _, by show 1 * k ≤ _; omega, by rw [maxLen_eq]; omega, ?_⟩
  intro b
  refine ⟨_, wrap_i64 (by omega) (by omega), ?_⟩
  refine loop_rule (ι := Nat × Nat × List UInt8) 0 (fun i => [(0, .c (.v (.int .u64 i.2.1))), (5, .c (.v (.slice (some ⟨b, 0, none⟩) k k))), (6, .c (.v (.int .i64 ((i.1 : Int) - 1))))]) (fun _ => [])
    (fun i => [rowF ty_uint8 1 (.slice (some ⟨b, 0, none⟩) k k) k (List.replicate i.1 (.int .u8 0) ++ i.2.2.map byte)])
    (fun i => i.2.1 < 18446744073709551616 ∧ i.1 ≤ k ∧ i.1 + i.2.2.length = k ∧ be i.1 i.2.1 ++ i.2.2 = be k n) (fun i => i.1) (k, n, []) ⟨hn, Nat.le_refl _, by simp, by simp⟩ (Ent.mk' ⟨rfl, rfl, rfl, trivial⟩ rfl ?_) g ?_
  · intro β w' hs
    have e : repl ti5.zero k = List.replicate k (.int .u8 0) ++ List.map byte [] := by
      have : ∀ k, repl [Value.int .u8 0] k = List.replicate k (.int .u8 0) := fun k => by
        induction k with
        | zero => rfl
        | succ k ih => simp [repl, ih, List.replicate_succ]
      simp only [List.map_nil, List.append_nil]
      exact this k
    rw [← e]
    exact hs
  rintro ⟨i, m, suf⟩ ⟨hm, hik, hlen, hbe⟩
  simp only at hm hik hlen hbe
  refine BIf.dec (fun h0 => ?_) (fun h0 => ?_)
  · obtain ⟨j, rfl⟩ : ∃ j, i = j + 1 := ⟨i - 1, by omega⟩
    refine ⟨by omega, ((m % 256 : Nat) : Int), by dsimp only; rw [Int.tmod_eq_emod_of_nonneg (by omega)]; omega, ?_⟩
    refine ⟨((m % 256 : Nat) : Int), by rw [wrap_u8]; omega, ?_⟩
    refine ⟨⟨b, 0, none⟩, j, rfl, by omega, by omega, ?_⟩
    refine ⟨_, fun β w' hs => Sat.rowSet hs (j := 0) (us := [.int .u8 ((m % 256 : Nat) : Int)]) rfl (by show j * 1 + 1 ≤ k * 1; omega) (fun u hu => by obtain rfl := List.mem_singleton.1 hu; rfl), ?_⟩
    refine ⟨by omega, ((m / 256 : Nat) : Int), by dsimp only; rw [wrap_u64, Int.tdiv_eq_ediv_of_nonneg (by omega)]; omega, ?_⟩
    refine ⟨((j : Int) - 1), by rw [wrap_i64 (by omega) (by omega)]; omega, ?_⟩
    refine ⟨(j, m / 256, UInt8.ofNat (m % 256) :: suf), ⟨by show m / 256 < _; omega, by show j ≤ k; omega, by show j + (suf.length + 1) = k; omega, by
      show be j (m / 256) ++ (UInt8.ofNat (m % 256) :: suf) = _
      rw [← hbe]; simp [be]⟩, by show j < j + 1; omega, Ent.mk' ⟨rfl, rfl, rfl, trivial⟩ rfl ?_⟩
    intro β w' hs
    have e : putAll (List.replicate (j + 1) (Value.int .u8 0) ++ suf.map byte) (j * 1) [.int .u8 ((m % 256 : Nat) : Int)] = List.replicate j (.int .u8 0) ++ (UInt8.ofNat (m % 256) :: suf).map byte := by
      rw [putAll, putAll, putAt_eq, Nat.mul_one, List.replicate_succ', List.append_assoc, List.set_append_right _ _ (by simp)]
      simp [byte_ofNat _ (Nat.mod_lt m (by omega : 0 < 256))]
    rw [← e]
    exact hs
  · intro β w' hs
    have hi : i = 0 := by omega
    subst hi
    simp only [be, List.nil_append] at hbe
    refine ⟨some ⟨b, 0, none⟩, k, by rw [be_length]; rfl, hs.chg, hs.newRow rfl 0 ?_ (by rw [be_length]; omega) (by rw [maxLen_eq]; omega)⟩
    rw [← hbe] at *
    show some (rowF _ 1 (.slice _ k k) k _) = some (rowF _ 1 (.slice _ suf.length k) suf.length _)
    rw [show suf.length = k by omega]
    rfl
end Go.Proofs.YthkjfepbmnabkaaDoor.Sx

/-
  DERIVED: THE SHELF's CONTRACTS AT THIS DUMP, IN PLAIN WORDS (tools/lay-plain.mjs out of 'TrydShelf.lean', which tools/lay-shelf.mjs wrote): THE SAME DECLARATIONS UNDER THE SAME NAMES: 'import', 'namespace', 'open', 'def', 'theorem' AND NOTHING ELSE: no command of the shelf's: FOR A HAND-IN. Each laying: the table of numbers ('.._ren') and one theorem, a field a fact of the dump's own or the kernel's comparison; each contract: ONE APPLICATION.
-/
namespace Go.Proofs
open Go.Shelf
def Tryd.lays169_ren : Go.Shelf.Ren := ⟨fun | 169 => 87 | n => n, fun | 70 => 137 | 9 => 9 | 0 => 0 | 72 => 139 | 37 => 26 | 127 => 174 | 3 => 3 | 5 => 5 | n => n, fun | n => n⟩
theorem Tryd.lays169 : Go.Proofs.Lays.n169 Tryd.prog Tryd.lays169_ren := {
  mixed := by kernel_rfl
  f169 := Tryd.func87.trans (congrArg some (by kernel_rfl))
  t0 := Tryd.underlying0
  a0 := Tryd.isAgg0
  z0 := Tryd.sizeOf0
  v0 := Tryd.zeroValue0
  t3 := Tryd.underlying3
  a3 := Tryd.isAgg3
  z3 := Tryd.sizeOf3
  v3 := Tryd.zeroValue3
  t9 := Tryd.underlying9
  a9 := Tryd.isAgg9
  z9 := Tryd.sizeOf9
  v9 := Tryd.zeroValue9
  t37 := Tryd.underlying26
  a37 := Tryd.isAgg26
  z37 := Tryd.sizeOf26
  v37 := Tryd.zeroValue26
  t70 := Tryd.underlying137
  a70 := Tryd.isAgg137
  z70 := Tryd.sizeOf137
  v70 := Tryd.zeroValue137
  t72 := Tryd.underlying139
  a72 := Tryd.isAgg139
  z72 := Tryd.sizeOf139
  v72 := Tryd.zeroValue139
  t127 := Tryd.underlying174
  a127 := Tryd.isAgg174
  z127 := Tryd.sizeOf174
  v127 := Tryd.zeroValue174 }
theorem Tryd.Builder_Extra_169 : Builder.Extra Tryd.prog Tryd.lays169_ren := {
  sizeBuilder := by kernel_rfl
  liesBuilder := by kernel_rfl
  t5 := Tryd.underlying5
  a5 := Tryd.isAgg5
  z5 := Tryd.sizeOf5
  v5 := Tryd.zeroValue5
  infoByte := by kernel_rfl
  cellsByte := by kernel_rfl
  sizeByte := by kernel_rfl
  neB5 := by decide }
open Go.RowKit in
/-- (*strings.Builder).String: "String returns the accumulated string.": OF A BUILDER THAT HOLDS AT LEAST ONE BYTE. ✋ THE MODEL FREEZES THOSE BYTES IN THE BUFFER (unsafe.String): a later write INTO them ends the model's run without an answer; a later append BEHIND them goes on. The statement's order of evaluation is drawn: one draw. (LAID: no walk: one application.) -/
theorem Tryd.Builder_String (B b : Nat) (l : List UInt8) (w : World) (h : Lib.IsBuilder 139 5 B b (Lib.byteCells l) w) (h0 : l ≠ []) :
    Calls Tryd.prog 87 #[.pointer (some ⟨b, 0, none⟩)] w fun e w' => e = .returned (.string ⟨l.toArray⟩) ∧ Below B w w' := Any.Builder_String Tryd.lays169 Tryd.Builder_Extra_169 B b l w h h0
open Go.RowKit in
/-- (*strings.Builder).String OF A BUILDER THAT HOLDS NO BYTE: the empty string. (Its buffer is nil, or a row of which it has taken nothing yet; where that row has NO capacity the model lays one new block for unsafe.SliceData's 'some address'.) One draw. (LAID: no walk: one application.) -/
theorem Tryd.Builder_String_empty (B b : Nat) (w : World) (h : Lib.IsBuilder 139 5 B b [] w) (hBw : B ≤ w.heap.size) :
    Calls Tryd.prog 87 #[.pointer (some ⟨b, 0, none⟩)] w fun e w' => e = .returned (.string ⟨#[]⟩) ∧ Below B w w' := Any.Builder_String_empty Tryd.lays169 Tryd.Builder_Extra_169 B b w h hBw
open Go.RowKit in
/-- (*strings.Builder).String: "String returns the accumulated string.": WHATEVER THE BUILDER HOLDS. (LAID: no walk: one application.) -/
theorem Tryd.Builder_String_any (B b : Nat) (l : List UInt8) (w : World) (h : Lib.IsBuilder 139 5 B b (Lib.byteCells l) w) (hBw : B ≤ w.heap.size) :
    Calls Tryd.prog 87 #[.pointer (some ⟨b, 0, none⟩)] w fun e w' => e = .returned (.string ⟨l.toArray⟩) ∧ Below B w w' := Any.Builder_String_any Tryd.lays169 Tryd.Builder_Extra_169 B b l w h hBw
def Tryd.lays241_ren : Go.Shelf.Ren := ⟨fun | 241 => 116 | 277 => 111 | n => n, fun | 70 => 137 | 3 => 3 | 0 => 0 | 72 => 139 | 37 => 26 | 5 => 5 | n => n, fun | n => n⟩
theorem Tryd.lays241 : Go.Proofs.Lays.n241 Tryd.prog Tryd.lays241_ren := {
  mixed := by kernel_rfl
  f241 := Tryd.func116.trans (congrArg some (by kernel_rfl))
  f277 := Tryd.func111.trans (congrArg some (by kernel_rfl))
  t0 := Tryd.underlying0
  a0 := Tryd.isAgg0
  z0 := Tryd.sizeOf0
  v0 := Tryd.zeroValue0
  t3 := Tryd.underlying3
  a3 := Tryd.isAgg3
  z3 := Tryd.sizeOf3
  v3 := Tryd.zeroValue3
  t37 := Tryd.underlying26
  a37 := Tryd.isAgg26
  z37 := Tryd.sizeOf26
  v37 := Tryd.zeroValue26
  t70 := Tryd.underlying137
  a70 := Tryd.isAgg137
  z70 := Tryd.sizeOf137
  v70 := Tryd.zeroValue137
  t72 := Tryd.underlying139
  a72 := Tryd.isAgg139
  z72 := Tryd.sizeOf139
  v72 := Tryd.zeroValue139 }
theorem Tryd.Builder_Extra_241 : Builder.Extra Tryd.prog Tryd.lays241_ren := {
  sizeBuilder := by kernel_rfl
  liesBuilder := by kernel_rfl
  t5 := Tryd.underlying5
  a5 := Tryd.isAgg5
  z5 := Tryd.sizeOf5
  v5 := Tryd.zeroValue5
  infoByte := by kernel_rfl
  cellsByte := by kernel_rfl
  sizeByte := by kernel_rfl
  neB5 := by decide }
open Go.RowKit in
/-- (*strings.Builder).grow (no doc but "grow copies the buffer to a new, larger buffer so that there are at least n bytes of capacity beyond len(b.buf)."): AT A BUILDER WITHOUT A BUFFER: a new row of whatever bytes for its buffer, none of them its own yet. Three draws. (LAID: no walk: one application.) -/
theorem Tryd.Builder_grow_fresh (B b n : Nat) (w : World) (hB : B ≤ b) (hbk : w.heap[b]? = some (.cells #[.pointer (some ⟨b, 0, none⟩), .slice none 0 0] 139 (0, 0))) (hBw : B ≤ w.heap.size) (hn : n ≤ 281474976710656) :
    Calls Tryd.prog 116 #[.pointer (some ⟨b, 0, none⟩), .int .i64 n] w fun e w' => e = .returned (.tuple #[]) ∧ (Lib.BuilderAt 139 5 B b (.pointer (some ⟨b, 0, none⟩)) [] w' ∧ Below B w w') := Any.Builder_grow_fresh Tryd.lays241 Tryd.Builder_Extra_241 B b n w hB hbk hBw hn
def Tryd.lays165_ren : Go.Shelf.Ren := ⟨fun | 165 => 85 | 240 => 115 | 241 => 116 | 276 => 132 | 277 => 111 | n => n, fun | 70 => 137 | 3 => 3 | 0 => 0 | 4 => 4 | 9 => 9 | 20 => 20 | 72 => 139 | 37 => 26 | 164 => 183 | 5 => 5 | n => n, fun | n => n⟩
theorem Tryd.lays165 : Go.Proofs.Lays.n165 Tryd.prog Tryd.lays165_ren := {
  mixed := by kernel_rfl
  f165 := Tryd.func85.trans (congrArg some (by kernel_rfl))
  f240 := Tryd.func115.trans (congrArg some (by kernel_rfl))
  f241 := Tryd.func116.trans (congrArg some (by kernel_rfl))
  f276 := Tryd.func132.trans (congrArg some (by kernel_rfl))
  f277 := Tryd.func111.trans (congrArg some (by kernel_rfl))
  t0 := Tryd.underlying0
  a0 := Tryd.isAgg0
  z0 := Tryd.sizeOf0
  v0 := Tryd.zeroValue0
  t3 := Tryd.underlying3
  a3 := Tryd.isAgg3
  z3 := Tryd.sizeOf3
  v3 := Tryd.zeroValue3
  t4 := Tryd.underlying4
  a4 := Tryd.isAgg4
  z4 := Tryd.sizeOf4
  v4 := Tryd.zeroValue4
  t9 := Tryd.underlying9
  a9 := Tryd.isAgg9
  z9 := Tryd.sizeOf9
  v9 := Tryd.zeroValue9
  t20 := Tryd.underlying20
  a20 := Tryd.isAgg20
  z20 := Tryd.sizeOf20
  v20 := Tryd.zeroValue20
  t37 := Tryd.underlying26
  a37 := Tryd.isAgg26
  z37 := Tryd.sizeOf26
  v37 := Tryd.zeroValue26
  t70 := Tryd.underlying137
  a70 := Tryd.isAgg137
  z70 := Tryd.sizeOf137
  v70 := Tryd.zeroValue137
  t72 := Tryd.underlying139
  a72 := Tryd.isAgg139
  z72 := Tryd.sizeOf139
  v72 := Tryd.zeroValue139
  t164 := Tryd.underlying183
  a164 := Tryd.isAgg183
  z164 := Tryd.sizeOf183
  v164 := Tryd.zeroValue183 }
theorem Tryd.Builder_Extra_165 : Builder.Extra Tryd.prog Tryd.lays165_ren := {
  sizeBuilder := by kernel_rfl
  liesBuilder := by kernel_rfl
  t5 := Tryd.underlying5
  a5 := Tryd.isAgg5
  z5 := Tryd.sizeOf5
  v5 := Tryd.zeroValue5
  infoByte := by kernel_rfl
  cellsByte := by kernel_rfl
  sizeByte := by kernel_rfl
  neB5 := by decide }
open Go.RowKit in
/-- (*strings.Builder).Grow AT A BUILDER THAT HAS NOT BEEN WRITTEN ('var b strings.Builder; b.Grow(n)'): "Grow grows b's capacity, if necessary, to guarantee space for another n bytes.": it holds no byte behind it as before it. (LAID: no walk: one application.) -/
theorem Tryd.Builder_Grow_fresh (B b n : Nat) (w : World) (hB : B ≤ b) (hbk : w.heap[b]? = some (.cells #[.pointer none, .slice none 0 0] 139 (0, 0))) (hBw : B ≤ w.heap.size) (hn : n ≤ 281474976710656) :
    Calls Tryd.prog 85 #[.pointer (some ⟨b, 0, none⟩), .int .i64 n] w fun e w' => e = .returned (.tuple #[]) ∧ (Lib.BuilderAt 139 5 B b (.pointer (some ⟨b, 0, none⟩)) [] w' ∧ Below B w w') := Any.Builder_Grow_fresh Tryd.lays165 Tryd.Builder_Extra_165 B b n w hB hbk hBw hn
def Tryd.lays156_ren : Go.Shelf.Ren := ⟨fun | 156 => 46 | 165 => 85 | 166 => 86 | 169 => 87 | 240 => 115 | 241 => 116 | 276 => 132 | 277 => 111 | n => n, fun | 31 => 45 | 9 => 9 | 3 => 3 | 4 => 4 | 0 => 0 | 20 => 20 | 72 => 139 | 76 => 143 | 70 => 137 | 37 => 26 | 75 => 142 | 127 => 174 | 164 => 183 | 5 => 5 | 80 => 145 | n => n, fun | n => n⟩
theorem Tryd.lays156 : Go.Proofs.Lays.n156 Tryd.prog Tryd.lays156_ren := {
  mixed := by kernel_rfl
  f156 := Tryd.func46.trans (congrArg some (by kernel_rfl))
  f165 := Tryd.func85.trans (congrArg some (by kernel_rfl))
  f166 := Tryd.func86.trans (congrArg some (by kernel_rfl))
  f169 := Tryd.func87.trans (congrArg some (by kernel_rfl))
  f240 := Tryd.func115.trans (congrArg some (by kernel_rfl))
  f241 := Tryd.func116.trans (congrArg some (by kernel_rfl))
  f276 := Tryd.func132.trans (congrArg some (by kernel_rfl))
  f277 := Tryd.func111.trans (congrArg some (by kernel_rfl))
  t0 := Tryd.underlying0
  a0 := Tryd.isAgg0
  z0 := Tryd.sizeOf0
  v0 := Tryd.zeroValue0
  t3 := Tryd.underlying3
  a3 := Tryd.isAgg3
  z3 := Tryd.sizeOf3
  v3 := Tryd.zeroValue3
  t4 := Tryd.underlying4
  a4 := Tryd.isAgg4
  z4 := Tryd.sizeOf4
  v4 := Tryd.zeroValue4
  t9 := Tryd.underlying9
  a9 := Tryd.isAgg9
  z9 := Tryd.sizeOf9
  v9 := Tryd.zeroValue9
  t20 := Tryd.underlying20
  a20 := Tryd.isAgg20
  z20 := Tryd.sizeOf20
  v20 := Tryd.zeroValue20
  t31 := Tryd.underlying45
  a31 := Tryd.isAgg45
  z31 := Tryd.sizeOf45
  v31 := Tryd.zeroValue45
  t37 := Tryd.underlying26
  a37 := Tryd.isAgg26
  z37 := Tryd.sizeOf26
  v37 := Tryd.zeroValue26
  t70 := Tryd.underlying137
  a70 := Tryd.isAgg137
  z70 := Tryd.sizeOf137
  v70 := Tryd.zeroValue137
  t72 := Tryd.underlying139
  a72 := Tryd.isAgg139
  z72 := Tryd.sizeOf139
  v72 := Tryd.zeroValue139
  t75 := Tryd.underlying142
  a75 := Tryd.isAgg142
  z75 := Tryd.sizeOf142
  v75 := Tryd.zeroValue142
  t76 := Tryd.underlying143
  a76 := Tryd.isAgg143
  z76 := Tryd.sizeOf143
  v76 := Tryd.zeroValue143
  t127 := Tryd.underlying174
  a127 := Tryd.isAgg174
  z127 := Tryd.sizeOf174
  v127 := Tryd.zeroValue174
  t164 := Tryd.underlying183
  a164 := Tryd.isAgg183
  z164 := Tryd.sizeOf183
  v164 := Tryd.zeroValue183 }
theorem Tryd.Builder_Extra_156 : Builder.Extra Tryd.prog Tryd.lays156_ren := {
  sizeBuilder := by kernel_rfl
  liesBuilder := by kernel_rfl
  t5 := Tryd.underlying5
  a5 := Tryd.isAgg5
  z5 := Tryd.sizeOf5
  v5 := Tryd.zeroValue5
  infoByte := by kernel_rfl
  cellsByte := by kernel_rfl
  sizeByte := by kernel_rfl
  neB5 := by decide }
open Go.RowKit in
/-- No element: the empty string; the world is as it was. (Whatever the slice's address and capacity: a nil slice too.) (LAID: no walk: one application.) -/
theorem Tryd.strings_Join_none (a : Option Addr) (c : Nat) (sep : ByteArray) (w : World) :
    Calls Tryd.prog 46 #[.slice a 0 c, .string sep] w fun e w' => e = .returned (.string ⟨#[]⟩) ∧ w' = w := Any.strings_Join_none Tryd.lays156 Tryd.Builder_Extra_156 a c sep w
open Go.RowKit in
/-- strings.Join: "Join concatenates the elements of its first argument to create a single string. The separator string sep is placed between elements in the resulting string.": HOWEVER MANY ELEMENTS. Below the heap's end the world is as it was. (LAID: no walk: one application.) -/
theorem Tryd.strings_Join (bk o c : Nat) (xs : List ByteArray) (sep : ByteArray) (w : World) (hcells : ∀ (j : Nat) x, xs[j]? = some x → w.cell? ⟨bk, o + j, none⟩ = some (.string x)) (hbk : bk < w.heap.size) (hN : xs.length ≤ 140737488355328) (hcap : xs.length ≤ c) (hlen : (Lib.join (xs.map (·.data.toList)) sep.data.toList).length ≤ 140737488355328) :
    Calls Tryd.prog 46 #[.slice (some ⟨bk, o, none⟩) xs.length c, .string sep] w fun e w' => e = .returned (.string ⟨(Lib.join (xs.map (·.data.toList)) sep.data.toList).toArray⟩) ∧ Below w.heap.size w w' := Any.strings_Join Tryd.lays156 Tryd.Builder_Extra_156 bk o c xs sep w hcells hbk hN hcap hlen
def Tryd.lays215_ren : Go.Shelf.Ren := ⟨fun | 215 => 172 | n => n, fun | 3 => 3 | 4 => 4 | n => n, fun | n => n⟩
theorem Tryd.lays215 : Go.Proofs.Lays.n215 Tryd.prog Tryd.lays215_ren := {
  mixed := by kernel_rfl
  f215 := Tryd.func172.trans (congrArg some (by kernel_rfl))
  t3 := Tryd.underlying3
  a3 := Tryd.isAgg3
  z3 := Tryd.sizeOf3
  v3 := Tryd.zeroValue3
  t4 := Tryd.underlying4
  a4 := Tryd.isAgg4
  z4 := Tryd.sizeOf4
  v4 := Tryd.zeroValue4 }
open Go.RowKit in
/-- cmp.isNaN at int: 'x != x': false. (LAID: no walk: one application.) -/
theorem Tryd.cmp_isNaN_int (x : Int) (w : World) :
    Calls Tryd.prog 172 #[.int .i64 x] w fun e w' => e = .returned (.bool false) ∧ w' = w := Any.cmp_isNaN_int Tryd.lays215 x w
def Tryd.lays189_ren : Go.Shelf.Ren := ⟨fun | 189 => 123 | 125 => 140 | 257 => 139 | 128 => 155 | 129 => 156 | 294 => 146 | 295 => 147 | 296 => 148 | 297 => 149 | 298 => 150 | 299 => 151 | 216 => 152 | 300 => 153 | 301 => 154 | 328 => 167 | 329 => 168 | 330 => 169 | 331 => 170 | 332 => 171 | 215 => 172 | 343 => 176 | n => n, fun | 28 => 148 | 3 => 3 | 46 => 99 | 0 => 0 | 51 => 53 | 53 => 44 | 4 => 4 | 183 => 209 | 182 => 208 | 131 => 55 | 5 => 5 | 9 => 9 | 218 => 224 | 222 => 227 | 228 => 232 | 229 => 233 | n => n, fun | n => n⟩
theorem Tryd.lays189 : Go.Proofs.Lays.n189 Tryd.prog Tryd.lays189_ren := {
  mixed := by kernel_rfl
  f125 := Tryd.func140.trans (congrArg some (by kernel_rfl))
  f128 := Tryd.func155.trans (congrArg some (by kernel_rfl))
  f129 := Tryd.func156.trans (congrArg some (by kernel_rfl))
  f189 := Tryd.func123.trans (congrArg some (by kernel_rfl))
  f215 := Tryd.func172.trans (congrArg some (by kernel_rfl))
  f216 := Tryd.func152.trans (congrArg some (by kernel_rfl))
  f257 := Tryd.func139.trans (congrArg some (by kernel_rfl))
  f294 := Tryd.func146.trans (congrArg some (by kernel_rfl))
  f295 := Tryd.func147.trans (congrArg some (by kernel_rfl))
  f296 := Tryd.func148.trans (congrArg some (by kernel_rfl))
  f297 := Tryd.func149.trans (congrArg some (by kernel_rfl))
  f298 := Tryd.func150.trans (congrArg some (by kernel_rfl))
  f299 := Tryd.func151.trans (congrArg some (by kernel_rfl))
  f300 := Tryd.func153.trans (congrArg some (by kernel_rfl))
  f301 := Tryd.func154.trans (congrArg some (by kernel_rfl))
  f328 := Tryd.func167.trans (congrArg some (by kernel_rfl))
  f329 := Tryd.func168.trans (congrArg some (by kernel_rfl))
  f330 := Tryd.func169.trans (congrArg some (by kernel_rfl))
  f331 := Tryd.func170.trans (congrArg some (by kernel_rfl))
  f332 := Tryd.func171.trans (congrArg some (by kernel_rfl))
  f343 := Tryd.func176.trans (congrArg some (by kernel_rfl))
  t0 := Tryd.underlying0
  a0 := Tryd.isAgg0
  z0 := Tryd.sizeOf0
  v0 := Tryd.zeroValue0
  t3 := Tryd.underlying3
  a3 := Tryd.isAgg3
  z3 := Tryd.sizeOf3
  v3 := Tryd.zeroValue3
  t4 := Tryd.underlying4
  a4 := Tryd.isAgg4
  z4 := Tryd.sizeOf4
  v4 := Tryd.zeroValue4
  t5 := Tryd.underlying5
  a5 := Tryd.isAgg5
  z5 := Tryd.sizeOf5
  v5 := Tryd.zeroValue5
  t9 := Tryd.underlying9
  a9 := Tryd.isAgg9
  z9 := Tryd.sizeOf9
  v9 := Tryd.zeroValue9
  t28 := Tryd.underlying148
  a28 := Tryd.isAgg148
  z28 := Tryd.sizeOf148
  v28 := Tryd.zeroValue148
  t46 := Tryd.underlying99
  a46 := Tryd.isAgg99
  z46 := Tryd.sizeOf99
  v46 := Tryd.zeroValue99
  t51 := Tryd.underlying53
  a51 := Tryd.isAgg53
  z51 := Tryd.sizeOf53
  v51 := Tryd.zeroValue53
  t53 := Tryd.underlying44
  a53 := Tryd.isAgg44
  z53 := Tryd.sizeOf44
  v53 := Tryd.zeroValue44
  t131 := Tryd.underlying55
  a131 := Tryd.isAgg55
  z131 := Tryd.sizeOf55
  v131 := Tryd.zeroValue55
  t182 := Tryd.underlying208
  a182 := Tryd.isAgg208
  z182 := Tryd.sizeOf208
  v182 := Tryd.zeroValue208
  t183 := Tryd.underlying209
  a183 := Tryd.isAgg209
  z183 := Tryd.sizeOf209
  v183 := Tryd.zeroValue209
  t218 := Tryd.underlying224
  a218 := Tryd.isAgg224
  z218 := Tryd.sizeOf224
  v218 := Tryd.zeroValue224
  t222 := Tryd.underlying227
  a222 := Tryd.isAgg227
  z222 := Tryd.sizeOf227
  v222 := Tryd.zeroValue227
  t228 := Tryd.underlying232
  a228 := Tryd.isAgg232
  z228 := Tryd.sizeOf232
  v228 := Tryd.zeroValue232
  t229 := Tryd.underlying233
  a229 := Tryd.isAgg233
  z229 := Tryd.sizeOf233
  v229 := Tryd.zeroValue233 }
open Go.Sort Go.RowKit in
theorem Tryd.slices_Sort_int (blk off cap : Nat) (zs : List Int) (w : World) (hH : Holds (Value.int .i64) w blk off zs.toArray) (hblk : blk < w.heap.size) (hsz : zs.length < 4611686018427387904) :
    Calls Tryd.prog 123 #[.slice (some ⟨blk, off, none⟩) zs.length cap] w fun e w' =>
      e = .returned (.tuple #[]) ∧ ∃ n os, w' = grow (putRow (Value.int .i64) (Sort.ahead w n) blk off (zs.mergeSort fun x y => decide (x ≤ y)).toArray) os := Any.slices_Sort_int Tryd.lays189 blk off cap zs w hH hblk hsz
def Tryd.lays190_ren : Go.Shelf.Ren := ⟨fun | 190 => 126 | 125 => 140 | 258 => 142 | 128 => 155 | 129 => 156 | 302 => 157 | 303 => 158 | 304 => 159 | 305 => 160 | 306 => 161 | 307 => 162 | 308 => 96 | 309 => 163 | 310 => 164 | 333 => 173 | 329 => 168 | 330 => 169 | 334 => 174 | 335 => 175 | 336 => 124 | 344 => 177 | n => n, fun | 31 => 45 | 9 => 9 | 3 => 3 | 46 => 99 | 0 => 0 | 51 => 53 | 53 => 44 | 4 => 4 | 183 => 209 | 182 => 208 | 131 => 55 | 5 => 5 | 218 => 224 | 222 => 227 | 228 => 232 | 229 => 233 | n => n, fun | n => n⟩
theorem Tryd.lays190 : Go.Proofs.Lays.n190 Tryd.prog Tryd.lays190_ren := {
  mixed := by kernel_rfl
  f125 := Tryd.func140.trans (congrArg some (by kernel_rfl))
  f128 := Tryd.func155.trans (congrArg some (by kernel_rfl))
  f129 := Tryd.func156.trans (congrArg some (by kernel_rfl))
  f190 := Tryd.func126.trans (congrArg some (by kernel_rfl))
  f258 := Tryd.func142.trans (congrArg some (by kernel_rfl))
  f302 := Tryd.func157.trans (congrArg some (by kernel_rfl))
  f303 := Tryd.func158.trans (congrArg some (by kernel_rfl))
  f304 := Tryd.func159.trans (congrArg some (by kernel_rfl))
  f305 := Tryd.func160.trans (congrArg some (by kernel_rfl))
  f306 := Tryd.func161.trans (congrArg some (by kernel_rfl))
  f307 := Tryd.func162.trans (congrArg some (by kernel_rfl))
  f308 := Tryd.func96.trans (congrArg some (by kernel_rfl))
  f309 := Tryd.func163.trans (congrArg some (by kernel_rfl))
  f310 := Tryd.func164.trans (congrArg some (by kernel_rfl))
  f329 := Tryd.func168.trans (congrArg some (by kernel_rfl))
  f330 := Tryd.func169.trans (congrArg some (by kernel_rfl))
  f333 := Tryd.func173.trans (congrArg some (by kernel_rfl))
  f334 := Tryd.func174.trans (congrArg some (by kernel_rfl))
  f335 := Tryd.func175.trans (congrArg some (by kernel_rfl))
  f336 := Tryd.func124.trans (congrArg some (by kernel_rfl))
  f344 := Tryd.func177.trans (congrArg some (by kernel_rfl))
  t0 := Tryd.underlying0
  a0 := Tryd.isAgg0
  z0 := Tryd.sizeOf0
  v0 := Tryd.zeroValue0
  t3 := Tryd.underlying3
  a3 := Tryd.isAgg3
  z3 := Tryd.sizeOf3
  v3 := Tryd.zeroValue3
  t4 := Tryd.underlying4
  a4 := Tryd.isAgg4
  z4 := Tryd.sizeOf4
  v4 := Tryd.zeroValue4
  t5 := Tryd.underlying5
  a5 := Tryd.isAgg5
  z5 := Tryd.sizeOf5
  v5 := Tryd.zeroValue5
  t9 := Tryd.underlying9
  a9 := Tryd.isAgg9
  z9 := Tryd.sizeOf9
  v9 := Tryd.zeroValue9
  t31 := Tryd.underlying45
  a31 := Tryd.isAgg45
  z31 := Tryd.sizeOf45
  v31 := Tryd.zeroValue45
  t46 := Tryd.underlying99
  a46 := Tryd.isAgg99
  z46 := Tryd.sizeOf99
  v46 := Tryd.zeroValue99
  t51 := Tryd.underlying53
  a51 := Tryd.isAgg53
  z51 := Tryd.sizeOf53
  v51 := Tryd.zeroValue53
  t53 := Tryd.underlying44
  a53 := Tryd.isAgg44
  z53 := Tryd.sizeOf44
  v53 := Tryd.zeroValue44
  t131 := Tryd.underlying55
  a131 := Tryd.isAgg55
  z131 := Tryd.sizeOf55
  v131 := Tryd.zeroValue55
  t182 := Tryd.underlying208
  a182 := Tryd.isAgg208
  z182 := Tryd.sizeOf208
  v182 := Tryd.zeroValue208
  t183 := Tryd.underlying209
  a183 := Tryd.isAgg209
  z183 := Tryd.sizeOf209
  v183 := Tryd.zeroValue209
  t218 := Tryd.underlying224
  a218 := Tryd.isAgg224
  z218 := Tryd.sizeOf224
  v218 := Tryd.zeroValue224
  t222 := Tryd.underlying227
  a222 := Tryd.isAgg227
  z222 := Tryd.sizeOf227
  v222 := Tryd.zeroValue227
  t228 := Tryd.underlying232
  a228 := Tryd.isAgg232
  z228 := Tryd.sizeOf232
  v228 := Tryd.zeroValue232
  t229 := Tryd.underlying233
  a229 := Tryd.isAgg233
  z229 := Tryd.sizeOf233
  v229 := Tryd.zeroValue233 }
open Go.Sort Go.RowKit in
theorem Tryd.slices_Sort_string (blk off cap : Nat) (ss : List (List UInt8)) (w : World) (hH : Holds encStr w blk off ss.toArray) (hblk : blk < w.heap.size) (hsz : ss.length < 4611686018427387904) :
    Calls Tryd.prog 126 #[.slice (some ⟨blk, off, none⟩) ss.length cap] w fun e w' =>
      e = .returned (.tuple #[]) ∧ ∃ n os, w' = grow (putRow encStr (Sort.ahead w n) blk off (ss.mergeSort fun x y => decide (x ≤ y)).toArray) os := Any.slices_Sort_string Tryd.lays190 blk off cap ss w hH hblk hsz
def Tryd.lays108_ren : Go.Shelf.Ren := ⟨fun | 108 => 138 | n => n, fun | 28 => 148 | 3 => 3 | 0 => 0 | 4 => 4 | n => n, fun | n => n⟩
theorem Tryd.lays108 : Go.Proofs.Lays.n108 Tryd.prog Tryd.lays108_ren := {
  mixed := by kernel_rfl
  f108 := Tryd.func138.trans (congrArg some (by kernel_rfl))
  t0 := Tryd.underlying0
  a0 := Tryd.isAgg0
  z0 := Tryd.sizeOf0
  v0 := Tryd.zeroValue0
  t3 := Tryd.underlying3
  a3 := Tryd.isAgg3
  z3 := Tryd.sizeOf3
  v3 := Tryd.zeroValue3
  t4 := Tryd.underlying4
  a4 := Tryd.isAgg4
  z4 := Tryd.sizeOf4
  v4 := Tryd.zeroValue4
  t28 := Tryd.underlying148
  a28 := Tryd.isAgg148
  z28 := Tryd.sizeOf148
  v28 := Tryd.zeroValue148 }
open Go.Lib in
/-- slices.Index at []int: "Index returns the index of the first occurrence of v in s, or -1 if not present.": IT RETURNS 'Lib.idxOf (the elements) v'; the world is as it was. 'zs': what the cells behind the slice's address hold (its spare capacity too, if you have it); 'zs.take n': its elements. (LAID: no walk: one application.) -/
theorem Tryd.slices_Index_int (b off n c : Nat) (zs : List Int) (x : Int) (w : World) (hz : n ≤ zs.length) (hbig : n ≤ 9223372036854775807) (hc : ∀ j, j < zs.length → w.cell? ⟨b, off + j, none⟩ = some (.int .i64 (zs.getD j 0))) :
    Calls Tryd.prog 138 #[.slice (some ⟨b, off, none⟩) n c, .int .i64 x] w fun e w' => e = .returned (.int .i64 (Lib.idxOf (zs.take n) x)) ∧ w' = w := Any.slices_Index_int Tryd.lays108 b off n c zs x w hz hbig hc
open Go.Lib in
/-- The same at a slice of length 0, a nil one too: no cell is known, none is asked for. (LAID: no walk: one application.) -/
theorem Tryd.slices_Index_int_empty (a : Option Addr) (c : Nat) (x : Int) (w : World) :
    Calls Tryd.prog 138 #[.slice a 0 c, .int .i64 x] w fun e w' => e = .returned (.int .i64 (Lib.idxOf [] x)) ∧ w' = w := Any.slices_Index_int_empty Tryd.lays108 a c x w
def Tryd.lays107_ren : Go.Shelf.Ren := ⟨fun | 107 => 122 | 108 => 138 | n => n, fun | 28 => 148 | 3 => 3 | 4 => 4 | 0 => 0 | n => n, fun | n => n⟩
theorem Tryd.lays107 : Go.Proofs.Lays.n107 Tryd.prog Tryd.lays107_ren := {
  mixed := by kernel_rfl
  f107 := Tryd.func122.trans (congrArg some (by kernel_rfl))
  f108 := Tryd.func138.trans (congrArg some (by kernel_rfl))
  t0 := Tryd.underlying0
  a0 := Tryd.isAgg0
  z0 := Tryd.sizeOf0
  v0 := Tryd.zeroValue0
  t3 := Tryd.underlying3
  a3 := Tryd.isAgg3
  z3 := Tryd.sizeOf3
  v3 := Tryd.zeroValue3
  t4 := Tryd.underlying4
  a4 := Tryd.isAgg4
  z4 := Tryd.sizeOf4
  v4 := Tryd.zeroValue4
  t28 := Tryd.underlying148
  a28 := Tryd.isAgg148
  z28 := Tryd.sizeOf148
  v28 := Tryd.zeroValue148 }
open Go.Lib in
/-- slices.Contains at []int: "Contains reports whether v is present in s.": IT RETURNS 'elements.contains v'; the world is as it was. ITS CALLEE slices.Index IS MET BY ITS OWN CONTRACT OFF THE SHELF (lay that first): no loop is walked here. (LAID: no walk: one application.) -/
theorem Tryd.slices_Contains_int (b off n c : Nat) (zs : List Int) (x : Int) (w : World) (hz : n ≤ zs.length) (hbig : n ≤ 9223372036854775807) (hc : ∀ j, j < zs.length → w.cell? ⟨b, off + j, none⟩ = some (.int .i64 (zs.getD j 0))) :
    Calls Tryd.prog 122 #[.slice (some ⟨b, off, none⟩) n c, .int .i64 x] w fun e w' => e = .returned (.bool ((zs.take n).contains x)) ∧ w' = w := Any.slices_Contains_int Tryd.lays107 b off n c zs x w hz hbig hc
open Go.Lib in
/-- The same at a slice of length 0, a nil one too. (LAID: no walk: one application.) -/
theorem Tryd.slices_Contains_int_empty (a : Option Addr) (c : Nat) (x : Int) (w : World) :
    Calls Tryd.prog 122 #[.slice a 0 c, .int .i64 x] w fun e w' => e = .returned (.bool false) ∧ w' = w := Any.slices_Contains_int_empty Tryd.lays107 a c x w
def Tryd.laysNm217_ren : Go.Shelf.Ren := ⟨fun | 17 => 141 | n => n, fun | 24 => 45 | 9 => 9 | 3 => 3 | 4 => 4 | 0 => 0 | n => n, fun | n => n⟩
theorem Tryd.laysNm217 : Go.Proofs.Lays2.n17 Tryd.prog Tryd.laysNm217_ren := {
  mixed := by kernel_rfl
  f17 := Tryd.func141.trans (congrArg some (by kernel_rfl))
  t0 := Tryd.underlying0
  a0 := Tryd.isAgg0
  z0 := Tryd.sizeOf0
  v0 := Tryd.zeroValue0
  t3 := Tryd.underlying3
  a3 := Tryd.isAgg3
  z3 := Tryd.sizeOf3
  v3 := Tryd.zeroValue3
  t4 := Tryd.underlying4
  a4 := Tryd.isAgg4
  z4 := Tryd.sizeOf4
  v4 := Tryd.zeroValue4
  t9 := Tryd.underlying9
  a9 := Tryd.isAgg9
  z9 := Tryd.sizeOf9
  v9 := Tryd.zeroValue9
  t24 := Tryd.underlying45
  a24 := Tryd.isAgg45
  z24 := Tryd.sizeOf45
  v24 := Tryd.zeroValue45 }
open Go.RowKit Go.Lib Go.Sort in
/-- slices.Reverse at []string, over an array: Go's loop from the two ends inward is walked; it makes 'Sort.reverseLoop 0 (len - 1)', which is 'Array.reverse' (Derived/Lib/SlicesMore.lean). (LAID: no walk: one application.) -/
theorem Tryd.slices_Reverse_string_arr (blk off cap : Nat) (d : Array (List UInt8)) (w : World) (hH : Holds encStr w blk off d) (hsz : d.size ≤ 9223372036854775807) :
    Calls Tryd.prog 141 #[.slice (some ⟨blk, off, none⟩) d.size cap] w fun e w' => e = .returned (.tuple #[]) ∧ ∃ n, w' = putRow encStr (Sort.ahead w n) blk off d.reverse := Any.slices_Reverse_string_arr Tryd.laysNm217 blk off cap d w hH hsz
open Go.RowKit Go.Lib Go.Sort in
/-- slices.Reverse at []string: "Reverse reverses the elements of the slice in place.": THE SLICE's CELLS HOLD 'zs.reverse' BEHIND THE CALL; all else is as it was, but for the count of draws (the exchange 's[i], s[j] = s[j], s[i]' draws its order, once a round). IN THE WORDS OF slices.Sort's CONTRACT: 'Holds': the cells hold zs and none is frozen; 'putRow': the world with those cells holding another array. A slice of length 0 that is not nil is among them ('zs = []'); nil: '.._nil'. (LAID: no walk: one application.) -/
theorem Tryd.slices_Reverse_string (blk off cap : Nat) (zs : List (List UInt8)) (w : World) (hH : Holds encStr w blk off zs.toArray) (hsz : zs.length ≤ 9223372036854775807) :
    Calls Tryd.prog 141 #[.slice (some ⟨blk, off, none⟩) zs.length cap] w fun e w' => e = .returned (.tuple #[]) ∧ ∃ n, w' = putRow encStr (Sort.ahead w n) blk off zs.reverse.toArray := Any.slices_Reverse_string Tryd.laysNm217 blk off cap zs w hH hsz
open Go.RowKit Go.Lib Go.Sort in
/-- The same at a slice of length 0, a nil one too: nothing is read, nothing written, nothing drawn. (LAID: no walk: one application.) -/
theorem Tryd.slices_Reverse_string_empty (a : Option Addr) (cap : Nat) (w : World) :
    Calls Tryd.prog 141 #[.slice a 0 cap] w fun e w' => e = .returned (.tuple #[]) ∧ w' = w := Any.slices_Reverse_string_empty Tryd.laysNm217 a cap w
def Tryd.laysNm215_ren : Go.Shelf.Ren := ⟨fun | 15 => 120 | n => n, fun | 22 => 148 | 3 => 3 | 4 => 4 | n => n, fun | n => n⟩
theorem Tryd.laysNm215 : Go.Proofs.Lays2.n15 Tryd.prog Tryd.laysNm215_ren := {
  mixed := by kernel_rfl
  f15 := Tryd.func120.trans (congrArg some (by kernel_rfl))
  t3 := Tryd.underlying3
  a3 := Tryd.isAgg3
  z3 := Tryd.sizeOf3
  v3 := Tryd.zeroValue3
  t4 := Tryd.underlying4
  a4 := Tryd.isAgg4
  z4 := Tryd.sizeOf4
  v4 := Tryd.zeroValue4
  t22 := Tryd.underlying148
  a22 := Tryd.isAgg148
  z22 := Tryd.sizeOf148
  v22 := Tryd.zeroValue148
  i3 := by kernel_rfl }
open Go.RowKit Go.Lib in
/-- slices.Clone at []int: "Clone returns a copy of the slice. The elements are copied using assignment, so this is a shallow clone. The result may have additional unused capacity. The result preserves the nilness of s.": OF A SLICE THAT IS NOT nil IT RETURNS A SLICE THAT IS NOT nil, OF THE SAME ELEMENTS, IN MEMORY OF THE CALL's OWN: in the how-to's words (6f): 'w'.ownsRow B e 1 v' n cells': v' begins at the head of a row among the blocks from B on (B: the heap's size at the call), not frozen, whose first cells are the elements · 'Below B w w'': below B all is as it was. The capacity is whatever the run-time gives. 'zs': what the cells behind the slice's address hold; 'zs.take n': its elements. (LAID: no walk: one application.) -/
theorem Tryd.slices_Clone_int (b off n c : Nat) (zs : List Int) (w : World) (hz : n ≤ zs.length) (hbig : n * 8 ≤ 140737488355328) (hc : ∀ j, j < zs.length → w.cell? ⟨b, off + j, none⟩ = some (.int .i64 (zs.getD j 0))) :
    Calls Tryd.prog 120 #[.slice (some ⟨b, off, none⟩) n c] w fun e w' => ∃ v', e = .returned v' ∧ w'.ownsRow w.heap.size 3 1 v' n ((zs.take n).map (Value.int .i64)) ∧ v' ≠ .slice none 0 0 ∧ Below w.heap.size w w' := Any.slices_Clone_int Tryd.laysNm215 b off n c zs w hz hbig hc
open Go.RowKit Go.Lib in
/-- The same at nil: nil comes back; the world is as it was. (LAID: no walk: one application.) -/
theorem Tryd.slices_Clone_int_nil (n c : Nat) (w : World) :
    Calls Tryd.prog 120 #[.slice none n c] w fun e w' => e = .returned (.slice none 0 0) ∧ w' = w := Any.slices_Clone_int_nil Tryd.laysNm215 n c w
def Tryd.laysNm216_ren : Go.Shelf.Ren := ⟨fun | 16 => 68 | n => n, fun | 24 => 45 | 9 => 9 | 4 => 4 | n => n, fun | n => n⟩
theorem Tryd.laysNm216 : Go.Proofs.Lays2.n16 Tryd.prog Tryd.laysNm216_ren := {
  mixed := by kernel_rfl
  f16 := Tryd.func68.trans (congrArg some (by kernel_rfl))
  t4 := Tryd.underlying4
  a4 := Tryd.isAgg4
  z4 := Tryd.sizeOf4
  v4 := Tryd.zeroValue4
  t9 := Tryd.underlying9
  a9 := Tryd.isAgg9
  z9 := Tryd.sizeOf9
  v9 := Tryd.zeroValue9
  t24 := Tryd.underlying45
  a24 := Tryd.isAgg45
  z24 := Tryd.sizeOf45
  v24 := Tryd.zeroValue45
  i9 := by kernel_rfl }
open Go.RowKit Go.Lib in
/-- slices.Clone at []string: "Clone returns a copy of the slice. The elements are copied using assignment, so this is a shallow clone. The result may have additional unused capacity. The result preserves the nilness of s.": OF A SLICE THAT IS NOT nil IT RETURNS A SLICE THAT IS NOT nil, OF THE SAME ELEMENTS, IN MEMORY OF THE CALL's OWN: in the how-to's words (6f): 'w'.ownsRow B e 1 v' n cells': v' begins at the head of a row among the blocks from B on (B: the heap's size at the call), not frozen, whose first cells are the elements · 'Below B w w'': below B all is as it was. The capacity is whatever the run-time gives. 'zs': what the cells behind the slice's address hold; 'zs.take n': its elements. (LAID: no walk: one application.) -/
theorem Tryd.slices_Clone_string (b off n c : Nat) (zs : List ByteArray) (w : World) (hz : n ≤ zs.length) (hbig : n * 16 ≤ 140737488355328) (hc : ∀ j, j < zs.length → w.cell? ⟨b, off + j, none⟩ = some (.string (zs.getD j ByteArray.empty))) :
    Calls Tryd.prog 68 #[.slice (some ⟨b, off, none⟩) n c] w fun e w' => ∃ v', e = .returned v' ∧ w'.ownsRow w.heap.size 9 1 v' n ((zs.take n).map (Value.string)) ∧ v' ≠ .slice none 0 0 ∧ Below w.heap.size w w' := Any.slices_Clone_string Tryd.laysNm216 b off n c zs w hz hbig hc
open Go.RowKit Go.Lib in
/-- The same at nil: nil comes back; the world is as it was. (LAID: no walk: one application.) -/
theorem Tryd.slices_Clone_string_nil (n c : Nat) (w : World) :
    Calls Tryd.prog 68 #[.slice none n c] w fun e w' => e = .returned (.slice none 0 0) ∧ w' = w := Any.slices_Clone_string_nil Tryd.laysNm216 n c w
open Go.RowKit Go.Lib in
/-- The same at a slice of length 0 that is not nil, WHATEVER ITS ADDRESS (no cell is asked for): a slice that is not nil and owns nothing comes back. (LAID: no walk: one application.) -/
theorem Tryd.slices_Clone_int_zero (a : Addr) (c : Nat) (w : World) :
    Calls Tryd.prog 120 #[.slice (some a) 0 c] w fun e w' => ∃ v', e = .returned v' ∧ w'.ownsRow w.heap.size 3 1 v' 0 [] ∧ v' ≠ .slice none 0 0 ∧ Below w.heap.size w w' := Any.slices_Clone_int_zero Tryd.laysNm215 a c w
open Go.RowKit Go.Lib in
/-- The same at a slice of length 0 that is not nil, WHATEVER ITS ADDRESS (no cell is asked for): a slice that is not nil and owns nothing comes back. (LAID: no walk: one application.) -/
theorem Tryd.slices_Clone_string_zero (a : Addr) (c : Nat) (w : World) :
    Calls Tryd.prog 68 #[.slice (some a) 0 c] w fun e w' => ∃ v', e = .returned v' ∧ w'.ownsRow w.heap.size 9 1 v' 0 [] ∧ v' ≠ .slice none 0 0 ∧ Below w.heap.size w w' := Any.slices_Clone_string_zero Tryd.laysNm216 a c w
def Tryd.laysNm237_ren : Go.Shelf.Ren := ⟨fun | 37 => 172 | n => n, fun | 3 => 3 | 4 => 4 | n => n, fun | n => n⟩
theorem Tryd.laysNm237 : Go.Proofs.Lays2.n37 Tryd.prog Tryd.laysNm237_ren := {
  mixed := by kernel_rfl
  f37 := Tryd.func172.trans (congrArg some (by kernel_rfl))
  t3 := Tryd.underlying3
  a3 := Tryd.isAgg3
  z3 := Tryd.sizeOf3
  v3 := Tryd.zeroValue3
  t4 := Tryd.underlying4
  a4 := Tryd.isAgg4
  z4 := Tryd.sizeOf4
  v4 := Tryd.zeroValue4 }
open Go.RowKit Go.Lib in
/-- cmp.isNaN[int]: 'x != x': false. (LAID: no walk: one application.) -/
theorem Tryd.cmp_isNaN_int2 (x : Int) (w : World) :
    Calls Tryd.prog 172 #[.int .i64 x] w fun e w' => e = .returned (.bool false) ∧ w' = w := Any.cmp_isNaN_int2 Tryd.laysNm237 x w
def Tryd.laysNm231_ren : Go.Shelf.Ren := ⟨fun | 31 => 152 | 37 => 172 | n => n, fun | 3 => 3 | 4 => 4 | n => n, fun | n => n⟩
theorem Tryd.laysNm231 : Go.Proofs.Lays2.n31 Tryd.prog Tryd.laysNm231_ren := {
  mixed := by kernel_rfl
  f31 := Tryd.func152.trans (congrArg some (by kernel_rfl))
  f37 := Tryd.func172.trans (congrArg some (by kernel_rfl))
  t3 := Tryd.underlying3
  a3 := Tryd.isAgg3
  z3 := Tryd.sizeOf3
  v3 := Tryd.zeroValue3
  t4 := Tryd.underlying4
  a4 := Tryd.isAgg4
  z4 := Tryd.sizeOf4
  v4 := Tryd.zeroValue4 }
open Go.RowKit Go.Lib in
/-- cmp.Less[int]: "Less reports whether x is less than y.": 'x < y'; the world is as it was. (LAID: no walk: one application.) -/
theorem Tryd.cmp_Less_int2 (x y : Int) (w : World) :
    Calls Tryd.prog 152 #[.int .i64 x, .int .i64 y] w fun e w' => e = .returned (.bool (decide (x < y))) ∧ w' = w := Any.cmp_Less_int2 Tryd.laysNm231 x y w
open Go.RowKit Go.Lib Go.Sort in
/-- slices.Reverse at []string, of an argument. (LAID: no walk: one application.) -/
theorem Tryd.slices_Reverse_string_cells (b off n c : Nat) (Sx : Nat → ByteArray) (w : World) (hbig : n ≤ 9223372036854775807) (hc : ∀ i, i < n → w.cell? ⟨b, off + i, none⟩ = some (.string (Sx i))) (hf : ∀ j, j < n → w.frozen? ⟨b, off + j, none⟩ = false) :
    Calls Tryd.prog 141 #[.slice (some ⟨b, off, none⟩) n c] w fun e w' => e = .returned (.tuple #[]) ∧ ∃ q, w' = (w.drewN q).setCells b off ((Lib.strsOf Sx n).reverse.map encStr) := Any.slices_Reverse_string_cells Tryd.laysNm217 b off n c Sx w hbig hc hf
def Tryd.lays115_ren : Go.Shelf.Ren := ⟨fun | 115 => 61 | n => n, fun | 37 => 26 | 4 => 4 | 9 => 9 | 5 => 5 | n => n, fun | n => n⟩
theorem Tryd.lays115 : Go.Proofs.Lays.n115 Tryd.prog Tryd.lays115_ren := {
  mixed := by kernel_rfl
  f115 := Tryd.func61.trans (congrArg some (by kernel_rfl))
  t4 := Tryd.underlying4
  a4 := Tryd.isAgg4
  z4 := Tryd.sizeOf4
  v4 := Tryd.zeroValue4
  t9 := Tryd.underlying9
  a9 := Tryd.isAgg9
  z9 := Tryd.sizeOf9
  v9 := Tryd.zeroValue9
  t37 := Tryd.underlying26
  a37 := Tryd.isAgg26
  z37 := Tryd.sizeOf26
  v37 := Tryd.zeroValue26 }
open Go.Proofs Go.RowKit Go.Lib in
/-- bytes.Equal, each argument with what 'string(..)' of it gives. (LAID: no walk: one application.) -/
theorem Tryd.bytes_Equal_strs (v1 v2 : Value) (t1 t2 : ByteArray) (w : World) (h1 : (convert 26 9 v1).run Tryd.prog w = .ok (.string t1) w) (h2 : (convert 26 9 v2).run Tryd.prog w = .ok (.string t2) w) :
    Calls Tryd.prog 61 #[v1, v2] w fun e w' => e = .returned (.bool (t1.toList == t2.toList)) ∧ w' = w := Any.bytes_Equal_strs Tryd.lays115 v1 v2 t1 t2 w h1 h2
def Tryd.laysSlK4_ren : Go.Shelf.Ren := ⟨fun | 4 => 90 | n => n, fun | 22 => 26 | 4 => 4 | 5 => 5 | n => n, fun | n => n⟩
theorem Tryd.laysSlK4 : Go.Proofs.SlLaysK.n4 Tryd.prog Tryd.laysSlK4_ren := {
  mixed := by kernel_rfl
  f4 := Tryd.func90.trans (congrArg some (by kernel_rfl))
  t4 := Tryd.underlying4
  a4 := Tryd.isAgg4
  z4 := Tryd.sizeOf4
  v4 := Tryd.zeroValue4
  t22 := Tryd.underlying26
  a22 := Tryd.isAgg26
  z22 := Tryd.sizeOf26
  v22 := Tryd.zeroValue26
  t5 := Tryd.underlying5
  i5 := by kernel_rfl }
open Go.RowKit Go.Lib in
/-- bytes.Clone: "Clone returns a copy of b[:len(b)]. The result may have additional unused capacity.": OF A SLICE THAT IS NOT nil IT RETURNS A SLICE THAT IS NOT nil, OF THE SAME BYTES, IN MEMORY OF THE CALL's OWN: in the how-to's words (6f): 'w'.ownsRow B e 1 v' n cells' · 'Below B w w'', B the heap's size at the call. b AT WHATEVER ADDRESS, its cells as 'open_ints' hands them ('a.add i'; the numbers 'xs'). No byte: no cell is asked for. (LAID: no walk: one application.) -/
theorem Tryd.bytes_Clone_at (a : Addr) (n c : Nat) (xs : List Int) (w : World) (hx : xs.length = n) (hbig : n ≤ 140737488355328) (hc : ∀ i, i < n → w.cell? (a.add i) = some (.int .u8 (xs.getD i 0))) :
    Calls Tryd.prog 90 #[.slice (some a) n c] w fun e w' => ∃ v', e = .returned v' ∧ w'.ownsRow w.heap.size 5 1 v' n (xs.map (Value.int .u8)) ∧ v' ≠ .slice none 0 0 ∧ Below w.heap.size w w' := Any.bytes_Clone_at Tryd.laysSlK4 a n c xs w hx hbig hc
open Go.RowKit Go.Lib in
/-- "Clone(nil) returns nil.": the world is as it was. (LAID: no walk: one application.) -/
theorem Tryd.bytes_Clone_nil (n c : Nat) (w : World) :
    Calls Tryd.prog 90 #[.slice none n c] w fun e w' => e = .returned (.slice none 0 0) ∧ w' = w := Any.bytes_Clone_nil Tryd.laysSlK4 n c w
def Tryd.laysSlJ14_ren : Go.Shelf.Ren := ⟨fun | 14 => 78 | 15 => 111 | n => n, fun | 26 => 123 | 22 => 26 | 3 => 3 | 4 => 4 | 0 => 0 | 9 => 9 | 20 => 20 | 5 => 5 | n => n, fun | n => n⟩
theorem Tryd.laysSlJ14 : Go.Proofs.SlLaysJ.n14 Tryd.prog Tryd.laysSlJ14_ren := {
  mixed := by kernel_rfl
  f14 := Tryd.func78.trans (congrArg some (by kernel_rfl))
  f15 := Tryd.func111.trans (congrArg some (by kernel_rfl))
  t0 := Tryd.underlying0
  a0 := Tryd.isAgg0
  z0 := Tryd.sizeOf0
  v0 := Tryd.zeroValue0
  t3 := Tryd.underlying3
  a3 := Tryd.isAgg3
  z3 := Tryd.sizeOf3
  v3 := Tryd.zeroValue3
  t4 := Tryd.underlying4
  a4 := Tryd.isAgg4
  z4 := Tryd.sizeOf4
  v4 := Tryd.zeroValue4
  t9 := Tryd.underlying9
  a9 := Tryd.isAgg9
  z9 := Tryd.sizeOf9
  v9 := Tryd.zeroValue9
  t20 := Tryd.underlying20
  a20 := Tryd.isAgg20
  z20 := Tryd.sizeOf20
  v20 := Tryd.zeroValue20
  t22 := Tryd.underlying26
  a22 := Tryd.isAgg26
  z22 := Tryd.sizeOf26
  v22 := Tryd.zeroValue26
  t26 := Tryd.underlying123
  a26 := Tryd.isAgg123
  z26 := Tryd.sizeOf123
  v26 := Tryd.zeroValue123
  t5 := Tryd.underlying5
  z5 := Tryd.sizeOf5
  i5 := by kernel_rfl }
open Go.RowKit Go.Lib in
theorem Tryd.bytes_Join_many (b o n c : Nat) (vs : List Value) (ls : List (List UInt8)) (sv : Value) (sep : List UInt8) (w : World) (hn : ls.length = n) (h2 : 2 ≤ n) (hP : Lib.PartsAt w ⟨b, o, none⟩ vs ls) (hcap : n ≤ c) (hS : Lib.HoldsBytes w sv sep) (hn47 : n ≤ 140737488355328) (hlen : Lib.lens ls + sep.length * (n - 1) ≤ 140737488355328) :
    Calls Tryd.prog 78 #[.slice (some ⟨b, o, none⟩) n c, sv] w fun e w' => ∃ v', e = .returned v' ∧ Lib.FreshBytes w.heap.size w' v' (Lib.join ls sep) ∧ Below w.heap.size w w' := Any.bytes_Join_many Tryd.laysSlJ14 b o n c vs ls sv sep w hn h2 hP hcap hS hn47 hlen
open Go.RowKit Go.Lib in
/-- bytes.Join of no part (nil too): '[]byte{}': a slice of no byte THAT IS NOT nil, at the head of a new, empty row. (LAID: no walk: one application.) -/
theorem Tryd.bytes_Join_none (p : Option Addr) (c : Nat) (sv : Value) (w : World) :
    Calls Tryd.prog 78 #[.slice p 0 c, sv] w fun e w' => e = .returned (.slice (some ⟨w.heap.size, 0, none⟩) 0 0) ∧ w' = w.alloc (.cells #[] 5) := Any.bytes_Join_none Tryd.laysSlJ14 p c sv w
open Go.RowKit Go.Lib in
/-- bytes.Join of ONE part, of one byte or more: 'append([]byte(nil), s[0]...)': a new []byte of its bytes; sep is not looked at. (LAID: no walk: one application.) -/
theorem Tryd.bytes_Join_one (b o c : Nat) (ad0 : Addr) (c0 : Nat) (l0 : List UInt8) (sv : Value) (w : World) (hcell : w.cell? ⟨b, o, none⟩ = some (.slice (some ad0) l0.length c0)) (hc : ∀ (i : Nat) x, l0[i]? = some x → w.cell? (ad0.add i) = some (.int .u8 (x.toNat : Int))) (h0 : 0 < l0.length) (hs : l0.length ≤ 140737488355328) :
    Calls Tryd.prog 78 #[.slice (some ⟨b, o, none⟩) 1 c, sv] w fun e w' => ∃ v', e = .returned v' ∧ Lib.FreshBytes w.heap.size w' v' l0 ∧ Below w.heap.size w w' := Any.bytes_Join_one Tryd.laysSlJ14 b o c ad0 c0 l0 sv w hcell hc h0 hs
open Go.RowKit Go.Lib in
/-- bytes.Join of ONE part of no byte (nil or not): 'append([]byte(nil), s[0]...)' IS nil; the world is as it was. (LAID: no walk: one application.) -/
theorem Tryd.bytes_Join_one_empty (b o c : Nat) (p0 : Option Addr) (c0 : Nat) (sv : Value) (w : World) (hcell : w.cell? ⟨b, o, none⟩ = some (.slice p0 0 c0)) :
    Calls Tryd.prog 78 #[.slice (some ⟨b, o, none⟩) 1 c, sv] w fun e w' => e = .returned (.slice none 0 0) ∧ w' = w := Any.bytes_Join_one_empty Tryd.laysSlJ14 b o c p0 c0 sv w hcell
def Tryd.laysSlE041_f68_ren : Go.Shelf.Ren := ⟨fun | 41 => 68 | n => n, fun | 22 => 45 | 23 => 9 | 4 => 4 | n => n, fun | n => n⟩
theorem Tryd.laysSlE041_f68 : Go.Proofs.SlLaysE0.n41 Tryd.prog Tryd.laysSlE041_f68_ren := {
  mixed := by kernel_rfl
  f41 := ⟨Tryd.f68.name, by decide, Tryd.func68.trans (congrArg some (by kernel_rfl))⟩
  t4 := Tryd.underlying4
  a4 := Tryd.isAgg4
  z4 := Tryd.sizeOf4
  v4 := Tryd.zeroValue4
  t22 := Tryd.underlying45
  a22 := Tryd.isAgg45
  z22 := Tryd.sizeOf45
  v22 := Tryd.zeroValue45 }
open Go.RowKit Go.Lib in
/-- slices.Clone: "Clone returns a copy of the slice. The elements are copied using assignment, so this is a shallow clone. The result may have additional unused capacity. The result preserves the nilness of s.": OF A SLICE THAT IS NOT nil IT RETURNS A SLICE THAT IS NOT nil, OF THE SAME CELLS, IN MEMORY OF THE CALL's OWN ('ownsRow': the how-to's 6f); below the heap's size at the call all is as it was. (LAID AT THE INSTANCE 'slices.Clone[[]string,string]': no walk: one application.) -/
theorem Tryd.slices_Clone_f68 (i0 : TypeInfo) (z : Value) (size bytes : Nat) (hi : Tryd.prog.info? 9 = some i0) (hz0 : i0.zero = some z) (hz1 : i0.size = size) (hz2 : i0.bytes = bytes) (hzs : z.cells.size = size) (hsz : 0 < size) (z23 : ∀ w, (Go.sizeOf 9).run Tryd.prog w = .ok size w) (b off n c : Nat) (news : List Value) (w : World) (hl : news.length = n * size) (hn : n ≤ maxLen) (hbig : n * bytes ≤ 140737488355328) (hc : ∀ j u, news[j]? = some u → w.cell? ⟨b, off + j, none⟩ = some u) (h1 : ∀ u ∈ news, u.oneCell' = true) :
    Calls Tryd.prog 68 #[.slice (some ⟨b, off, none⟩) n c] w fun e w' => ∃ v', e = .returned v' ∧ w'.ownsRow w.heap.size 9 size v' n news ∧ v' ≠ .slice none 0 0 ∧ Below w.heap.size w w' := AnyE.slices_Clone Tryd.laysSlE041_f68 i0 z size bytes hi hz0 hz1 hz2 hzs hsz z23 b off n c news w hl hn hbig hc h1
def Tryd.laysSlE041_f120_ren : Go.Shelf.Ren := ⟨fun | 41 => 120 | n => n, fun | 22 => 148 | 23 => 3 | 4 => 4 | n => n, fun | n => n⟩
theorem Tryd.laysSlE041_f120 : Go.Proofs.SlLaysE0.n41 Tryd.prog Tryd.laysSlE041_f120_ren := {
  mixed := by kernel_rfl
  f41 := ⟨Tryd.f120.name, by decide, Tryd.func120.trans (congrArg some (by kernel_rfl))⟩
  t4 := Tryd.underlying4
  a4 := Tryd.isAgg4
  z4 := Tryd.sizeOf4
  v4 := Tryd.zeroValue4
  t22 := Tryd.underlying148
  a22 := Tryd.isAgg148
  z22 := Tryd.sizeOf148
  v22 := Tryd.zeroValue148 }
open Go.RowKit Go.Lib in
/-- slices.Clone: "Clone returns a copy of the slice. The elements are copied using assignment, so this is a shallow clone. The result may have additional unused capacity. The result preserves the nilness of s.": OF A SLICE THAT IS NOT nil IT RETURNS A SLICE THAT IS NOT nil, OF THE SAME CELLS, IN MEMORY OF THE CALL's OWN ('ownsRow': the how-to's 6f); below the heap's size at the call all is as it was. (LAID AT THE INSTANCE 'slices.Clone[[]int,int]': no walk: one application.) -/
theorem Tryd.slices_Clone_f120 (i0 : TypeInfo) (z : Value) (size bytes : Nat) (hi : Tryd.prog.info? 3 = some i0) (hz0 : i0.zero = some z) (hz1 : i0.size = size) (hz2 : i0.bytes = bytes) (hzs : z.cells.size = size) (hsz : 0 < size) (z23 : ∀ w, (Go.sizeOf 3).run Tryd.prog w = .ok size w) (b off n c : Nat) (news : List Value) (w : World) (hl : news.length = n * size) (hn : n ≤ maxLen) (hbig : n * bytes ≤ 140737488355328) (hc : ∀ j u, news[j]? = some u → w.cell? ⟨b, off + j, none⟩ = some u) (h1 : ∀ u ∈ news, u.oneCell' = true) :
    Calls Tryd.prog 120 #[.slice (some ⟨b, off, none⟩) n c] w fun e w' => ∃ v', e = .returned v' ∧ w'.ownsRow w.heap.size 3 size v' n news ∧ v' ≠ .slice none 0 0 ∧ Below w.heap.size w w' := AnyE.slices_Clone Tryd.laysSlE041_f120 i0 z size bytes hi hz0 hz1 hz2 hzs hsz z23 b off n c news w hl hn hbig hc h1
open Go.RowKit Go.Lib in
/-- The same at nil: nil comes back; the world is as it was; nothing is asked of the element's type. (LAID AT THE INSTANCE 'slices.Clone[[]string,string]': no walk: one application.) -/
theorem Tryd.slices_Clone_nil_f68 (n c : Nat) (w : World) :
    Calls Tryd.prog 68 #[.slice none n c] w fun e w' => e = .returned (.slice none 0 0) ∧ w' = w := AnyE.slices_Clone_nil Tryd.laysSlE041_f68 n c w
open Go.RowKit Go.Lib in
/-- The same at nil: nil comes back; the world is as it was; nothing is asked of the element's type. (LAID AT THE INSTANCE 'slices.Clone[[]int,int]': no walk: one application.) -/
theorem Tryd.slices_Clone_nil_f120 (n c : Nat) (w : World) :
    Calls Tryd.prog 120 #[.slice none n c] w fun e w' => e = .returned (.slice none 0 0) ∧ w' = w := AnyE.slices_Clone_nil Tryd.laysSlE041_f120 n c w
def Tryd.laysnb115_ren : Go.Shelf.Ren := ⟨fun | 115 => 61 | n => n, fun | 37 => 26 | 4 => 4 | 9 => 9 | 5 => 5 | n => n, fun | n => n⟩
theorem Tryd.laysnb115 : Go.Proofs.Lays.nb115 Tryd.prog Tryd.laysnb115_ren := {
  mixed := by kernel_rfl
  f115 := Tryd.func61.trans (congrArg some (by kernel_rfl))
  t4 := Tryd.underlying4
  a4 := Tryd.isAgg4
  z4 := Tryd.sizeOf4
  v4 := Tryd.zeroValue4
  t9 := Tryd.underlying9
  a9 := Tryd.isAgg9
  z9 := Tryd.sizeOf9
  v9 := Tryd.zeroValue9
  t37 := Tryd.underlying26
  a37 := Tryd.isAgg26
  z37 := Tryd.sizeOf26
  v37 := Tryd.zeroValue26
  t5 := Tryd.underlying5
  a5 := Tryd.isAgg5
  z5 := Tryd.sizeOf5
  v5 := Tryd.zeroValue5 }
/-- bytes.Equal: WHOLE. (LAID: no walk: one application.) -/
theorem Tryd.bytes_Equal_all (p1 p2 : Option Addr) (n c m d : Nat) (xs ys : List Int) (w : World) (hx : xs.length = n) (hy : ys.length = m) (h1 : Lib.BytesIn w p1 n xs) (h2 : Lib.BytesIn w p2 m ys) :
    Calls Tryd.prog 61 #[.slice p1 n c, .slice p2 m d] w fun e w' => e = .returned (.bool (Lib.bytesOf xs == Lib.bytesOf ys)) ∧ w' = w := Any.bytes_Equal_all Tryd.laysnb115 p1 p2 n c m d xs ys w hx hy h1 h2
/-- bytes.Equal: "Equal reports whether a and b are the same length and contain the same bytes. A nil argument is equivalent to an empty slice.": IT RETURNS 'the bytes of the one == the bytes of the other'; the world is as it was. THE TWO ARGUMENTS COME AS WHATEVER VALUES, each with the one fact that the walk wants of it: what 'string(..)' of it gives: for a slice whose cells you know: 'run_convert_bytes_arg' (Derived/Laws/BytesArg.lean) hands that fact; for a nil one: 'run_convert_bytes_nil' (with xs := []). (LAID: no walk: one application.) -/
theorem Tryd.bytes_Equal (v1 v2 : Value) (xs ys : List Int) (w : World) (h1 : (convert 26 9 v1).run Tryd.prog w = .ok (.string (strOfNums xs)) w) (h2 : (convert 26 9 v2).run Tryd.prog w = .ok (.string (strOfNums ys)) w) :
    Calls Tryd.prog 61 #[v1, v2] w fun e w' => e = .returned (.bool (Lib.bytesOf xs == Lib.bytesOf ys)) ∧ w' = w := Any.bytes_Equal Tryd.lays115 v1 v2 xs ys w h1 h2
end Go.Proofs

/- A Builder of strings: a byte written; its text. -/
namespace Go.Proofs.YthkjfepbmnabkaaDoor.Sx
open Go
attribute [local irreducible] Calls

def selfV (b : Nat) : Value := .pointer (some ⟨b, 0, none⟩)
theorem con_of_calls {P : Program} {k : FuncId} {args : Array Value} {w : World} {Gs : List Fact} {R : Value → List Fact → Prop} (h : Calls P k args w fun e w' => ∃ v, e = .returned v ∧ Fin w Gs R v w') : Con P k args w Gs R := h
/-- One owned fact that is turned to another one. -/
theorem fin_one {w w' : World} {f f' : Fact} {R : Value → List Fact → Prop} {v : Value} (hR : R v [f']) (hc : Chg f.D w w') (hp : f'.p w') (ho : f'.own = true) (hD : ∀ k, f'.D k → f.D k ∧ k < w'.heap.size) : Fin w [f] R v w' := by
  have hu : Un [f] = f.D := by funext k; simp [Un]
  refine ⟨[f'], hR, by rw [hu]; exact hc, ⟨fun g hg => ?_, fun g hg k hk => ?_, List.pairwise_singleton _ _⟩, ⟨ho, trivial⟩, fun g hg k hk => ?_⟩
  · obtain rfl := List.mem_singleton.1 hg; exact hp
  · obtain rfl := List.mem_singleton.1 hg; exact (hD k hk).2
  · obtain rfl := List.mem_singleton.1 hg; rw [hu]; exact .inl (hD k hk).1
theorem copyCheck_c (w : World) (b : Nat) (p x : Value) (hp : p = .pointer none ∨ p = selfV b) (h : (bkF b ty_strings_Builder [p, x]).p w) :
    Con Tryd.prog n_strings_Builder_copyCheck #[selfV b] w [bkF b ty_strings_Builder [p, x]] fun v Fs => v = .tuple #[] ∧ Fs = [bkF b ty_strings_Builder [selfV b, x]] := by
  have hb : w.heap[b]? = some (.cells #[p, x] ty_strings_Builder (0, 0)) := h
  have hlt : b < w.heap.size := (Array.getElem?_eq_some_iff.1 hb).1
  have h0 : w.cell? ⟨b, 0, none⟩ = some p := by rw [cell_of_row w b 0 _ _ _ hb]; rfl
  rcases hp with rfl | rfl
  · refine con_of_calls (Calls.mono (Any.Builder_copyCheck_fresh { Tryd.lays156 with } Tryd.Builder_Extra_156.toX72 b w h0 (by simp [World.shape?, hb]; rfl) (by simp [World.frozen?, hb])) ?_)
    rintro e w' ⟨rfl, rfl⟩
    have h2 := heap_setCell_same w b 0 #[.pointer none, x] ty_strings_Builder (selfV b) hb
    refine ⟨_, rfl, fin_one (f' := bkF b ty_strings_Builder [selfV b, x]) ⟨rfl, rfl⟩ ⟨rfl, rfl, rfl, by simp [World.setCell], fun k _ hk => heap_setCell_other w _ k _ hk⟩ h2 rfl (fun k hk => ⟨hk, ?_⟩)⟩
    obtain rfl : k = b := hk
    simpa [World.setCell] using hlt
  · refine con_of_calls (Calls.mono (Any.Builder_copyCheck_used { Tryd.lays156 with } Tryd.Builder_Extra_156.toX72 b w h0) ?_)
    rintro e w' ⟨rfl, rfl⟩
    refine ⟨_, rfl, fin_one (f' := bkF b ty_strings_Builder [selfV b, x]) ⟨rfl, rfl⟩ (Chg.refl _ _) h rfl (fun k hk => ⟨hk, ?_⟩)⟩
    obtain rfl : k = b := hk
    exact hlt

/-- A Builder that was written into, or not. -/
def bldF (b : Nat) (p : Value) (A : Option Addr) (l : List UInt8) (c : Nat) : List Fact := [bkF b ty_strings_Builder [p, .slice A l.length c], browF ty_uint8 A l c]
theorem writeByte_c (w : World) (b : Nat) (p : Value) (A : Option Addr) (l : List UInt8) (c : Nat) (x : UInt8) (hp : p = .pointer none ∨ p = selfV b) (hl : l.length < 140737488355328) (hm : Mem w (bldF b p A l c)) :
    Con Tryd.prog n_strings_Builder_WriteByte #[selfV b, byte x] w (bldF b p A l c) fun v Fs => v = .nilIface ∧ ∃ A' c', Fs = bldF b (selfV b) A' (l ++ [x]) c' := by
  have g := good_strings_Builder_WriteByte w (Un (bldF b p A l c))
  refine con_of_sx (cx := cx_strings_Builder_WriteByte w (Un (bldF b p A l c))) g b_strings_Builder_WriteByte rfl rfl (β := Va.z) [.c (.v (selfV b)), .c (.v (byte x))] 0 [] _ rfl rfl (hm.sat0 rfl (fun f hf _ k hk => ⟨f, hf, hk⟩)) ?_
  refine call_con [0] (fun β w' hs => copyCheck_c w' b p _ hp (hs.get 0 rfl)) ?_
  rintro v Fs ⟨rfl, rfl⟩
  refine ⟨.slice A l.length c, fun β w' hs => by
    have hb : w'.heap[b]? = some (.cells #[selfV b, .slice A l.length c] ty_strings_Builder (0, 0)) := hs.get 0 rfl
    show w'.cell? ⟨b, 1, none⟩ = _
    rw [cell_of_row w' b 1 _ _ _ hb]; rfl, ?_⟩
  intro b2
  refine ⟨2, l.length, l.length + 1, l.map byte, [byte x], (l ++ [x]).map byte, rfl, fun β w' hs => row_rd (hs.get 0 rfl), bytes_one [x], rfl, by simp, by rw [maxLen_eq]; omega, by show (l.length + 1) * 1 ≤ _; omega, ?_⟩
  intro A' c' h1 h2 h3
  refine ⟨_, fun β w' hs => hs.bkSet 1 (o := 1) (us := [.slice A' (l.length + 1) c']) rfl (Nat.le_refl 2) (fun u hu => by obtain rfl := List.mem_singleton.1 hu; rfl), ?_⟩
  intro β w' hs
  have e : (l ++ [x]).length = l.length + 1 := by simp
  refine hs.fin [1, 2] ⟨rfl, A', c', ?_⟩
  show [bkF b ty_strings_Builder [selfV b, .slice A' (l.length + 1) c'], rowF ty_uint8 1 (.slice A' (l.length + 1) c') (l.length + 1) ((l ++ [x]).map byte)] = _
  rw [← e]
  rfl

theorem Mem.none (w : World) : Mem w [] := ⟨fun _ q => (by cases q), fun _ q => (by cases q), List.Pairwise.nil⟩
theorem ptr_byte : Tryd.prog.underlying ty_ptr_uint8 = some (.pointer ty_uint8) := by kernel_rfl
/-- The text of a Builder that was written into. -/
theorem text_c (w : World) (b : Nat) (p : Value) (A : Option Addr) (l : List UInt8) (c : Nat) (hne : l ≠ []) (hm : Mem w (bldF b p A l c)) :
    Con Tryd.prog n_strings_Builder_String #[selfV b] w (bldF b p A l c) fun v Fs => v = .string ⟨l.toArray⟩ ∧ Fs = [] := by
  have g := good_strings_Builder_String w (Un (bldF b p A l c))
  have hl0 : l.length ≠ 0 := by simpa using hne
  have hrow : w.ownsRow 0 ty_uint8 1 (.slice A l.length c) l.length (l.map byte) := hm.fact _ (List.mem_cons_of_mem _ List.mem_cons_self)
  obtain ⟨gb, rfl, hlc, hcm⟩ : ∃ gb, A = some ⟨gb, 0, none⟩ ∧ l.length ≤ c ∧ c ≤ maxLen := by
    rcases hrow.2 with ⟨_, hz⟩ | ⟨gb, cap, cur, hv, _, _, h1, h2, _⟩
    · exact absurd hz hl0
    · injection hv with h3 h4 h5
      subst h5
      exact ⟨gb, h3, h1, h2⟩
  refine con_of_sx (cx := cx_strings_Builder_String w (Un (bldF b p (some ⟨gb, 0, none⟩) l c))) g b_strings_Builder_String rfl rfl (β := Va.z) [.c (.v (selfV b))] 0 [] _ rfl rfl (hm.sat0 rfl (fun f hf _ k hk => ⟨f, hf, hk⟩)) ?_
  refine draw_rule g p_strings_Builder_String_1 (by kernel_rfl) [] [bkF b ty_strings_Builder [p, .slice (some ⟨gb, 0, none⟩) l.length c]] (Sub.of (List.nil_sublist _) (List.sublist_append_left [_] [_])) ?_
  have hcell : ∀ (cx : Cx) (n : Nat) (β : Va) (w' : World), Sat cx β n [] [bkF b ty_strings_Builder [p, .slice (some ⟨gb, 0, none⟩) l.length c]] w' → w'.cell? ⟨b, 1, none⟩ = some (.slice (some ⟨gb, 0, none⟩) l.length c) := fun cx n β w' hs => by
    have hb : w'.heap[b]? = some (.cells #[p, .slice (some ⟨gb, 0, none⟩) l.length c] ty_strings_Builder (0, 0)) := hs.get 0 rfl
    rw [cell_of_row w' b 1 _ _ _ hb]; rfl
  refine ⟨.slice (some ⟨gb, 0, none⟩) l.length c, hcell _ _, ?_⟩
  refine ⟨.slice (some ⟨gb, 0, none⟩) l.length c, hcell _ _, ?_⟩
  refine ⟨[], _, .c (.v (.pointer (some ⟨gb, 0, none⟩))), fun β w' ty hs => ⟨w', ?_, hs⟩, trivial, Sub.of (List.nil_sublist _) (List.sublist_append_left [_] [_]), ?_⟩
  · have := Lib.run_unsafeSliceData_row (P := Tryd.prog) w' #[ty_sl_uint8] ty ⟨gb, 0, none⟩ l.length c (by omega)
    simp only [builtin, Sem.run_bind]
    erw [this]
    rfl
  refine ⟨[], [bkF b ty_strings_Builder [p, .slice (some ⟨gb, 0, none⟩) l.length c]], .c (.v (.string ⟨l.toArray⟩)), fun β w' ty hs => ⟨w'.freeze ⟨gb, 0, none⟩ l.length, ?_, ?_⟩, trivial, Sub.refl, ?_⟩
  · have hrow' : w'.ownsRow 0 ty_uint8 1 (.slice (some ⟨gb, 0, none⟩) l.length c) l.length (l.map byte) := hs.get 1 rfl
    obtain ⟨cur, hg, hcs⟩ : ∃ cur, w'.heap[gb]? = some (.cells cur ty_uint8 (0, 0)) ∧ cur.size = c * 1 := by
      rcases hrow'.2 with ⟨_, hz⟩ | ⟨g', cap, cur, hv, _, hg, _, _, h3, _⟩
      · exact absurd hz hl0
      · injection hv with h4 h5 h6
        injection h4 with h4
        injection h4 with h4
        subst h4 h6
        exact ⟨cur, hg, h3⟩
    have := Lib.run_unsafeString_row (P := Tryd.prog) w' ty_ptr_uint8 3 ty ty_uint8 ptr_byte Tryd.Builder_Extra_156.cellsByte gb cur.size (by simp [World.shape?, hg]) l hne (by omega) (by rw [maxLen_eq] at hcm; omega) (fun j x hx => by
      have hr := row_rd hrow'
      obtain ⟨ad, q, hc⟩ := hr.2 (by omega)
      obtain rfl := Option.some.inj q
      exact hc j (byte x) (by simp [hx]))
    simp only [builtin, Sem.run_bind]
    erw [this]
    rfl
  · refine hs.swap [1] ⟨rfl, trivial⟩ (Fs := []) (Chg.mono (freeze_chg _ _ _) (fun i _ q => ⟨_, List.mem_singleton.2 rfl, ?_⟩)) (Mem.none _) (fun _ q => by cases q)
    obtain rfl : i = gb := q
    rfl
  intro β w' hs
  exact hs.fin [] ⟨rfl, rfl⟩
end Go.Proofs.YthkjfepbmnabkaaDoor.Sx
