/- Texts joined: Tab. -/
import Derived.Test.YthkjfepbmnabkaaGreatDoorMBM2
import Derived.Test.YthkjfepbmnabkaaGreatDoorProg
set_option linter.unusedVariables false
set_option linter.unusedSimpArgs false
/- Printed by sxgen.py: the types of this translation, and for each function its context for the executor. -/
namespace Go.Proofs.YthkjfepbmnabkaaGreatDoor.Sx
open Go
noncomputable def ti3 : TI := { desc := .int .i64, agg := false, size := 1, bytes := 8, zero := [.int .i64 0], fields := [], ftys := [] }
theorem ok3 : TiOk Tryz.prog 3 ti3 := ⟨by kernel_rfl, by kernel_rfl, rfl, by kernel_rfl, by kernel_rfl, by kernel_rfl⟩
noncomputable def ti4 : TI := { desc := .bool, agg := false, size := 1, bytes := 1, zero := [.bool false], fields := [], ftys := [] }
theorem ok4 : TiOk Tryz.prog 4 ti4 := ⟨by kernel_rfl, by kernel_rfl, rfl, by kernel_rfl, by kernel_rfl, by kernel_rfl⟩
noncomputable def ti5 : TI := { desc := .int .u8, agg := false, size := 1, bytes := 1, zero := [.int .u8 0], fields := [], ftys := [] }
theorem ok5 : TiOk Tryz.prog 5 ti5 := ⟨by kernel_rfl, by kernel_rfl, rfl, by kernel_rfl, by kernel_rfl, by kernel_rfl⟩
noncomputable def ti9 : TI := { desc := .string, agg := false, size := 1, bytes := 16, zero := [.string ByteArray.empty], fields := [], ftys := [] }
theorem ok9 : TiOk Tryz.prog 9 ti9 := ⟨by kernel_rfl, by kernel_rfl, rfl, by kernel_rfl, by kernel_rfl, by kernel_rfl⟩
noncomputable def ti21 : TI := { desc := .int .i32, agg := false, size := 1, bytes := 4, zero := [.int .i32 0], fields := [], ftys := [] }
theorem ok21 : TiOk Tryz.prog 21 ti21 := ⟨by kernel_rfl, by kernel_rfl, rfl, by kernel_rfl, by kernel_rfl, by kernel_rfl⟩
noncomputable def ti22 : TI := { desc := .int .u32, agg := false, size := 1, bytes := 4, zero := [.int .u32 0], fields := [], ftys := [] }
theorem ok22 : TiOk Tryz.prog 22 ti22 := ⟨by kernel_rfl, by kernel_rfl, rfl, by kernel_rfl, by kernel_rfl, by kernel_rfl⟩
noncomputable def ti23 : TI := { desc := .slice 5, agg := false, size := 1, bytes := 24, zero := [.slice none 0 0], fields := [], ftys := [] }
theorem ok23 : TiOk Tryz.prog 23 ti23 := ⟨by kernel_rfl, by kernel_rfl, rfl, by kernel_rfl, by kernel_rfl, by kernel_rfl⟩
noncomputable def ti25 : TI := { desc := .struct, agg := true, size := 8, bytes := 128, zero := [.string ByteArray.empty, .string ByteArray.empty, .string ByteArray.empty, .string ByteArray.empty, .string ByteArray.empty, .string ByteArray.empty, .int .u32 0, .slice none 0 0], fields := [(0, 1), (1, 1), (2, 1), (3, 1), (4, 1), (5, 1), (6, 1), (7, 1)], ftys := [9, 9, 9, 9, 9, 9, 22, 23] }
theorem ok25 : TiOk Tryz.prog 25 ti25 := ⟨by kernel_rfl, by kernel_rfl, rfl, by kernel_rfl, by kernel_rfl, by kernel_rfl⟩
noncomputable def ti28 : TI := { desc := .pointer 121, agg := false, size := 1, bytes := 8, zero := [.pointer none], fields := [], ftys := [] }
theorem ok28 : TiOk Tryz.prog 28 ti28 := ⟨by kernel_rfl, by kernel_rfl, rfl, by kernel_rfl, by kernel_rfl, by kernel_rfl⟩
noncomputable def ti30 : TI := { desc := .pointer 33, agg := false, size := 1, bytes := 8, zero := [.pointer none], fields := [], ftys := [] }
theorem ok30 : TiOk Tryz.prog 30 ti30 := ⟨by kernel_rfl, by kernel_rfl, rfl, by kernel_rfl, by kernel_rfl, by kernel_rfl⟩
noncomputable def ti31 : TI := { desc := .slice 70, agg := false, size := 1, bytes := 24, zero := [.slice none 0 0], fields := [], ftys := [] }
theorem ok31 : TiOk Tryz.prog 31 ti31 := ⟨by kernel_rfl, by kernel_rfl, rfl, by kernel_rfl, by kernel_rfl, by kernel_rfl⟩
noncomputable def ti33 : TI := { desc := .struct, agg := true, size := 3, bytes := 40, zero := [.bool false, .slice none 0 0, .bool false], fields := [(0, 1), (1, 1), (2, 1)], ftys := [4, 31, 4] }
theorem ok33 : TiOk Tryz.prog 33 ti33 := ⟨by kernel_rfl, by kernel_rfl, rfl, by kernel_rfl, by kernel_rfl, by kernel_rfl⟩
noncomputable def ti38 : TI := { desc := .struct, agg := true, size := 8, bytes := 128, zero := [.string ByteArray.empty, .string ByteArray.empty, .string ByteArray.empty, .string ByteArray.empty, .string ByteArray.empty, .string ByteArray.empty, .int .u32 0, .slice none 0 0], fields := [(0, 1), (1, 1), (2, 1), (3, 1), (4, 1), (5, 1), (6, 1), (7, 1)], ftys := [9, 9, 9, 9, 9, 9, 22, 23] }
theorem ok38 : TiOk Tryz.prog 38 ti38 := ⟨by kernel_rfl, by kernel_rfl, rfl, by kernel_rfl, by kernel_rfl, by kernel_rfl⟩
noncomputable def ti41 : TI := { desc := .struct, agg := true, size := 5, bytes := 104, zero := [.slice none 0 0, .int .i64 0, .slice none 0 0, .slice none 0 0, .slice none 0 0], fields := [(0, 1), (1, 1), (2, 1), (3, 1), (4, 1)], ftys := [23, 3, 23, 23, 23] }
theorem ok41 : TiOk Tryz.prog 41 ti41 := ⟨by kernel_rfl, by kernel_rfl, rfl, by kernel_rfl, by kernel_rfl, by kernel_rfl⟩
noncomputable def ti42 : TI := { desc := .int .i64, agg := false, size := 1, bytes := 8, zero := [.int .i64 0], fields := [], ftys := [] }
theorem ok42 : TiOk Tryz.prog 42 ti42 := ⟨by kernel_rfl, by kernel_rfl, rfl, by kernel_rfl, by kernel_rfl, by kernel_rfl⟩
noncomputable def ti45 : TI := { desc := .struct, agg := true, size := 5, bytes := 104, zero := [.slice none 0 0, .int .i64 0, .slice none 0 0, .slice none 0 0, .slice none 0 0], fields := [(0, 1), (1, 1), (2, 1), (3, 1), (4, 1)], ftys := [23, 3, 23, 23, 23] }
theorem ok45 : TiOk Tryz.prog 45 ti45 := ⟨by kernel_rfl, by kernel_rfl, rfl, by kernel_rfl, by kernel_rfl, by kernel_rfl⟩
noncomputable def ti56 : TI := { desc := .slice 62, agg := false, size := 1, bytes := 24, zero := [.slice none 0 0], fields := [], ftys := [] }
theorem ok56 : TiOk Tryz.prog 56 ti56 := ⟨by kernel_rfl, by kernel_rfl, rfl, by kernel_rfl, by kernel_rfl, by kernel_rfl⟩
noncomputable def ti57 : TI := { desc := .pointer 60, agg := false, size := 1, bytes := 8, zero := [.pointer none], fields := [], ftys := [] }
theorem ok57 : TiOk Tryz.prog 57 ti57 := ⟨by kernel_rfl, by kernel_rfl, rfl, by kernel_rfl, by kernel_rfl, by kernel_rfl⟩
noncomputable def ti58 : TI := { desc := .slice 23, agg := false, size := 1, bytes := 24, zero := [.slice none 0 0], fields := [], ftys := [] }
theorem ok58 : TiOk Tryz.prog 58 ti58 := ⟨by kernel_rfl, by kernel_rfl, rfl, by kernel_rfl, by kernel_rfl, by kernel_rfl⟩
noncomputable def ti60 : TI := { desc := .struct, agg := true, size := 3, bytes := 40, zero := [.pointer none, .pointer none, .slice none 0 0], fields := [(0, 1), (1, 1), (2, 1)], ftys := [28, 30, 58] }
theorem ok60 : TiOk Tryz.prog 60 ti60 := ⟨by kernel_rfl, by kernel_rfl, rfl, by kernel_rfl, by kernel_rfl, by kernel_rfl⟩
noncomputable def ti62 : TI := { desc := .struct, agg := true, size := 7, bytes := 88, zero := [.int .u8 0, .int .i64 0, .int .i64 0, .slice none 0 0, .slice none 0 0, .int .i64 0, .bool false], fields := [(0, 1), (1, 1), (2, 1), (3, 1), (4, 1), (5, 1), (6, 1)], ftys := [5, 3, 3, 23, 23, 3, 4] }
theorem ok62 : TiOk Tryz.prog 62 ti62 := ⟨by kernel_rfl, by kernel_rfl, rfl, by kernel_rfl, by kernel_rfl, by kernel_rfl⟩
noncomputable def ti68 : TI := { desc := .slice 3, agg := false, size := 1, bytes := 24, zero := [.slice none 0 0], fields := [], ftys := [] }
theorem ok68 : TiOk Tryz.prog 68 ti68 := ⟨by kernel_rfl, by kernel_rfl, rfl, by kernel_rfl, by kernel_rfl, by kernel_rfl⟩
noncomputable def ti70 : TI := { desc := .struct, agg := true, size := 6, bytes := 112, zero := [.int .i64 0, .slice none 0 0, .slice none 0 0, .int .i64 0, .slice none 0 0, .slice none 0 0], fields := [(0, 1), (1, 1), (2, 1), (3, 1), (4, 1), (5, 1)], ftys := [3, 23, 23, 3, 68, 23] }
theorem ok70 : TiOk Tryz.prog 70 ti70 := ⟨by kernel_rfl, by kernel_rfl, rfl, by kernel_rfl, by kernel_rfl, by kernel_rfl⟩
noncomputable def ti84 : TI := { desc := .struct, agg := true, size := 6, bytes := 112, zero := [.int .i64 0, .slice none 0 0, .slice none 0 0, .int .i64 0, .slice none 0 0, .slice none 0 0], fields := [(0, 1), (1, 1), (2, 1), (3, 1), (4, 1), (5, 1)], ftys := [3, 23, 23, 3, 68, 23] }
theorem ok84 : TiOk Tryz.prog 84 ti84 := ⟨by kernel_rfl, by kernel_rfl, rfl, by kernel_rfl, by kernel_rfl, by kernel_rfl⟩
noncomputable def ti91 : TI := { desc := .slice 104, agg := false, size := 1, bytes := 24, zero := [.slice none 0 0], fields := [], ftys := [] }
theorem ok91 : TiOk Tryz.prog 91 ti91 := ⟨by kernel_rfl, by kernel_rfl, rfl, by kernel_rfl, by kernel_rfl, by kernel_rfl⟩
noncomputable def ti92 : TI := { desc := .pointer 156, agg := false, size := 1, bytes := 8, zero := [.pointer none], fields := [], ftys := [] }
theorem ok92 : TiOk Tryz.prog 92 ti92 := ⟨by kernel_rfl, by kernel_rfl, rfl, by kernel_rfl, by kernel_rfl, by kernel_rfl⟩
noncomputable def ti94 : TI := { desc := .pointer 99, agg := false, size := 1, bytes := 8, zero := [.pointer none], fields := [], ftys := [] }
theorem ok94 : TiOk Tryz.prog 94 ti94 := ⟨by kernel_rfl, by kernel_rfl, rfl, by kernel_rfl, by kernel_rfl, by kernel_rfl⟩
noncomputable def ti95 : TI := { desc := .slice 9, agg := false, size := 1, bytes := 24, zero := [.slice none 0 0], fields := [], ftys := [] }
theorem ok95 : TiOk Tryz.prog 95 ti95 := ⟨by kernel_rfl, by kernel_rfl, rfl, by kernel_rfl, by kernel_rfl, by kernel_rfl⟩
noncomputable def ti96 : TI := { desc := .slice 102, agg := false, size := 1, bytes := 24, zero := [.slice none 0 0], fields := [], ftys := [] }
theorem ok96 : TiOk Tryz.prog 96 ti96 := ⟨by kernel_rfl, by kernel_rfl, rfl, by kernel_rfl, by kernel_rfl, by kernel_rfl⟩
noncomputable def ti97 : TI := { desc := .int .u64, agg := false, size := 1, bytes := 8, zero := [.int .u64 0], fields := [], ftys := [] }
theorem ok97 : TiOk Tryz.prog 97 ti97 := ⟨by kernel_rfl, by kernel_rfl, rfl, by kernel_rfl, by kernel_rfl, by kernel_rfl⟩
noncomputable def ti99 : TI := { desc := .struct, agg := true, size := 4, bytes := 64, zero := [.slice none 0 0, .slice none 0 0, .int .u64 0, .int .u64 0], fields := [(0, 1), (1, 1), (2, 1), (3, 1)], ftys := [95, 96, 97, 97] }
theorem ok99 : TiOk Tryz.prog 99 ti99 := ⟨by kernel_rfl, by kernel_rfl, rfl, by kernel_rfl, by kernel_rfl, by kernel_rfl⟩
noncomputable def ti100 : TI := { desc := .map 97 108, agg := false, size := 1, bytes := 8, zero := [.map none], fields := [], ftys := [] }
theorem ok100 : TiOk Tryz.prog 100 ti100 := ⟨by kernel_rfl, by kernel_rfl, rfl, by kernel_rfl, by kernel_rfl, by kernel_rfl⟩
noncomputable def ti102 : TI := { desc := .struct, agg := true, size := 10, bytes := 176, zero := [.string ByteArray.empty, .string ByteArray.empty, .slice none 0 0, .int .i64 0, .slice none 0 0, .slice none 0 0, .slice none 0 0, .int .u64 0, .slice none 0 0, .bool false], fields := [(0, 1), (1, 1), (2, 5), (7, 1), (8, 1), (9, 1)], ftys := [9, 9, 45, 97, 95, 4] }
theorem ok102 : TiOk Tryz.prog 102 ti102 := ⟨by kernel_rfl, by kernel_rfl, rfl, by kernel_rfl, by kernel_rfl, by kernel_rfl⟩
noncomputable def ti104 : TI := { desc := .struct, agg := true, size := 20, bytes := 344, zero := [.int .u8 0, .string ByteArray.empty, .string ByteArray.empty, .string ByteArray.empty, .bool false, .slice none 0 0, .int .i64 0, .slice none 0 0, .slice none 0 0, .slice none 0 0, .string ByteArray.empty, .string ByteArray.empty, .slice none 0 0, .int .i64 0, .slice none 0 0, .slice none 0 0, .slice none 0 0, .int .u64 0, .slice none 0 0, .bool false], fields := [(0, 1), (1, 1), (2, 1), (3, 1), (4, 1), (5, 5), (10, 10)], ftys := [5, 9, 9, 9, 4, 45, 102] }
theorem ok104 : TiOk Tryz.prog 104 ti104 := ⟨by kernel_rfl, by kernel_rfl, rfl, by kernel_rfl, by kernel_rfl, by kernel_rfl⟩
noncomputable def ti108 : TI := { desc := .struct, agg := true, size := 2, bytes := 32, zero := [.string ByteArray.empty, .string ByteArray.empty], fields := [(0, 1), (1, 1)], ftys := [9, 9] }
theorem ok108 : TiOk Tryz.prog 108 ti108 := ⟨by kernel_rfl, by kernel_rfl, rfl, by kernel_rfl, by kernel_rfl, by kernel_rfl⟩
noncomputable def ti113 : TI := { desc := .struct, agg := true, size := 10, bytes := 176, zero := [.string ByteArray.empty, .string ByteArray.empty, .slice none 0 0, .int .i64 0, .slice none 0 0, .slice none 0 0, .slice none 0 0, .int .u64 0, .slice none 0 0, .bool false], fields := [(0, 1), (1, 1), (2, 5), (7, 1), (8, 1), (9, 1)], ftys := [9, 9, 41, 97, 95, 4] }
theorem ok113 : TiOk Tryz.prog 113 ti113 := ⟨by kernel_rfl, by kernel_rfl, rfl, by kernel_rfl, by kernel_rfl, by kernel_rfl⟩
noncomputable def ti118 : TI := { desc := .map 9 3, agg := false, size := 1, bytes := 8, zero := [.map none], fields := [], ftys := [] }
theorem ok118 : TiOk Tryz.prog 118 ti118 := ⟨by kernel_rfl, by kernel_rfl, rfl, by kernel_rfl, by kernel_rfl, by kernel_rfl⟩
noncomputable def ti119 : TI := { desc := .slice 84, agg := false, size := 1, bytes := 24, zero := [.slice none 0 0], fields := [], ftys := [] }
theorem ok119 : TiOk Tryz.prog 119 ti119 := ⟨by kernel_rfl, by kernel_rfl, rfl, by kernel_rfl, by kernel_rfl, by kernel_rfl⟩
noncomputable def ti121 : TI := { desc := .struct, agg := true, size := 4, bytes := 40, zero := [.bool false, .bool false, .slice none 0 0, .map none], fields := [(0, 1), (1, 1), (2, 1), (3, 1)], ftys := [4, 4, 119, 118] }
theorem ok121 : TiOk Tryz.prog 121 ti121 := ⟨by kernel_rfl, by kernel_rfl, rfl, by kernel_rfl, by kernel_rfl, by kernel_rfl⟩
noncomputable def ti127 : TI := { desc := .other, agg := false, size := 1, bytes := 8, zero := [.nilFunc], fields := [], ftys := [] }
theorem ok127 : TiOk Tryz.prog 127 ti127 := ⟨by kernel_rfl, by kernel_rfl, rfl, by kernel_rfl, by kernel_rfl, by kernel_rfl⟩
noncomputable def ti142 : TI := { desc := .struct, agg := true, size := 2, bytes := 48, zero := [.slice none 0 0, .slice none 0 0], fields := [(0, 1), (1, 1)], ftys := [68, 23] }
theorem ok142 : TiOk Tryz.prog 142 ti142 := ⟨by kernel_rfl, by kernel_rfl, rfl, by kernel_rfl, by kernel_rfl, by kernel_rfl⟩
noncomputable def ti154 : TI := { desc := .map 9 201, agg := false, size := 1, bytes := 8, zero := [.map none], fields := [], ftys := [] }
theorem ok154 : TiOk Tryz.prog 154 ti154 := ⟨by kernel_rfl, by kernel_rfl, rfl, by kernel_rfl, by kernel_rfl, by kernel_rfl⟩
noncomputable def ti156 : TI := { desc := .struct, agg := true, size := 3, bytes := 24, zero := [.map none, .int .u64 0, .int .u64 0], fields := [(0, 1), (1, 1), (2, 1)], ftys := [154, 97, 97] }
theorem ok156 : TiOk Tryz.prog 156 ti156 := ⟨by kernel_rfl, by kernel_rfl, rfl, by kernel_rfl, by kernel_rfl, by kernel_rfl⟩
noncomputable def ti159 : TI := { desc := .other, agg := false, size := 1, bytes := 8, zero := [.nilFunc], fields := [], ftys := [] }
theorem ok159 : TiOk Tryz.prog 159 ti159 := ⟨by kernel_rfl, by kernel_rfl, rfl, by kernel_rfl, by kernel_rfl, by kernel_rfl⟩
noncomputable def ti161 : TI := { desc := .slice 113, agg := false, size := 1, bytes := 24, zero := [.slice none 0 0], fields := [], ftys := [] }
theorem ok161 : TiOk Tryz.prog 161 ti161 := ⟨by kernel_rfl, by kernel_rfl, rfl, by kernel_rfl, by kernel_rfl, by kernel_rfl⟩
noncomputable def ti164 : TI := { desc := .other, agg := false, size := 1, bytes := 8, zero := [.nilFunc], fields := [], ftys := [] }
theorem ok164 : TiOk Tryz.prog 164 ti164 := ⟨by kernel_rfl, by kernel_rfl, rfl, by kernel_rfl, by kernel_rfl, by kernel_rfl⟩
noncomputable def ti179 : TI := { desc := .pointer 113, agg := false, size := 1, bytes := 8, zero := [.pointer none], fields := [], ftys := [] }
theorem ok179 : TiOk Tryz.prog 179 ti179 := ⟨by kernel_rfl, by kernel_rfl, rfl, by kernel_rfl, by kernel_rfl, by kernel_rfl⟩
noncomputable def ti183 : TI := { desc := .array 8 22, agg := true, size := 8, bytes := 32, zero := [.int .u32 0, .int .u32 0, .int .u32 0, .int .u32 0, .int .u32 0, .int .u32 0, .int .u32 0, .int .u32 0], fields := [], ftys := [] }
theorem ok183 : TiOk Tryz.prog 183 ti183 := ⟨by kernel_rfl, by kernel_rfl, rfl, by kernel_rfl, by kernel_rfl, by kernel_rfl⟩
noncomputable def ti184 : TI := { desc := .array 8 22, agg := true, size := 8, bytes := 32, zero := [.int .u32 0, .int .u32 0, .int .u32 0, .int .u32 0, .int .u32 0, .int .u32 0, .int .u32 0, .int .u32 0], fields := [], ftys := [] }
theorem ok184 : TiOk Tryz.prog 184 ti184 := ⟨by kernel_rfl, by kernel_rfl, rfl, by kernel_rfl, by kernel_rfl, by kernel_rfl⟩
noncomputable def ti190 : TI := { desc := .pointer 192, agg := false, size := 1, bytes := 8, zero := [.pointer none], fields := [], ftys := [] }
theorem ok190 : TiOk Tryz.prog 190 ti190 := ⟨by kernel_rfl, by kernel_rfl, rfl, by kernel_rfl, by kernel_rfl, by kernel_rfl⟩
noncomputable def ti192 : TI := { desc := .struct, agg := true, size := 2, bytes := 32, zero := [.pointer none, .slice none 0 0], fields := [(0, 1), (1, 1)], ftys := [190, 23] }
theorem ok192 : TiOk Tryz.prog 192 ti192 := ⟨by kernel_rfl, by kernel_rfl, rfl, by kernel_rfl, by kernel_rfl, by kernel_rfl⟩
noncomputable def ti196 : TI := { desc := .int .u64, agg := false, size := 1, bytes := 8, zero := [.int .u64 0], fields := [], ftys := [] }
theorem ok196 : TiOk Tryz.prog 196 ti196 := ⟨by kernel_rfl, by kernel_rfl, rfl, by kernel_rfl, by kernel_rfl, by kernel_rfl⟩
noncomputable def ti201 : TI := { desc := .map 9 179, agg := false, size := 1, bytes := 8, zero := [.map none], fields := [], ftys := [] }
theorem ok201 : TiOk Tryz.prog 201 ti201 := ⟨by kernel_rfl, by kernel_rfl, rfl, by kernel_rfl, by kernel_rfl, by kernel_rfl⟩
noncomputable def ti212 : TI := { desc := .array 8 22, agg := true, size := 8, bytes := 32, zero := [.int .u32 0, .int .u32 0, .int .u32 0, .int .u32 0, .int .u32 0, .int .u32 0, .int .u32 0, .int .u32 0], fields := [], ftys := [] }
theorem ok212 : TiOk Tryz.prog 212 ti212 := ⟨by kernel_rfl, by kernel_rfl, rfl, by kernel_rfl, by kernel_rfl, by kernel_rfl⟩
noncomputable def ti214 : TI := { desc := .other, agg := false, size := 1, bytes := 8, zero := [.nilFunc], fields := [], ftys := [] }
theorem ok214 : TiOk Tryz.prog 214 ti214 := ⟨by kernel_rfl, by kernel_rfl, rfl, by kernel_rfl, by kernel_rfl, by kernel_rfl⟩
noncomputable def ti237 : TI := { desc := .pointer 5, agg := false, size := 1, bytes := 8, zero := [.pointer none], fields := [], ftys := [] }
theorem ok237 : TiOk Tryz.prog 237 ti237 := ⟨by kernel_rfl, by kernel_rfl, rfl, by kernel_rfl, by kernel_rfl, by kernel_rfl⟩
noncomputable def ti238 : TI := { desc := .slice 241, agg := false, size := 1, bytes := 24, zero := [.slice none 0 0], fields := [], ftys := [] }
theorem ok238 : TiOk Tryz.prog 238 ti238 := ⟨by kernel_rfl, by kernel_rfl, rfl, by kernel_rfl, by kernel_rfl, by kernel_rfl⟩
noncomputable def ti241 : TI := { desc := .struct, agg := true, size := 2, bytes := 16, zero := [.int .i64 0, .int .i64 0], fields := [(0, 1), (1, 1)], ftys := [3, 3] }
theorem ok241 : TiOk Tryz.prog 241 ti241 := ⟨by kernel_rfl, by kernel_rfl, rfl, by kernel_rfl, by kernel_rfl, by kernel_rfl⟩
noncomputable def ti251 : TI := { desc := .array 64 22, agg := true, size := 64, bytes := 256, zero := List.replicate 64 (.int .u32 0), fields := [], ftys := [] }
theorem ok251 : TiOk Tryz.prog 251 ti251 := ⟨by kernel_rfl, by kernel_rfl, rfl, by kernel_rfl, by kernel_rfl, by kernel_rfl⟩
noncomputable def ti254 : TI := { desc := .pointer 287, agg := false, size := 1, bytes := 8, zero := [.pointer none], fields := [], ftys := [] }
theorem ok254 : TiOk Tryz.prog 254 ti254 := ⟨by kernel_rfl, by kernel_rfl, rfl, by kernel_rfl, by kernel_rfl, by kernel_rfl⟩
noncomputable def ti266 : TI := { desc := .slice 268, agg := false, size := 1, bytes := 24, zero := [.slice none 0 0], fields := [], ftys := [] }
theorem ok266 : TiOk Tryz.prog 266 ti266 := ⟨by kernel_rfl, by kernel_rfl, rfl, by kernel_rfl, by kernel_rfl, by kernel_rfl⟩
noncomputable def ti268 : TI := { desc := .struct, agg := true, size := 2, bytes := 8, zero := [.int .i32 0, .int .i32 0], fields := [(0, 1), (1, 1)], ftys := [21, 21] }
theorem ok268 : TiOk Tryz.prog 268 ti268 := ⟨by kernel_rfl, by kernel_rfl, rfl, by kernel_rfl, by kernel_rfl, by kernel_rfl⟩
noncomputable def ti269 : TI := { desc := .array 9 268, agg := true, size := 18, bytes := 72, zero := [.int .i32 0, .int .i32 0, .int .i32 0, .int .i32 0, .int .i32 0, .int .i32 0, .int .i32 0, .int .i32 0, .int .i32 0, .int .i32 0, .int .i32 0, .int .i32 0, .int .i32 0, .int .i32 0, .int .i32 0, .int .i32 0, .int .i32 0, .int .i32 0], fields := [], ftys := [] }
theorem ok269 : TiOk Tryz.prog 269 ti269 := ⟨by kernel_rfl, by kernel_rfl, rfl, by kernel_rfl, by kernel_rfl, by kernel_rfl⟩
noncomputable def ti274 : TI := { desc := .int .i64, agg := false, size := 1, bytes := 8, zero := [.int .i64 0], fields := [], ftys := [] }
theorem ok274 : TiOk Tryz.prog 274 ti274 := ⟨by kernel_rfl, by kernel_rfl, rfl, by kernel_rfl, by kernel_rfl, by kernel_rfl⟩
noncomputable def ti284 : TI := { desc := .pointer 309, agg := false, size := 1, bytes := 8, zero := [.pointer none], fields := [], ftys := [] }
theorem ok284 : TiOk Tryz.prog 284 ti284 := ⟨by kernel_rfl, by kernel_rfl, rfl, by kernel_rfl, by kernel_rfl, by kernel_rfl⟩
noncomputable def ti287 : TI := { desc := .struct, agg := true, size := 3, bytes := 24, zero := [.pointer none, .pointer none, .pointer none], fields := [(0, 1), (1, 1), (2, 1)], ftys := [284, 284, 284] }
theorem ok287 : TiOk Tryz.prog 287 ti287 := ⟨by kernel_rfl, by kernel_rfl, rfl, by kernel_rfl, by kernel_rfl, by kernel_rfl⟩
noncomputable def ti296 : TI := { desc := .other, agg := false, size := 1, bytes := 8, zero := [.nilFunc], fields := [], ftys := [] }
theorem ok296 : TiOk Tryz.prog 296 ti296 := ⟨by kernel_rfl, by kernel_rfl, rfl, by kernel_rfl, by kernel_rfl, by kernel_rfl⟩
noncomputable def ti297 : TI := { desc := .array 6 268, agg := true, size := 12, bytes := 48, zero := [.int .i32 0, .int .i32 0, .int .i32 0, .int .i32 0, .int .i32 0, .int .i32 0, .int .i32 0, .int .i32 0, .int .i32 0, .int .i32 0, .int .i32 0, .int .i32 0], fields := [], ftys := [] }
theorem ok297 : TiOk Tryz.prog 297 ti297 := ⟨by kernel_rfl, by kernel_rfl, rfl, by kernel_rfl, by kernel_rfl, by kernel_rfl⟩
noncomputable def ti298 : TI := { desc := .array 5 268, agg := true, size := 10, bytes := 40, zero := [.int .i32 0, .int .i32 0, .int .i32 0, .int .i32 0, .int .i32 0, .int .i32 0, .int .i32 0, .int .i32 0, .int .i32 0, .int .i32 0], fields := [], ftys := [] }
theorem ok298 : TiOk Tryz.prog 298 ti298 := ⟨by kernel_rfl, by kernel_rfl, rfl, by kernel_rfl, by kernel_rfl, by kernel_rfl⟩
noncomputable def ti300 : TI := { desc := .struct, agg := true, size := 4, bytes := 16, zero := [.int .i64 0, .int .u8 0, .int .u8 0, .int .i32 0], fields := [(0, 1), (1, 1), (2, 1), (3, 1)], ftys := [3, 5, 5, 21] }
theorem ok300 : TiOk Tryz.prog 300 ti300 := ⟨by kernel_rfl, by kernel_rfl, rfl, by kernel_rfl, by kernel_rfl, by kernel_rfl⟩
noncomputable def ti301 : TI := { desc := .array 4 300, agg := true, size := 16, bytes := 64, zero := [.int .i64 0, .int .u8 0, .int .u8 0, .int .i32 0, .int .i64 0, .int .u8 0, .int .u8 0, .int .i32 0, .int .i64 0, .int .u8 0, .int .u8 0, .int .i32 0, .int .i64 0, .int .u8 0, .int .u8 0, .int .i32 0], fields := [], ftys := [] }
theorem ok301 : TiOk Tryz.prog 301 ti301 := ⟨by kernel_rfl, by kernel_rfl, rfl, by kernel_rfl, by kernel_rfl, by kernel_rfl⟩
noncomputable def ti303 : TI := { desc := .int .u64, agg := false, size := 1, bytes := 8, zero := [.int .u64 0], fields := [], ftys := [] }
theorem ok303 : TiOk Tryz.prog 303 ti303 := ⟨by kernel_rfl, by kernel_rfl, rfl, by kernel_rfl, by kernel_rfl, by kernel_rfl⟩
noncomputable def ti306 : TI := { desc := .pointer 3, agg := false, size := 1, bytes := 8, zero := [.pointer none], fields := [], ftys := [] }
theorem ok306 : TiOk Tryz.prog 306 ti306 := ⟨by kernel_rfl, by kernel_rfl, rfl, by kernel_rfl, by kernel_rfl, by kernel_rfl⟩
noncomputable def ti309 : TI := { desc := .struct, agg := true, size := 10, bytes := 64, zero := [.int .u32 0, .int .u32 0, .int .u32 0, .int .u32 0, .int .u32 0, .int .u32 0, .int .u32 0, .int .u32 0, .slice none 0 0, .int .u64 0], fields := [(0, 8), (8, 1), (9, 1)], ftys := [212, 23, 97] }
theorem ok309 : TiOk Tryz.prog 309 ti309 := ⟨by kernel_rfl, by kernel_rfl, rfl, by kernel_rfl, by kernel_rfl, by kernel_rfl⟩
abbrev ty_int64 : TypeId := 2
abbrev ty_int : TypeId := 3
abbrev ty_bool : TypeId := 4
abbrev ty_uint8 : TypeId := 5
abbrev ty_abi_BoundsErrorCode : TypeId := 6
abbrev ty_runtime_boundsError : TypeId := 8
abbrev ty_string : TypeId := 9
abbrev ty_runtime_errorString : TypeId := 10
abbrev ty_runtime_plainError : TypeId := 11
abbrev ty_uintptr : TypeId := 12
abbrev ty_runtime_errorAddressString : TypeId := 14
abbrev ty_ptr_runtime_TypeAssertionError : TypeId := 15
abbrev ty_ptr_runtime_PanicNilError : TypeId := 16
abbrev ty_ptr_abi_Type : TypeId := 17
abbrev ty_maps_unhashableTypeError : TypeId := 19
abbrev ty_int32 : TypeId := 21
abbrev ty_uint32 : TypeId := 22
abbrev ty_sl_uint8 : TypeId := 23
abbrev ty_ostiaryref08_Answer : TypeId := 25
abbrev ty_ptr_box_Box : TypeId := 28
abbrev ty_ptr_ostiaryref05_Box : TypeId := 30
abbrev ty_sl_ostiaryref05_Term : TypeId := 31
abbrev ty_ostiaryref05_Box : TypeId := 33
abbrev ty_digest_Answer : TypeId := 38
abbrev ty_cred_Secret : TypeId := 41
abbrev ty_api_Errno : TypeId := 42
abbrev ty_ostiaryref14_Secret : TypeId := 45
abbrev ty_sl_ostiarylaw05_Op : TypeId := 56
abbrev ty_ptr_ostiarylaw05_told : TypeId := 57
abbrev ty_sl_sl_uint8 : TypeId := 58
abbrev ty_ostiarylaw05_told : TypeId := 60
abbrev ty_ostiarylaw05_Op : TypeId := 62
abbrev ty_sl_int : TypeId := 68
abbrev ty_ostiaryref05_Term : TypeId := 70
abbrev ty_iter_Seq2_int_ostiary_box_Term : TypeId := 82
abbrev ty_box_Term : TypeId := 84
abbrev ty_sl_ostiarylaw14_Op : TypeId := 91
abbrev ty_ptr_cred_Store : TypeId := 92
abbrev ty_ptr_ostiaryref14_Store : TypeId := 94
abbrev ty_sl_string : TypeId := 95
abbrev ty_sl_ostiaryref14_Cred : TypeId := 96
abbrev ty_uint64 : TypeId := 97
abbrev ty_ostiaryref14_Store : TypeId := 99
abbrev ty_map_uint64_ostiarylaw14_key : TypeId := 100
abbrev ty_ostiaryref14_Cred : TypeId := 102
abbrev ty_ostiarylaw14_Op : TypeId := 104
abbrev ty_ostiarylaw14_key : TypeId := 108
abbrev ty_cred_Cred : TypeId := 113
abbrev ty_map_string_int : TypeId := 118
abbrev ty_sl_box_Term : TypeId := 119
abbrev ty_box_Box : TypeId := 121
abbrev ty_box_sum : TypeId := 142
abbrev ty_map_string_map_string_ptr_cred_Cred : TypeId := 154
abbrev ty_cred_Store : TypeId := 156
abbrev ty_iter_Seq_string : TypeId := 159
abbrev ty_sl_cred_Cred : TypeId := 161
abbrev ty_iter_Seq_ostiary_cred_Cred : TypeId := 164
abbrev ty_ptr_cred_Cred : TypeId := 179
abbrev ty_8_uint32 : TypeId := 183
abbrev ty_ostiaryref01_State : TypeId := 184
abbrev ty_ptr_strings_Builder : TypeId := 190
abbrev ty_strings_Builder : TypeId := 192
abbrev ty_error : TypeId := 194
abbrev ty_uint : TypeId := 196
abbrev ty_map_string_ptr_cred_Cred : TypeId := 201
abbrev ty_sha_state : TypeId := 212
abbrev ty_iter_Seq_sl_uint8 : TypeId := 214
abbrev ty_ptr_uint8 : TypeId := 237
abbrev ty_sl_ostiaryref04_Sign : TypeId := 238
abbrev ty_ostiaryref04_Sign : TypeId := 241
abbrev ty_ptr_sha_state : TypeId := 250
abbrev ty_64_uint32 : TypeId := 251
abbrev ty_ptr_hmac_Mac : TypeId := 254
abbrev ty_iter_Seq_int32 : TypeId := 263
abbrev ty_sl_name_span : TypeId := 266
abbrev ty_name_span : TypeId := 268
abbrev ty_9_name_span : TypeId := 269
abbrev ty_slices_sortedHint : TypeId := 274
abbrev ty_ptr_sha_Hash : TypeId := 284
abbrev ty_hmac_Mac : TypeId := 287
abbrev ty_iter_Seq2_int_int32 : TypeId := 294
abbrev ty_6_name_span : TypeId := 297
abbrev ty_5_name_span : TypeId := 298
abbrev ty_name_form : TypeId := 300
abbrev ty_4_name_form : TypeId := 301
abbrev ty_slices_xorshift : TypeId := 303
abbrev ty_ptr_int : TypeId := 306
abbrev ty_sha_Hash : TypeId := 309
abbrev ty_ptr_slices_xorshift : TypeId := 322
abbrev ty_runtime_TypeAssertionError : TypeId := 328
abbrev ty_0_ptr_runtime_PanicNilError : TypeId := 329
abbrev ty_runtime_PanicNilError : TypeId := 331
abbrev ty_abi_TFlag : TypeId := 332
abbrev ty_abi_Kind : TypeId := 333
abbrev ty_abi_NameOff : TypeId := 335
abbrev ty_abi_TypeOff : TypeId := 336
abbrev ty_abi_Type : TypeId := 338
theorem mixed : Tryz.prog.follows .mixedOrders = true := by kernel_rfl
/-- ostiary/ostiarylaw19.ProofDigests -/
noncomputable def cx_ostiarylaw19_ProofDigests (W0 : World) (S : Nat → Prop) (bs : List Nat := []) : Cx := ⟨Tryz.prog, W0, S, 109, [(3, ti3), (4, ti4), (5, ti5), (9, ti9), (22, ti22), (23, ti23), (25, ti25), (28, ti28), (30, ti30), (31, ti31), (33, ti33), (38, ti38), (41, ti41), (42, ti42), (45, ti45), (68, ti68), (70, ti70)], [11, 12, 13, 14, 15, 16, 17, 18, 19, 20], bs, none, []⟩
abbrev n_ostiarylaw19_ProofDigests : FuncId := 3
theorem b_ostiarylaw19_ProofDigests : Tryz.prog.funcs[n_ostiarylaw19_ProofDigests]? = some Tryz.f3 := Tryz.func3
def p_ostiarylaw19_ProofDigests_4 : Plan := .take 0 (.take 1 (.take 3 (.take 4 (.take 6 (.take 7 (.exec 2 (.take 9 (.exec 5 (.exec 8 (.brk 10 (.brk 11 (.brk 12 (.brk 13 (.brk 14 (.done)))))))))))))))
def p_ostiarylaw19_ProofDigests_9 : Plan := .take 0 (.take 1 (.take 2 (.take 3 (.take 5 (.take 6 (.take 7 (.take 8 (.exec 4 (.exec 9 (.exec 10 (.take 11 (.done))))))))))))
theorem good_ostiarylaw19_ProofDigests (W0 : World) (S : Nat → Prop) (bs : List Nat := []) : Good (cx_ostiarylaw19_ProofDigests W0 S bs) := ⟨List.forall_mem_cons.2 ⟨ok3, List.forall_mem_cons.2 ⟨ok4, List.forall_mem_cons.2 ⟨ok5, List.forall_mem_cons.2 ⟨ok9, List.forall_mem_cons.2 ⟨ok22, List.forall_mem_cons.2 ⟨ok23, List.forall_mem_cons.2 ⟨ok25, List.forall_mem_cons.2 ⟨ok28, List.forall_mem_cons.2 ⟨ok30, List.forall_mem_cons.2 ⟨ok31, List.forall_mem_cons.2 ⟨ok33, List.forall_mem_cons.2 ⟨ok38, List.forall_mem_cons.2 ⟨ok41, List.forall_mem_cons.2 ⟨ok42, List.forall_mem_cons.2 ⟨ok45, List.forall_mem_cons.2 ⟨ok68, List.forall_mem_cons.2 ⟨ok70, (fun _ h => by cases h)⟩⟩⟩⟩⟩⟩⟩⟩⟩⟩⟩⟩⟩⟩⟩⟩⟩, List.forall_mem_cons.2 ⟨by kernel_rfl, List.forall_mem_cons.2 ⟨by kernel_rfl, List.forall_mem_cons.2 ⟨by kernel_rfl, List.forall_mem_cons.2 ⟨by kernel_rfl, List.forall_mem_cons.2 ⟨by kernel_rfl, List.forall_mem_cons.2 ⟨by kernel_rfl, List.forall_mem_cons.2 ⟨by kernel_rfl, List.forall_mem_cons.2 ⟨by kernel_rfl, List.forall_mem_cons.2 ⟨by kernel_rfl, List.forall_mem_cons.2 ⟨by kernel_rfl, (fun _ h => by cases h)⟩⟩⟩⟩⟩⟩⟩⟩⟩⟩, mixed⟩
/-- ostiary/ostiarylaw14.CredMakes -/
noncomputable def cx_ostiarylaw14_CredMakes (W0 : World) (S : Nat → Prop) (bs : List Nat := []) : Cx := ⟨Tryz.prog, W0, S, 114, [(3, ti3), (4, ti4), (5, ti5), (9, ti9), (23, ti23), (28, ti28), (30, ti30), (31, ti31), (33, ti33), (41, ti41), (42, ti42), (45, ti45), (68, ti68), (70, ti70)], [12, 13, 15, 19, 20, 21, 22, 23, 24, 25, 26, 27], bs, none, []⟩
abbrev n_ostiarylaw14_CredMakes : FuncId := 4
theorem b_ostiarylaw14_CredMakes : Tryz.prog.funcs[n_ostiarylaw14_CredMakes]? = some Tryz.f4 := Tryz.func4
def p_ostiarylaw14_CredMakes_10 : Plan := .take 0 (.take 2 (.exec 1 (.exec 3 (.take 4 (.take 5 (.take 6 (.take 7 (.take 8 (.take 9 (.take 10 (.take 11 (.take 13 (.take 14 (.take 15 (.take 16 (.take 17 (.exec 12 (.take 18 (.take 19 (.take 20 (.take 21 (.take 22 (.exec 23 (.take 24 (.take 25 (.done))))))))))))))))))))))))))
def p_ostiarylaw14_CredMakes_14 : Plan := .take 0 (.take 2 (.exec 1 (.exec 3 (.take 4 (.take 5 (.take 6 (.take 7 (.take 8 (.done)))))))))
theorem good_ostiarylaw14_CredMakes (W0 : World) (S : Nat → Prop) (bs : List Nat := []) : Good (cx_ostiarylaw14_CredMakes W0 S bs) := ⟨List.forall_mem_cons.2 ⟨ok3, List.forall_mem_cons.2 ⟨ok4, List.forall_mem_cons.2 ⟨ok5, List.forall_mem_cons.2 ⟨ok9, List.forall_mem_cons.2 ⟨ok23, List.forall_mem_cons.2 ⟨ok28, List.forall_mem_cons.2 ⟨ok30, List.forall_mem_cons.2 ⟨ok31, List.forall_mem_cons.2 ⟨ok33, List.forall_mem_cons.2 ⟨ok41, List.forall_mem_cons.2 ⟨ok42, List.forall_mem_cons.2 ⟨ok45, List.forall_mem_cons.2 ⟨ok68, List.forall_mem_cons.2 ⟨ok70, (fun _ h => by cases h)⟩⟩⟩⟩⟩⟩⟩⟩⟩⟩⟩⟩⟩⟩, List.forall_mem_cons.2 ⟨by kernel_rfl, List.forall_mem_cons.2 ⟨by kernel_rfl, List.forall_mem_cons.2 ⟨by kernel_rfl, List.forall_mem_cons.2 ⟨by kernel_rfl, List.forall_mem_cons.2 ⟨by kernel_rfl, List.forall_mem_cons.2 ⟨by kernel_rfl, List.forall_mem_cons.2 ⟨by kernel_rfl, List.forall_mem_cons.2 ⟨by kernel_rfl, List.forall_mem_cons.2 ⟨by kernel_rfl, List.forall_mem_cons.2 ⟨by kernel_rfl, List.forall_mem_cons.2 ⟨by kernel_rfl, List.forall_mem_cons.2 ⟨by kernel_rfl, (fun _ h => by cases h)⟩⟩⟩⟩⟩⟩⟩⟩⟩⟩⟩⟩, mixed⟩
/-- ostiary/ostiarylaw05.BoxTurns -/
noncomputable def cx_ostiarylaw05_BoxTurns (W0 : World) (S : Nat → Prop) (bs : List Nat := []) : Cx := ⟨Tryz.prog, W0, S, 127, [(3, ti3), (4, ti4), (5, ti5), (23, ti23), (28, ti28), (30, ti30), (31, ti31), (33, ti33), (42, ti42), (56, ti56), (57, ti57), (58, ti58), (60, ti60), (62, ti62), (68, ti68), (70, ti70)], [13, 15, 28, 29, 30, 31], bs, none, []⟩
abbrev n_ostiarylaw05_BoxTurns : FuncId := 5
theorem b_ostiarylaw05_BoxTurns : Tryz.prog.funcs[n_ostiarylaw05_BoxTurns]? = some Tryz.f5 := Tryz.func5
theorem good_ostiarylaw05_BoxTurns (W0 : World) (S : Nat → Prop) (bs : List Nat := []) : Good (cx_ostiarylaw05_BoxTurns W0 S bs) := ⟨List.forall_mem_cons.2 ⟨ok3, List.forall_mem_cons.2 ⟨ok4, List.forall_mem_cons.2 ⟨ok5, List.forall_mem_cons.2 ⟨ok23, List.forall_mem_cons.2 ⟨ok28, List.forall_mem_cons.2 ⟨ok30, List.forall_mem_cons.2 ⟨ok31, List.forall_mem_cons.2 ⟨ok33, List.forall_mem_cons.2 ⟨ok42, List.forall_mem_cons.2 ⟨ok56, List.forall_mem_cons.2 ⟨ok57, List.forall_mem_cons.2 ⟨ok58, List.forall_mem_cons.2 ⟨ok60, List.forall_mem_cons.2 ⟨ok62, List.forall_mem_cons.2 ⟨ok68, List.forall_mem_cons.2 ⟨ok70, (fun _ h => by cases h)⟩⟩⟩⟩⟩⟩⟩⟩⟩⟩⟩⟩⟩⟩⟩⟩, List.forall_mem_cons.2 ⟨by kernel_rfl, List.forall_mem_cons.2 ⟨by kernel_rfl, List.forall_mem_cons.2 ⟨by kernel_rfl, List.forall_mem_cons.2 ⟨by kernel_rfl, List.forall_mem_cons.2 ⟨by kernel_rfl, List.forall_mem_cons.2 ⟨by kernel_rfl, (fun _ h => by cases h)⟩⟩⟩⟩⟩⟩, mixed⟩
/-- ostiary/ostiarylaw05.BoxOpaque -/
noncomputable def cx_ostiarylaw05_BoxOpaque (W0 : World) (S : Nat → Prop) (bs : List Nat := []) : Cx := ⟨Tryz.prog, W0, S, 85, [(3, ti3), (4, ti4), (5, ti5), (23, ti23), (28, ti28), (30, ti30), (31, ti31), (33, ti33), (56, ti56), (57, ti57), (58, ti58), (60, ti60), (62, ti62), (68, ti68), (70, ti70)], [13, 26, 28, 29, 32, 33, 34, 35], bs, none, []⟩
abbrev n_ostiarylaw05_BoxOpaque : FuncId := 6
theorem b_ostiarylaw05_BoxOpaque : Tryz.prog.funcs[n_ostiarylaw05_BoxOpaque]? = some Tryz.f6 := Tryz.func6
theorem good_ostiarylaw05_BoxOpaque (W0 : World) (S : Nat → Prop) (bs : List Nat := []) : Good (cx_ostiarylaw05_BoxOpaque W0 S bs) := ⟨List.forall_mem_cons.2 ⟨ok3, List.forall_mem_cons.2 ⟨ok4, List.forall_mem_cons.2 ⟨ok5, List.forall_mem_cons.2 ⟨ok23, List.forall_mem_cons.2 ⟨ok28, List.forall_mem_cons.2 ⟨ok30, List.forall_mem_cons.2 ⟨ok31, List.forall_mem_cons.2 ⟨ok33, List.forall_mem_cons.2 ⟨ok56, List.forall_mem_cons.2 ⟨ok57, List.forall_mem_cons.2 ⟨ok58, List.forall_mem_cons.2 ⟨ok60, List.forall_mem_cons.2 ⟨ok62, List.forall_mem_cons.2 ⟨ok68, List.forall_mem_cons.2 ⟨ok70, (fun _ h => by cases h)⟩⟩⟩⟩⟩⟩⟩⟩⟩⟩⟩⟩⟩⟩⟩, List.forall_mem_cons.2 ⟨by kernel_rfl, List.forall_mem_cons.2 ⟨by kernel_rfl, List.forall_mem_cons.2 ⟨by kernel_rfl, List.forall_mem_cons.2 ⟨by kernel_rfl, List.forall_mem_cons.2 ⟨by kernel_rfl, List.forall_mem_cons.2 ⟨by kernel_rfl, List.forall_mem_cons.2 ⟨by kernel_rfl, List.forall_mem_cons.2 ⟨by kernel_rfl, (fun _ h => by cases h)⟩⟩⟩⟩⟩⟩⟩⟩, mixed⟩
/-- ostiary/ostiarylaw19.ProofChecks -/
noncomputable def cx_ostiarylaw19_ProofChecks (W0 : World) (S : Nat → Prop) (bs : List Nat := []) : Cx := ⟨Tryz.prog, W0, S, 81, [(3, ti3), (4, ti4), (5, ti5), (9, ti9), (23, ti23), (28, ti28), (30, ti30), (31, ti31), (33, ti33), (41, ti41), (42, ti42), (45, ti45), (68, ti68), (70, ti70)], [11, 12, 13, 15, 22, 23, 26, 36, 37, 38, 39, 40], bs, none, []⟩
abbrev n_ostiarylaw19_ProofChecks : FuncId := 7
theorem b_ostiarylaw19_ProofChecks : Tryz.prog.funcs[n_ostiarylaw19_ProofChecks]? = some Tryz.f7 := Tryz.func7
def p_ostiarylaw19_ProofChecks_6 : Plan := .take 0 (.take 1 (.take 2 (.take 3 (.take 5 (.take 7 (.take 8 (.take 9 (.take 10 (.alt 4 (.alt 6 (.exec 11 (.exec 12 (.exec 13 (.take 14 (.take 15 (.done)))))) (.exec 11 (.exec 6 (.exec 12 (.exec 13 (.take 14 (.take 15 (.done)))))))) (.exec 11 (.exec 4 (.exec 6 (.exec 12 (.exec 13 (.take 14 (.take 15 (.done)))))))))))))))))
def p_ostiarylaw19_ProofChecks_9 : Plan := .take 0 (.take 1 (.take 2 (.take 3 (.take 4 (.exec 5 (.take 6 (.take 7 (.take 8 (.take 9 (.exec 10 (.take 11 (.take 12 (.take 13 (.take 15 (.take 16 (.take 17 (.take 18 (.take 19 (.exec 14 (.take 20 (.take 21 (.take 22 (.take 23 (.take 24 (.take 25 (.exec 26 (.take 27 (.take 28 (.take 29 (.done))))))))))))))))))))))))))))))
theorem good_ostiarylaw19_ProofChecks (W0 : World) (S : Nat → Prop) (bs : List Nat := []) : Good (cx_ostiarylaw19_ProofChecks W0 S bs) := ⟨List.forall_mem_cons.2 ⟨ok3, List.forall_mem_cons.2 ⟨ok4, List.forall_mem_cons.2 ⟨ok5, List.forall_mem_cons.2 ⟨ok9, List.forall_mem_cons.2 ⟨ok23, List.forall_mem_cons.2 ⟨ok28, List.forall_mem_cons.2 ⟨ok30, List.forall_mem_cons.2 ⟨ok31, List.forall_mem_cons.2 ⟨ok33, List.forall_mem_cons.2 ⟨ok41, List.forall_mem_cons.2 ⟨ok42, List.forall_mem_cons.2 ⟨ok45, List.forall_mem_cons.2 ⟨ok68, List.forall_mem_cons.2 ⟨ok70, (fun _ h => by cases h)⟩⟩⟩⟩⟩⟩⟩⟩⟩⟩⟩⟩⟩⟩, List.forall_mem_cons.2 ⟨by kernel_rfl, List.forall_mem_cons.2 ⟨by kernel_rfl, List.forall_mem_cons.2 ⟨by kernel_rfl, List.forall_mem_cons.2 ⟨by kernel_rfl, List.forall_mem_cons.2 ⟨by kernel_rfl, List.forall_mem_cons.2 ⟨by kernel_rfl, List.forall_mem_cons.2 ⟨by kernel_rfl, List.forall_mem_cons.2 ⟨by kernel_rfl, List.forall_mem_cons.2 ⟨by kernel_rfl, List.forall_mem_cons.2 ⟨by kernel_rfl, List.forall_mem_cons.2 ⟨by kernel_rfl, List.forall_mem_cons.2 ⟨by kernel_rfl, (fun _ h => by cases h)⟩⟩⟩⟩⟩⟩⟩⟩⟩⟩⟩⟩, mixed⟩
/-- ostiary/ostiarylaw05.BoxPlays -/
noncomputable def cx_ostiarylaw05_BoxPlays (W0 : World) (S : Nat → Prop) (bs : List Nat := []) : Cx := ⟨Tryz.prog, W0, S, 33, [(3, ti3), (4, ti4), (5, ti5), (23, ti23), (28, ti28), (30, ti30), (31, ti31), (33, ti33), (56, ti56), (57, ti57), (58, ti58), (60, ti60), (62, ti62), (68, ti68), (70, ti70)], [13, 28, 29, 41], bs, none, []⟩
abbrev n_ostiarylaw05_BoxPlays : FuncId := 8
theorem b_ostiarylaw05_BoxPlays : Tryz.prog.funcs[n_ostiarylaw05_BoxPlays]? = some Tryz.f8 := Tryz.func8
theorem good_ostiarylaw05_BoxPlays (W0 : World) (S : Nat → Prop) (bs : List Nat := []) : Good (cx_ostiarylaw05_BoxPlays W0 S bs) := ⟨List.forall_mem_cons.2 ⟨ok3, List.forall_mem_cons.2 ⟨ok4, List.forall_mem_cons.2 ⟨ok5, List.forall_mem_cons.2 ⟨ok23, List.forall_mem_cons.2 ⟨ok28, List.forall_mem_cons.2 ⟨ok30, List.forall_mem_cons.2 ⟨ok31, List.forall_mem_cons.2 ⟨ok33, List.forall_mem_cons.2 ⟨ok56, List.forall_mem_cons.2 ⟨ok57, List.forall_mem_cons.2 ⟨ok58, List.forall_mem_cons.2 ⟨ok60, List.forall_mem_cons.2 ⟨ok62, List.forall_mem_cons.2 ⟨ok68, List.forall_mem_cons.2 ⟨ok70, (fun _ h => by cases h)⟩⟩⟩⟩⟩⟩⟩⟩⟩⟩⟩⟩⟩⟩⟩, List.forall_mem_cons.2 ⟨by kernel_rfl, List.forall_mem_cons.2 ⟨by kernel_rfl, List.forall_mem_cons.2 ⟨by kernel_rfl, List.forall_mem_cons.2 ⟨by kernel_rfl, (fun _ h => by cases h)⟩⟩⟩⟩, mixed⟩
/-- ostiary/ostiarylaw05.BoxTerms -/
noncomputable def cx_ostiarylaw05_BoxTerms (W0 : World) (S : Nat → Prop) (bs : List Nat := []) : Cx := ⟨Tryz.prog, W0, S, 156, [(3, ti3), (4, ti4), (5, ti5), (23, ti23), (28, ti28), (30, ti30), (31, ti31), (33, ti33), (42, ti42), (56, ti56), (57, ti57), (58, ti58), (60, ti60), (62, ti62), (68, ti68), (70, ti70), (84, ti84)], [13, 26, 27, 28, 29, 31, 32, 33, 34, 35, 41, 42, 43, 44, 45, 46], bs, none, []⟩
abbrev n_ostiarylaw05_BoxTerms : FuncId := 9
theorem b_ostiarylaw05_BoxTerms : Tryz.prog.funcs[n_ostiarylaw05_BoxTerms]? = some Tryz.f9 := Tryz.func9
def p_ostiarylaw05_BoxTerms_16 : Plan := .take 0 (.take 1 (.take 2 (.take 3 (.take 4 (.take 5 (.take 7 (.take 8 (.take 9 (.take 10 (.take 11 (.take 12 (.take 13 (.take 14 (.take 15 (.take 16 (.exec 6 (.exec 17 (.take 18 (.take 19 (.done))))))))))))))))))))
def p_ostiarylaw05_BoxTerms_26 : Plan := .take 0 (.take 1 (.take 2 (.take 3 (.take 4 (.take 5 (.take 6 (.take 7 (.take 8 (.take 9 (.take 10 (.take 11 (.take 12 (.take 13 (.exec 14 (.take 15 (.take 16 (.take 17 (.exec 18 (.take 19 (.take 20 (.take 21 (.take 22 (.take 23 (.exec 24 (.take 25 (.take 26 (.take 27 (.take 28 (.take 29 (.take 30 (.take 31 (.take 32 (.take 33 (.take 34 (.take 35 (.take 36 (.take 37 (.take 38 (.take 39 (.take 40 (.take 41 (.exec 42 (.take 43 (.take 44 (.take 45 (.take 46 (.exec 47 (.take 48 (.take 49 (.take 50 (.take 51 (.exec 52 (.take 53 (.take 54 (.exec 55 (.done))))))))))))))))))))))))))))))))))))))))))))))))))))))))
theorem good_ostiarylaw05_BoxTerms (W0 : World) (S : Nat → Prop) (bs : List Nat := []) : Good (cx_ostiarylaw05_BoxTerms W0 S bs) := ⟨List.forall_mem_cons.2 ⟨ok3, List.forall_mem_cons.2 ⟨ok4, List.forall_mem_cons.2 ⟨ok5, List.forall_mem_cons.2 ⟨ok23, List.forall_mem_cons.2 ⟨ok28, List.forall_mem_cons.2 ⟨ok30, List.forall_mem_cons.2 ⟨ok31, List.forall_mem_cons.2 ⟨ok33, List.forall_mem_cons.2 ⟨ok42, List.forall_mem_cons.2 ⟨ok56, List.forall_mem_cons.2 ⟨ok57, List.forall_mem_cons.2 ⟨ok58, List.forall_mem_cons.2 ⟨ok60, List.forall_mem_cons.2 ⟨ok62, List.forall_mem_cons.2 ⟨ok68, List.forall_mem_cons.2 ⟨ok70, List.forall_mem_cons.2 ⟨ok84, (fun _ h => by cases h)⟩⟩⟩⟩⟩⟩⟩⟩⟩⟩⟩⟩⟩⟩⟩⟩⟩, List.forall_mem_cons.2 ⟨by kernel_rfl, List.forall_mem_cons.2 ⟨by kernel_rfl, List.forall_mem_cons.2 ⟨by kernel_rfl, List.forall_mem_cons.2 ⟨by kernel_rfl, List.forall_mem_cons.2 ⟨by kernel_rfl, List.forall_mem_cons.2 ⟨by kernel_rfl, List.forall_mem_cons.2 ⟨by kernel_rfl, List.forall_mem_cons.2 ⟨by kernel_rfl, List.forall_mem_cons.2 ⟨by kernel_rfl, List.forall_mem_cons.2 ⟨by kernel_rfl, List.forall_mem_cons.2 ⟨by kernel_rfl, List.forall_mem_cons.2 ⟨by kernel_rfl, List.forall_mem_cons.2 ⟨by kernel_rfl, List.forall_mem_cons.2 ⟨by kernel_rfl, List.forall_mem_cons.2 ⟨by kernel_rfl, List.forall_mem_cons.2 ⟨by kernel_rfl, (fun _ h => by cases h)⟩⟩⟩⟩⟩⟩⟩⟩⟩⟩⟩⟩⟩⟩⟩⟩, mixed⟩
/-- ostiary/ostiarylaw14.CredGens -/
noncomputable def cx_ostiarylaw14_CredGens (W0 : World) (S : Nat → Prop) (bs : List Nat := []) : Cx := ⟨Tryz.prog, W0, S, 159, [(3, ti3), (4, ti4), (5, ti5), (9, ti9), (23, ti23), (41, ti41), (45, ti45), (91, ti91), (92, ti92), (94, ti94), (95, ti95), (96, ti96), (97, ti97), (99, ti99), (100, ti100), (102, ti102), (104, ti104), (108, ti108), (113, ti113)], [21, 47, 48, 49, 50, 51, 52, 53], bs, none, []⟩
abbrev n_ostiarylaw14_CredGens : FuncId := 10
theorem b_ostiarylaw14_CredGens : Tryz.prog.funcs[n_ostiarylaw14_CredGens]? = some Tryz.f10 := Tryz.func10
def p_ostiarylaw14_CredGens_18 : Plan := .take 0 (.take 1 (.take 2 (.take 3 (.take 4 (.take 5 (.take 6 (.take 7 (.take 8 (.take 9 (.exec 10 (.take 11 (.take 12 (.done)))))))))))))
theorem good_ostiarylaw14_CredGens (W0 : World) (S : Nat → Prop) (bs : List Nat := []) : Good (cx_ostiarylaw14_CredGens W0 S bs) := ⟨List.forall_mem_cons.2 ⟨ok3, List.forall_mem_cons.2 ⟨ok4, List.forall_mem_cons.2 ⟨ok5, List.forall_mem_cons.2 ⟨ok9, List.forall_mem_cons.2 ⟨ok23, List.forall_mem_cons.2 ⟨ok41, List.forall_mem_cons.2 ⟨ok45, List.forall_mem_cons.2 ⟨ok91, List.forall_mem_cons.2 ⟨ok92, List.forall_mem_cons.2 ⟨ok94, List.forall_mem_cons.2 ⟨ok95, List.forall_mem_cons.2 ⟨ok96, List.forall_mem_cons.2 ⟨ok97, List.forall_mem_cons.2 ⟨ok99, List.forall_mem_cons.2 ⟨ok100, List.forall_mem_cons.2 ⟨ok102, List.forall_mem_cons.2 ⟨ok104, List.forall_mem_cons.2 ⟨ok108, List.forall_mem_cons.2 ⟨ok113, (fun _ h => by cases h)⟩⟩⟩⟩⟩⟩⟩⟩⟩⟩⟩⟩⟩⟩⟩⟩⟩⟩⟩, List.forall_mem_cons.2 ⟨by kernel_rfl, List.forall_mem_cons.2 ⟨by kernel_rfl, List.forall_mem_cons.2 ⟨by kernel_rfl, List.forall_mem_cons.2 ⟨by kernel_rfl, List.forall_mem_cons.2 ⟨by kernel_rfl, List.forall_mem_cons.2 ⟨by kernel_rfl, List.forall_mem_cons.2 ⟨by kernel_rfl, List.forall_mem_cons.2 ⟨by kernel_rfl, (fun _ h => by cases h)⟩⟩⟩⟩⟩⟩⟩⟩, mixed⟩
/-- ostiary/ostiarylaw19.awake -/
noncomputable def cx_ostiarylaw19_awake (W0 : World) (S : Nat → Prop) (bs : List Nat := []) : Cx := ⟨Tryz.prog, W0, S, 20, [(3, ti3), (4, ti4), (5, ti5), (9, ti9), (22, ti22), (23, ti23), (28, ti28), (38, ti38)], [13, 14, 15, 17], bs, none, []⟩
abbrev n_ostiarylaw19_awake : FuncId := 11
theorem b_ostiarylaw19_awake : Tryz.prog.funcs[n_ostiarylaw19_awake]? = some Tryz.f11 := Tryz.func11
def p_ostiarylaw19_awake_3 : Plan := .take 0 (.take 1 (.take 3 (.exec 2 (.exec 4 (.take 5 (.done))))))
theorem good_ostiarylaw19_awake (W0 : World) (S : Nat → Prop) (bs : List Nat := []) : Good (cx_ostiarylaw19_awake W0 S bs) := ⟨List.forall_mem_cons.2 ⟨ok3, List.forall_mem_cons.2 ⟨ok4, List.forall_mem_cons.2 ⟨ok5, List.forall_mem_cons.2 ⟨ok9, List.forall_mem_cons.2 ⟨ok22, List.forall_mem_cons.2 ⟨ok23, List.forall_mem_cons.2 ⟨ok28, List.forall_mem_cons.2 ⟨ok38, (fun _ h => by cases h)⟩⟩⟩⟩⟩⟩⟩⟩, List.forall_mem_cons.2 ⟨by kernel_rfl, List.forall_mem_cons.2 ⟨by kernel_rfl, List.forall_mem_cons.2 ⟨by kernel_rfl, List.forall_mem_cons.2 ⟨by kernel_rfl, (fun _ h => by cases h)⟩⟩⟩⟩, mixed⟩
/-- ostiary/ostiaryref01.CutText -/
noncomputable def cx_ostiaryref01_CutText (W0 : World) (S : Nat → Prop) (bs : List Nat := []) : Cx := ⟨Tryz.prog, W0, S, 11, [(3, ti3), (9, ti9)], [], bs, none, []⟩
abbrev n_ostiaryref01_CutText : FuncId := 12
theorem b_ostiaryref01_CutText : Tryz.prog.funcs[n_ostiaryref01_CutText]? = some Tryz.f12 := Tryz.func12
theorem good_ostiaryref01_CutText (W0 : World) (S : Nat → Prop) (bs : List Nat := []) : Good (cx_ostiaryref01_CutText W0 S bs) := ⟨List.forall_mem_cons.2 ⟨ok3, List.forall_mem_cons.2 ⟨ok9, (fun _ h => by cases h)⟩⟩, (fun _ h => by cases h), mixed⟩
/-- ostiary/box.New -/
noncomputable def cx_box_New (W0 : World) (S : Nat → Prop) (bs : List Nat := []) : Cx := ⟨Tryz.prog, W0, S, 7, [(3, ti3), (4, ti4), (5, ti5), (9, ti9), (23, ti23), (68, ti68), (84, ti84), (118, ti118), (119, ti119), (121, ti121)], [], bs, none, []⟩
abbrev n_box_New : FuncId := 13
theorem b_box_New : Tryz.prog.funcs[n_box_New]? = some Tryz.f13 := Tryz.func13
theorem good_box_New (W0 : World) (S : Nat → Prop) (bs : List Nat := []) : Good (cx_box_New W0 S bs) := ⟨List.forall_mem_cons.2 ⟨ok3, List.forall_mem_cons.2 ⟨ok4, List.forall_mem_cons.2 ⟨ok5, List.forall_mem_cons.2 ⟨ok9, List.forall_mem_cons.2 ⟨ok23, List.forall_mem_cons.2 ⟨ok68, List.forall_mem_cons.2 ⟨ok84, List.forall_mem_cons.2 ⟨ok118, List.forall_mem_cons.2 ⟨ok119, List.forall_mem_cons.2 ⟨ok121, (fun _ h => by cases h)⟩⟩⟩⟩⟩⟩⟩⟩⟩⟩, (fun _ h => by cases h), mixed⟩
/-- ostiary/proof.HA1 -/
noncomputable def cx_proof_HA1 (W0 : World) (S : Nat → Prop) (bs : List Nat := []) : Cx := ⟨Tryz.prog, W0, S, 17, [(5, ti5), (9, ti9), (23, ti23), (28, ti28), (58, ti58), (95, ti95)], [33, 54], bs, none, []⟩
abbrev n_proof_HA1 : FuncId := 14
theorem b_proof_HA1 : Tryz.prog.funcs[n_proof_HA1]? = some Tryz.f14 := Tryz.func14
theorem good_proof_HA1 (W0 : World) (S : Nat → Prop) (bs : List Nat := []) : Good (cx_proof_HA1 W0 S bs) := ⟨List.forall_mem_cons.2 ⟨ok5, List.forall_mem_cons.2 ⟨ok9, List.forall_mem_cons.2 ⟨ok23, List.forall_mem_cons.2 ⟨ok28, List.forall_mem_cons.2 ⟨ok58, List.forall_mem_cons.2 ⟨ok95, (fun _ h => by cases h)⟩⟩⟩⟩⟩⟩, List.forall_mem_cons.2 ⟨by kernel_rfl, List.forall_mem_cons.2 ⟨by kernel_rfl, (fun _ h => by cases h)⟩⟩, mixed⟩
/-- ostiary/ostiaryref01.Same -/
noncomputable def cx_ostiaryref01_Same (W0 : World) (S : Nat → Prop) (bs : List Nat := []) : Cx := ⟨Tryz.prog, W0, S, 10, [(5, ti5), (9, ti9), (23, ti23)], [], bs, none, []⟩
abbrev n_ostiaryref01_Same : FuncId := 15
theorem b_ostiaryref01_Same : Tryz.prog.funcs[n_ostiaryref01_Same]? = some Tryz.f15 := Tryz.func15
theorem good_ostiaryref01_Same (W0 : World) (S : Nat → Prop) (bs : List Nat := []) : Good (cx_ostiaryref01_Same W0 S bs) := ⟨List.forall_mem_cons.2 ⟨ok5, List.forall_mem_cons.2 ⟨ok9, List.forall_mem_cons.2 ⟨ok23, (fun _ h => by cases h)⟩⟩⟩, (fun _ h => by cases h), mixed⟩
/-- ostiary/ostiaryref05.Hash -/
noncomputable def cx_ostiaryref05_Hash (W0 : World) (S : Nat → Prop) (bs : List Nat := []) : Cx := ⟨Tryz.prog, W0, S, 16, [(3, ti3), (4, ti4), (5, ti5), (23, ti23), (30, ti30), (31, ti31), (33, ti33), (68, ti68), (70, ti70)], [23, 55, 56], bs, none, []⟩
abbrev n_ostiaryref05_Hash : FuncId := 16
theorem b_ostiaryref05_Hash : Tryz.prog.funcs[n_ostiaryref05_Hash]? = some Tryz.f16 := Tryz.func16
theorem good_ostiaryref05_Hash (W0 : World) (S : Nat → Prop) (bs : List Nat := []) : Good (cx_ostiaryref05_Hash W0 S bs) := ⟨List.forall_mem_cons.2 ⟨ok3, List.forall_mem_cons.2 ⟨ok4, List.forall_mem_cons.2 ⟨ok5, List.forall_mem_cons.2 ⟨ok23, List.forall_mem_cons.2 ⟨ok30, List.forall_mem_cons.2 ⟨ok31, List.forall_mem_cons.2 ⟨ok33, List.forall_mem_cons.2 ⟨ok68, List.forall_mem_cons.2 ⟨ok70, (fun _ h => by cases h)⟩⟩⟩⟩⟩⟩⟩⟩⟩, List.forall_mem_cons.2 ⟨by kernel_rfl, List.forall_mem_cons.2 ⟨by kernel_rfl, List.forall_mem_cons.2 ⟨by kernel_rfl, (fun _ h => by cases h)⟩⟩⟩, mixed⟩
/-- ostiary/proof.Response -/
noncomputable def cx_proof_Response (W0 : World) (S : Nat → Prop) (bs : List Nat := []) : Cx := ⟨Tryz.prog, W0, S, 34, [(5, ti5), (9, ti9), (22, ti22), (23, ti23), (28, ti28), (38, ti38), (58, ti58), (95, ti95)], [33, 54, 57, 58], bs, none, []⟩
abbrev n_proof_Response : FuncId := 17
theorem b_proof_Response : Tryz.prog.funcs[n_proof_Response]? = some Tryz.f17 := Tryz.func17
def p_proof_Response_2 : Plan := .take 0 (.take 1 (.take 3 (.take 4 (.take 5 (.take 6 (.take 8 (.take 9 (.take 10 (.exec 2 (.exec 7 (.exec 11 (.exec 12 (.exec 13 (.exec 14 (.exec 15 (.take 16 (.done)))))))))))))))))
theorem good_proof_Response (W0 : World) (S : Nat → Prop) (bs : List Nat := []) : Good (cx_proof_Response W0 S bs) := ⟨List.forall_mem_cons.2 ⟨ok5, List.forall_mem_cons.2 ⟨ok9, List.forall_mem_cons.2 ⟨ok22, List.forall_mem_cons.2 ⟨ok23, List.forall_mem_cons.2 ⟨ok28, List.forall_mem_cons.2 ⟨ok38, List.forall_mem_cons.2 ⟨ok58, List.forall_mem_cons.2 ⟨ok95, (fun _ h => by cases h)⟩⟩⟩⟩⟩⟩⟩⟩, List.forall_mem_cons.2 ⟨by kernel_rfl, List.forall_mem_cons.2 ⟨by kernel_rfl, List.forall_mem_cons.2 ⟨by kernel_rfl, List.forall_mem_cons.2 ⟨by kernel_rfl, (fun _ h => by cases h)⟩⟩⟩⟩, mixed⟩
/-- ostiary/ostiaryref19.Response -/
noncomputable def cx_ostiaryref19_Response (W0 : World) (S : Nat → Prop) (bs : List Nat := []) : Cx := ⟨Tryz.prog, W0, S, 42, [(3, ti3), (5, ti5), (9, ti9), (22, ti22), (23, ti23), (25, ti25), (30, ti30), (97, ti97)], [16, 59, 60], bs, none, []⟩
abbrev n_ostiaryref19_Response : FuncId := 18
theorem b_ostiaryref19_Response : Tryz.prog.funcs[n_ostiaryref19_Response]? = some Tryz.f18 := Tryz.func18
def p_ostiaryref19_Response_2 : Plan := .take 0 (.take 1 (.take 4 (.take 5 (.take 8 (.take 9 (.take 10 (.take 15 (.take 16 (.take 19 (.exec 2 (.take 3 (.take 6 (.take 7 (.exec 11 (.exec 12 (.take 13 (.take 14 (.take 17 (.take 18 (.exec 20 (.take 21 (.exec 22 (.exec 23 (.take 24 (.done)))))))))))))))))))))))))
theorem good_ostiaryref19_Response (W0 : World) (S : Nat → Prop) (bs : List Nat := []) : Good (cx_ostiaryref19_Response W0 S bs) := ⟨List.forall_mem_cons.2 ⟨ok3, List.forall_mem_cons.2 ⟨ok5, List.forall_mem_cons.2 ⟨ok9, List.forall_mem_cons.2 ⟨ok22, List.forall_mem_cons.2 ⟨ok23, List.forall_mem_cons.2 ⟨ok25, List.forall_mem_cons.2 ⟨ok30, List.forall_mem_cons.2 ⟨ok97, (fun _ h => by cases h)⟩⟩⟩⟩⟩⟩⟩⟩, List.forall_mem_cons.2 ⟨by kernel_rfl, List.forall_mem_cons.2 ⟨by kernel_rfl, List.forall_mem_cons.2 ⟨by kernel_rfl, (fun _ h => by cases h)⟩⟩⟩, mixed⟩
/-- ostiary/cred.Make -/
noncomputable def cx_cred_Make (W0 : World) (S : Nat → Prop) (bs : List Nat := []) : Cx := ⟨Tryz.prog, W0, S, 91, [(3, ti3), (5, ti5), (9, ti9), (23, ti23), (28, ti28), (41, ti41), (42, ti42), (58, ti58)], [33, 44, 46, 61, 62, 63, 64, 65], bs, none, []⟩
abbrev n_cred_Make : FuncId := 19
theorem b_cred_Make : Tryz.prog.funcs[n_cred_Make]? = some Tryz.f19 := Tryz.func19
theorem good_cred_Make (W0 : World) (S : Nat → Prop) (bs : List Nat := []) : Good (cx_cred_Make W0 S bs) := ⟨List.forall_mem_cons.2 ⟨ok3, List.forall_mem_cons.2 ⟨ok5, List.forall_mem_cons.2 ⟨ok9, List.forall_mem_cons.2 ⟨ok23, List.forall_mem_cons.2 ⟨ok28, List.forall_mem_cons.2 ⟨ok41, List.forall_mem_cons.2 ⟨ok42, List.forall_mem_cons.2 ⟨ok58, (fun _ h => by cases h)⟩⟩⟩⟩⟩⟩⟩⟩, List.forall_mem_cons.2 ⟨by kernel_rfl, List.forall_mem_cons.2 ⟨by kernel_rfl, List.forall_mem_cons.2 ⟨by kernel_rfl, List.forall_mem_cons.2 ⟨by kernel_rfl, List.forall_mem_cons.2 ⟨by kernel_rfl, List.forall_mem_cons.2 ⟨by kernel_rfl, List.forall_mem_cons.2 ⟨by kernel_rfl, List.forall_mem_cons.2 ⟨by kernel_rfl, (fun _ h => by cases h)⟩⟩⟩⟩⟩⟩⟩⟩, mixed⟩
/-- ostiary/ostiaryref14.Make -/
noncomputable def cx_ostiaryref14_Make (W0 : World) (S : Nat → Prop) (bs : List Nat := []) : Cx := ⟨Tryz.prog, W0, S, 84, [(3, ti3), (5, ti5), (9, ti9), (23, ti23), (30, ti30), (45, ti45)], [16, 23, 38, 66, 67, 68, 69], bs, none, []⟩
abbrev n_ostiaryref14_Make : FuncId := 20
theorem b_ostiaryref14_Make : Tryz.prog.funcs[n_ostiaryref14_Make]? = some Tryz.f20 := Tryz.func20
theorem good_ostiaryref14_Make (W0 : World) (S : Nat → Prop) (bs : List Nat := []) : Good (cx_ostiaryref14_Make W0 S bs) := ⟨List.forall_mem_cons.2 ⟨ok3, List.forall_mem_cons.2 ⟨ok5, List.forall_mem_cons.2 ⟨ok9, List.forall_mem_cons.2 ⟨ok23, List.forall_mem_cons.2 ⟨ok30, List.forall_mem_cons.2 ⟨ok45, (fun _ h => by cases h)⟩⟩⟩⟩⟩⟩, List.forall_mem_cons.2 ⟨by kernel_rfl, List.forall_mem_cons.2 ⟨by kernel_rfl, List.forall_mem_cons.2 ⟨by kernel_rfl, List.forall_mem_cons.2 ⟨by kernel_rfl, List.forall_mem_cons.2 ⟨by kernel_rfl, List.forall_mem_cons.2 ⟨by kernel_rfl, List.forall_mem_cons.2 ⟨by kernel_rfl, (fun _ h => by cases h)⟩⟩⟩⟩⟩⟩⟩, mixed⟩
/-- ostiary/ostiarylaw14.awake -/
noncomputable def cx_ostiarylaw14_awake (W0 : World) (S : Nat → Prop) (bs : List Nat := []) : Cx := ⟨Tryz.prog, W0, S, 58, [(3, ti3), (4, ti4), (5, ti5), (9, ti9), (23, ti23), (41, ti41), (42, ti42), (92, ti92), (95, ti95), (97, ti97), (113, ti113)], [47, 50, 52, 53, 70, 71, 72, 73, 74], bs, none, []⟩
abbrev n_ostiarylaw14_awake : FuncId := 21
theorem b_ostiarylaw14_awake : Tryz.prog.funcs[n_ostiarylaw14_awake]? = some Tryz.f21 := Tryz.func21
theorem good_ostiarylaw14_awake (W0 : World) (S : Nat → Prop) (bs : List Nat := []) : Good (cx_ostiarylaw14_awake W0 S bs) := ⟨List.forall_mem_cons.2 ⟨ok3, List.forall_mem_cons.2 ⟨ok4, List.forall_mem_cons.2 ⟨ok5, List.forall_mem_cons.2 ⟨ok9, List.forall_mem_cons.2 ⟨ok23, List.forall_mem_cons.2 ⟨ok41, List.forall_mem_cons.2 ⟨ok42, List.forall_mem_cons.2 ⟨ok92, List.forall_mem_cons.2 ⟨ok95, List.forall_mem_cons.2 ⟨ok97, List.forall_mem_cons.2 ⟨ok113, (fun _ h => by cases h)⟩⟩⟩⟩⟩⟩⟩⟩⟩⟩⟩, List.forall_mem_cons.2 ⟨by kernel_rfl, List.forall_mem_cons.2 ⟨by kernel_rfl, List.forall_mem_cons.2 ⟨by kernel_rfl, List.forall_mem_cons.2 ⟨by kernel_rfl, List.forall_mem_cons.2 ⟨by kernel_rfl, List.forall_mem_cons.2 ⟨by kernel_rfl, List.forall_mem_cons.2 ⟨by kernel_rfl, List.forall_mem_cons.2 ⟨by kernel_rfl, List.forall_mem_cons.2 ⟨by kernel_rfl, (fun _ h => by cases h)⟩⟩⟩⟩⟩⟩⟩⟩⟩, mixed⟩
/-- ostiary/ostiaryref01.Cut -/
noncomputable def cx_ostiaryref01_Cut (W0 : World) (S : Nat → Prop) (bs : List Nat := []) : Cx := ⟨Tryz.prog, W0, S, 13, [(3, ti3), (5, ti5), (23, ti23)], [], bs, none, []⟩
abbrev n_ostiaryref01_Cut : FuncId := 22
theorem b_ostiaryref01_Cut : Tryz.prog.funcs[n_ostiaryref01_Cut]? = some Tryz.f22 := Tryz.func22
theorem good_ostiaryref01_Cut (W0 : World) (S : Nat → Prop) (bs : List Nat := []) : Good (cx_ostiaryref01_Cut W0 S bs) := ⟨List.forall_mem_cons.2 ⟨ok3, List.forall_mem_cons.2 ⟨ok5, List.forall_mem_cons.2 ⟨ok23, (fun _ h => by cases h)⟩⟩⟩, (fun _ h => by cases h), mixed⟩
/-- ostiary/ostiaryref01.Copy -/
noncomputable def cx_ostiaryref01_Copy (W0 : World) (S : Nat → Prop) (bs : List Nat := []) : Cx := ⟨Tryz.prog, W0, S, 6, [(5, ti5), (23, ti23)], [], bs, none, []⟩
abbrev n_ostiaryref01_Copy : FuncId := 23
theorem b_ostiaryref01_Copy : Tryz.prog.funcs[n_ostiaryref01_Copy]? = some Tryz.f23 := Tryz.func23
theorem good_ostiaryref01_Copy (W0 : World) (S : Nat → Prop) (bs : List Nat := []) : Good (cx_ostiaryref01_Copy W0 S bs) := ⟨List.forall_mem_cons.2 ⟨ok5, List.forall_mem_cons.2 ⟨ok23, (fun _ h => by cases h)⟩⟩, (fun _ h => by cases h), mixed⟩
/-- ostiary/ostiaryref14.SameSecret -/
noncomputable def cx_ostiaryref14_SameSecret (W0 : World) (S : Nat → Prop) (bs : List Nat := []) : Cx := ⟨Tryz.prog, W0, S, 38, [(3, ti3), (5, ti5), (23, ti23), (45, ti45)], [15], bs, none, []⟩
abbrev n_ostiaryref14_SameSecret : FuncId := 24
theorem b_ostiaryref14_SameSecret : Tryz.prog.funcs[n_ostiaryref14_SameSecret]? = some Tryz.f24 := Tryz.func24
theorem good_ostiaryref14_SameSecret (W0 : World) (S : Nat → Prop) (bs : List Nat := []) : Good (cx_ostiaryref14_SameSecret W0 S bs) := ⟨List.forall_mem_cons.2 ⟨ok3, List.forall_mem_cons.2 ⟨ok5, List.forall_mem_cons.2 ⟨ok23, List.forall_mem_cons.2 ⟨ok45, (fun _ h => by cases h)⟩⟩⟩⟩, List.forall_mem_cons.2 ⟨by kernel_rfl, (fun _ h => by cases h)⟩, mixed⟩
/-- ostiary/ostiarylaw14.secret -/
noncomputable def cx_ostiarylaw14_secret (W0 : World) (S : Nat → Prop) (bs : List Nat := []) : Cx := ⟨Tryz.prog, W0, S, 4, [(3, ti3), (5, ti5), (23, ti23), (41, ti41), (45, ti45)], [], bs, none, []⟩
abbrev n_ostiarylaw14_secret : FuncId := 25
theorem b_ostiarylaw14_secret : Tryz.prog.funcs[n_ostiarylaw14_secret]? = some Tryz.f25 := Tryz.func25
theorem good_ostiarylaw14_secret (W0 : World) (S : Nat → Prop) (bs : List Nat := []) : Good (cx_ostiarylaw14_secret W0 S bs) := ⟨List.forall_mem_cons.2 ⟨ok3, List.forall_mem_cons.2 ⟨ok5, List.forall_mem_cons.2 ⟨ok23, List.forall_mem_cons.2 ⟨ok41, List.forall_mem_cons.2 ⟨ok45, (fun _ h => by cases h)⟩⟩⟩⟩⟩, (fun _ h => by cases h), mixed⟩
/-- (*ostiary/box.Box).Len -/
noncomputable def cx_box_Box_Len (W0 : World) (S : Nat → Prop) (bs : List Nat := []) : Cx := ⟨Tryz.prog, W0, S, 10, [(3, ti3), (4, ti4), (5, ti5), (9, ti9), (23, ti23), (28, ti28), (68, ti68), (84, ti84), (118, ti118), (119, ti119), (121, ti121)], [], bs, none, []⟩
abbrev n_box_Box_Len : FuncId := 26
theorem b_box_Box_Len : Tryz.prog.funcs[n_box_Box_Len]? = some Tryz.f26 := Tryz.func26
theorem good_box_Box_Len (W0 : World) (S : Nat → Prop) (bs : List Nat := []) : Good (cx_box_Box_Len W0 S bs) := ⟨List.forall_mem_cons.2 ⟨ok3, List.forall_mem_cons.2 ⟨ok4, List.forall_mem_cons.2 ⟨ok5, List.forall_mem_cons.2 ⟨ok9, List.forall_mem_cons.2 ⟨ok23, List.forall_mem_cons.2 ⟨ok28, List.forall_mem_cons.2 ⟨ok68, List.forall_mem_cons.2 ⟨ok84, List.forall_mem_cons.2 ⟨ok118, List.forall_mem_cons.2 ⟨ok119, List.forall_mem_cons.2 ⟨ok121, (fun _ h => by cases h)⟩⟩⟩⟩⟩⟩⟩⟩⟩⟩⟩, (fun _ h => by cases h), mixed⟩
/-- ostiary/ostiaryref01.Flip -/
noncomputable def cx_ostiaryref01_Flip (W0 : World) (S : Nat → Prop) (bs : List Nat := []) : Cx := ⟨Tryz.prog, W0, S, 15, [(3, ti3), (5, ti5), (23, ti23)], [], bs, none, []⟩
abbrev n_ostiaryref01_Flip : FuncId := 27
theorem b_ostiaryref01_Flip : Tryz.prog.funcs[n_ostiaryref01_Flip]? = some Tryz.f27 := Tryz.func27
theorem good_ostiaryref01_Flip (W0 : World) (S : Nat → Prop) (bs : List Nat := []) : Good (cx_ostiaryref01_Flip W0 S bs) := ⟨List.forall_mem_cons.2 ⟨ok3, List.forall_mem_cons.2 ⟨ok5, List.forall_mem_cons.2 ⟨ok23, (fun _ h => by cases h)⟩⟩⟩, (fun _ h => by cases h), mixed⟩
/-- ostiary/ostiarylaw05.awake -/
noncomputable def cx_ostiarylaw05_awake (W0 : World) (S : Nat → Prop) (bs : List Nat := []) : Cx := ⟨Tryz.prog, W0, S, 63, [(3, ti3), (4, ti4), (5, ti5), (23, ti23), (28, ti28), (42, ti42), (58, ti58)], [13, 15, 26, 31, 33, 75], bs, none, []⟩
abbrev n_ostiarylaw05_awake : FuncId := 28
theorem b_ostiarylaw05_awake : Tryz.prog.funcs[n_ostiarylaw05_awake]? = some Tryz.f28 := Tryz.func28
theorem good_ostiarylaw05_awake (W0 : World) (S : Nat → Prop) (bs : List Nat := []) : Good (cx_ostiarylaw05_awake W0 S bs) := ⟨List.forall_mem_cons.2 ⟨ok3, List.forall_mem_cons.2 ⟨ok4, List.forall_mem_cons.2 ⟨ok5, List.forall_mem_cons.2 ⟨ok23, List.forall_mem_cons.2 ⟨ok28, List.forall_mem_cons.2 ⟨ok42, List.forall_mem_cons.2 ⟨ok58, (fun _ h => by cases h)⟩⟩⟩⟩⟩⟩⟩, List.forall_mem_cons.2 ⟨by kernel_rfl, List.forall_mem_cons.2 ⟨by kernel_rfl, List.forall_mem_cons.2 ⟨by kernel_rfl, List.forall_mem_cons.2 ⟨by kernel_rfl, List.forall_mem_cons.2 ⟨by kernel_rfl, List.forall_mem_cons.2 ⟨by kernel_rfl, (fun _ h => by cases h)⟩⟩⟩⟩⟩⟩, mixed⟩
/-- (*ostiary/ostiarylaw05.told).do -/
noncomputable def cx_ostiarylaw05_told_do (W0 : World) (S : Nat → Prop) (bs : List Nat := []) : Cx := ⟨Tryz.prog, W0, S, 193, [(3, ti3), (4, ti4), (5, ti5), (23, ti23), (28, ti28), (30, ti30), (57, ti57), (58, ti58), (60, ti60), (62, ti62)], [15, 16, 22, 23, 27, 30, 31, 33, 38, 44, 46, 69, 76], bs, none, []⟩
abbrev n_ostiarylaw05_told_do : FuncId := 29
theorem b_ostiarylaw05_told_do : Tryz.prog.funcs[n_ostiarylaw05_told_do]? = some Tryz.f29 := Tryz.func29
def p_ostiarylaw05_told_do_1 : Plan := .take 0 (.take 1 (.take 3 (.take 4 (.take 5 (.take 7 (.take 8 (.exec 2 (.exec 6 (.exec 9 (.exec 10 (.take 11 (.take 12 (.done)))))))))))))
def p_ostiarylaw05_told_do_18 : Plan := .take 0 (.take 1 (.take 2 (.take 3 (.take 4 (.take 5 (.take 6 (.take 7 (.take 8 (.take 9 (.take 12 (.take 13 (.take 14 (.take 15 (.take 16 (.exec 10 (.exec 11 (.exec 17 (.take 18 (.take 19 (.done))))))))))))))))))))
def p_ostiarylaw05_told_do_21 : Plan := .take 0 (.take 1 (.take 2 (.take 3 (.take 4 (.take 5 (.take 8 (.take 9 (.take 10 (.take 11 (.take 12 (.take 13 (.exec 6 (.exec 7 (.exec 14 (.take 15 (.take 16 (.done)))))))))))))))))
def p_ostiarylaw05_told_do_8 : Plan := .take 0 (.take 1 (.take 2 (.take 4 (.take 5 (.take 6 (.exec 3 (.exec 7 (.take 8 (.take 9 (.done))))))))))
theorem good_ostiarylaw05_told_do (W0 : World) (S : Nat → Prop) (bs : List Nat := []) : Good (cx_ostiarylaw05_told_do W0 S bs) := ⟨List.forall_mem_cons.2 ⟨ok3, List.forall_mem_cons.2 ⟨ok4, List.forall_mem_cons.2 ⟨ok5, List.forall_mem_cons.2 ⟨ok23, List.forall_mem_cons.2 ⟨ok28, List.forall_mem_cons.2 ⟨ok30, List.forall_mem_cons.2 ⟨ok57, List.forall_mem_cons.2 ⟨ok58, List.forall_mem_cons.2 ⟨ok60, List.forall_mem_cons.2 ⟨ok62, (fun _ h => by cases h)⟩⟩⟩⟩⟩⟩⟩⟩⟩⟩, List.forall_mem_cons.2 ⟨by kernel_rfl, List.forall_mem_cons.2 ⟨by kernel_rfl, List.forall_mem_cons.2 ⟨by kernel_rfl, List.forall_mem_cons.2 ⟨by kernel_rfl, List.forall_mem_cons.2 ⟨by kernel_rfl, List.forall_mem_cons.2 ⟨by kernel_rfl, List.forall_mem_cons.2 ⟨by kernel_rfl, List.forall_mem_cons.2 ⟨by kernel_rfl, List.forall_mem_cons.2 ⟨by kernel_rfl, List.forall_mem_cons.2 ⟨by kernel_rfl, List.forall_mem_cons.2 ⟨by kernel_rfl, List.forall_mem_cons.2 ⟨by kernel_rfl, List.forall_mem_cons.2 ⟨by kernel_rfl, (fun _ h => by cases h)⟩⟩⟩⟩⟩⟩⟩⟩⟩⟩⟩⟩⟩, mixed⟩
/-- (*ostiary/ostiarylaw05.told).pick -/
noncomputable def cx_ostiarylaw05_told_pick (W0 : World) (S : Nat → Prop) (bs : List Nat := []) : Cx := ⟨Tryz.prog, W0, S, 29, [(3, ti3), (5, ti5), (23, ti23), (28, ti28), (30, ti30), (58, ti58), (60, ti60)], [23], bs, none, []⟩
abbrev n_ostiarylaw05_told_pick : FuncId := 30
theorem b_ostiarylaw05_told_pick : Tryz.prog.funcs[n_ostiarylaw05_told_pick]? = some Tryz.f30 := Tryz.func30
def p_ostiarylaw05_told_pick_3 : Plan := .take 0 (.take 1 (.take 2 (.take 3 (.take 4 (.take 5 (.take 6 (.take 7 (.take 8 (.take 9 (.take 10 (.take 11 (.take 12 (.exec 13 (.take 14 (.done)))))))))))))))
theorem good_ostiarylaw05_told_pick (W0 : World) (S : Nat → Prop) (bs : List Nat := []) : Good (cx_ostiarylaw05_told_pick W0 S bs) := ⟨List.forall_mem_cons.2 ⟨ok3, List.forall_mem_cons.2 ⟨ok5, List.forall_mem_cons.2 ⟨ok23, List.forall_mem_cons.2 ⟨ok28, List.forall_mem_cons.2 ⟨ok30, List.forall_mem_cons.2 ⟨ok58, List.forall_mem_cons.2 ⟨ok60, (fun _ h => by cases h)⟩⟩⟩⟩⟩⟩⟩, List.forall_mem_cons.2 ⟨by kernel_rfl, (fun _ h => by cases h)⟩, mixed⟩
/-- (*ostiary/box.Box).Turn -/
noncomputable def cx_box_Box_Turn (W0 : World) (S : Nat → Prop) (bs : List Nat := []) : Cx := ⟨Tryz.prog, W0, S, 83, [(3, ti3), (4, ti4), (5, ti5), (9, ti9), (23, ti23), (28, ti28), (68, ti68), (84, ti84), (118, ti118), (119, ti119), (121, ti121), (142, ti142)], [77, 78, 79, 80, 81, 82], bs, none, []⟩
abbrev n_box_Box_Turn : FuncId := 31
theorem b_box_Box_Turn : Tryz.prog.funcs[n_box_Box_Turn]? = some Tryz.f31 := Tryz.func31
def p_box_Box_Turn_8 : Plan := .take 0 (.take 1 (.exec 2 (.exec 3 (.take 4 (.done)))))
def p_box_Box_Turn_9 : Plan := .take 0 (.take 1 (.take 2 (.take 3 (.take 4 (.take 5 (.take 6 (.take 7 (.take 8 (.take 9 (.take 10 (.take 11 (.take 12 (.take 13 (.exec 14 (.exec 15 (.take 16 (.take 17 (.take 18 (.take 19 (.done))))))))))))))))))))
theorem good_box_Box_Turn (W0 : World) (S : Nat → Prop) (bs : List Nat := []) : Good (cx_box_Box_Turn W0 S bs) := ⟨List.forall_mem_cons.2 ⟨ok3, List.forall_mem_cons.2 ⟨ok4, List.forall_mem_cons.2 ⟨ok5, List.forall_mem_cons.2 ⟨ok9, List.forall_mem_cons.2 ⟨ok23, List.forall_mem_cons.2 ⟨ok28, List.forall_mem_cons.2 ⟨ok68, List.forall_mem_cons.2 ⟨ok84, List.forall_mem_cons.2 ⟨ok118, List.forall_mem_cons.2 ⟨ok119, List.forall_mem_cons.2 ⟨ok121, List.forall_mem_cons.2 ⟨ok142, (fun _ h => by cases h)⟩⟩⟩⟩⟩⟩⟩⟩⟩⟩⟩⟩, List.forall_mem_cons.2 ⟨by kernel_rfl, List.forall_mem_cons.2 ⟨by kernel_rfl, List.forall_mem_cons.2 ⟨by kernel_rfl, List.forall_mem_cons.2 ⟨by kernel_rfl, List.forall_mem_cons.2 ⟨by kernel_rfl, List.forall_mem_cons.2 ⟨by kernel_rfl, (fun _ h => by cases h)⟩⟩⟩⟩⟩⟩, mixed⟩
/-- ostiary/ostiaryref05.Same -/
noncomputable def cx_ostiaryref05_Same (W0 : World) (S : Nat → Prop) (bs : List Nat := []) : Cx := ⟨Tryz.prog, W0, S, 45, [(3, ti3), (5, ti5), (23, ti23), (68, ti68), (70, ti70)], [15, 83], bs, none, []⟩
abbrev n_ostiaryref05_Same : FuncId := 32
theorem b_ostiaryref05_Same : Tryz.prog.funcs[n_ostiaryref05_Same]? = some Tryz.f32 := Tryz.func32
theorem good_ostiaryref05_Same (W0 : World) (S : Nat → Prop) (bs : List Nat := []) : Good (cx_ostiaryref05_Same W0 S bs) := ⟨List.forall_mem_cons.2 ⟨ok3, List.forall_mem_cons.2 ⟨ok5, List.forall_mem_cons.2 ⟨ok23, List.forall_mem_cons.2 ⟨ok68, List.forall_mem_cons.2 ⟨ok70, (fun _ h => by cases h)⟩⟩⟩⟩⟩, List.forall_mem_cons.2 ⟨by kernel_rfl, List.forall_mem_cons.2 ⟨by kernel_rfl, (fun _ h => by cases h)⟩⟩, mixed⟩
/-- (*ostiary/box.Box).Hash -/
noncomputable def cx_box_Box_Hash (W0 : World) (S : Nat → Prop) (bs : List Nat := []) : Cx := ⟨Tryz.prog, W0, S, 20, [(3, ti3), (4, ti4), (5, ti5), (9, ti9), (23, ti23), (28, ti28), (58, ti58), (68, ti68), (84, ti84), (118, ti118), (119, ti119), (121, ti121)], [82, 84, 85], bs, none, []⟩
abbrev n_box_Box_Hash : FuncId := 33
theorem b_box_Box_Hash : Tryz.prog.funcs[n_box_Box_Hash]? = some Tryz.f33 := Tryz.func33
theorem good_box_Box_Hash (W0 : World) (S : Nat → Prop) (bs : List Nat := []) : Good (cx_box_Box_Hash W0 S bs) := ⟨List.forall_mem_cons.2 ⟨ok3, List.forall_mem_cons.2 ⟨ok4, List.forall_mem_cons.2 ⟨ok5, List.forall_mem_cons.2 ⟨ok9, List.forall_mem_cons.2 ⟨ok23, List.forall_mem_cons.2 ⟨ok28, List.forall_mem_cons.2 ⟨ok58, List.forall_mem_cons.2 ⟨ok68, List.forall_mem_cons.2 ⟨ok84, List.forall_mem_cons.2 ⟨ok118, List.forall_mem_cons.2 ⟨ok119, List.forall_mem_cons.2 ⟨ok121, (fun _ h => by cases h)⟩⟩⟩⟩⟩⟩⟩⟩⟩⟩⟩⟩, List.forall_mem_cons.2 ⟨by kernel_rfl, List.forall_mem_cons.2 ⟨by kernel_rfl, List.forall_mem_cons.2 ⟨by kernel_rfl, (fun _ h => by cases h)⟩⟩⟩, mixed⟩
/-- (*ostiary/box.Box).Symbolic -/
noncomputable def cx_box_Box_Symbolic (W0 : World) (S : Nat → Prop) (bs : List Nat := []) : Cx := ⟨Tryz.prog, W0, S, 11, [(3, ti3), (4, ti4), (5, ti5), (9, ti9), (23, ti23), (28, ti28), (68, ti68), (84, ti84), (118, ti118), (119, ti119), (121, ti121)], [], bs, none, []⟩
abbrev n_box_Box_Symbolic : FuncId := 34
theorem b_box_Box_Symbolic : Tryz.prog.funcs[n_box_Box_Symbolic]? = some Tryz.f34 := Tryz.func34
theorem good_box_Box_Symbolic (W0 : World) (S : Nat → Prop) (bs : List Nat := []) : Good (cx_box_Box_Symbolic W0 S bs) := ⟨List.forall_mem_cons.2 ⟨ok3, List.forall_mem_cons.2 ⟨ok4, List.forall_mem_cons.2 ⟨ok5, List.forall_mem_cons.2 ⟨ok9, List.forall_mem_cons.2 ⟨ok23, List.forall_mem_cons.2 ⟨ok28, List.forall_mem_cons.2 ⟨ok68, List.forall_mem_cons.2 ⟨ok84, List.forall_mem_cons.2 ⟨ok118, List.forall_mem_cons.2 ⟨ok119, List.forall_mem_cons.2 ⟨ok121, (fun _ h => by cases h)⟩⟩⟩⟩⟩⟩⟩⟩⟩⟩⟩, (fun _ h => by cases h), mixed⟩
/-- (*ostiary/box.Box).Full -/
noncomputable def cx_box_Box_Full (W0 : World) (S : Nat → Prop) (bs : List Nat := []) : Cx := ⟨Tryz.prog, W0, S, 11, [(3, ti3), (4, ti4), (5, ti5), (9, ti9), (23, ti23), (28, ti28), (68, ti68), (84, ti84), (118, ti118), (119, ti119), (121, ti121)], [], bs, none, []⟩
abbrev n_box_Box_Full : FuncId := 35
theorem b_box_Box_Full : Tryz.prog.funcs[n_box_Box_Full]? = some Tryz.f35 := Tryz.func35
theorem good_box_Box_Full (W0 : World) (S : Nat → Prop) (bs : List Nat := []) : Good (cx_box_Box_Full W0 S bs) := ⟨List.forall_mem_cons.2 ⟨ok3, List.forall_mem_cons.2 ⟨ok4, List.forall_mem_cons.2 ⟨ok5, List.forall_mem_cons.2 ⟨ok9, List.forall_mem_cons.2 ⟨ok23, List.forall_mem_cons.2 ⟨ok28, List.forall_mem_cons.2 ⟨ok68, List.forall_mem_cons.2 ⟨ok84, List.forall_mem_cons.2 ⟨ok118, List.forall_mem_cons.2 ⟨ok119, List.forall_mem_cons.2 ⟨ok121, (fun _ h => by cases h)⟩⟩⟩⟩⟩⟩⟩⟩⟩⟩⟩, (fun _ h => by cases h), mixed⟩
/-- ostiary/ostiaryref14.Few -/
noncomputable def cx_ostiaryref14_Few (W0 : World) (S : Nat → Prop) (bs : List Nat := []) : Cx := ⟨Tryz.prog, W0, S, 18, [(3, ti3), (5, ti5), (23, ti23), (45, ti45)], [22], bs, none, []⟩
abbrev n_ostiaryref14_Few : FuncId := 36
theorem b_ostiaryref14_Few : Tryz.prog.funcs[n_ostiaryref14_Few]? = some Tryz.f36 := Tryz.func36
def p_ostiaryref14_Few_1 : Plan := .take 0 (.take 1 (.take 3 (.take 4 (.take 5 (.take 6 (.take 8 (.take 9 (.take 11 (.take 12 (.exec 2 (.exec 7 (.exec 10 (.exec 13 (.take 14 (.exec 15 (.done))))))))))))))))
theorem good_ostiaryref14_Few (W0 : World) (S : Nat → Prop) (bs : List Nat := []) : Good (cx_ostiaryref14_Few W0 S bs) := ⟨List.forall_mem_cons.2 ⟨ok3, List.forall_mem_cons.2 ⟨ok5, List.forall_mem_cons.2 ⟨ok23, List.forall_mem_cons.2 ⟨ok45, (fun _ h => by cases h)⟩⟩⟩⟩, List.forall_mem_cons.2 ⟨by kernel_rfl, (fun _ h => by cases h)⟩, mixed⟩
/-- ostiary/proof.Server -/
noncomputable def cx_proof_Server (W0 : World) (S : Nat → Prop) (bs : List Nat := []) : Cx := ⟨Tryz.prog, W0, S, 14, [(3, ti3), (5, ti5), (9, ti9), (23, ti23), (28, ti28), (41, ti41), (58, ti58)], [46], bs, none, []⟩
abbrev n_proof_Server : FuncId := 37
theorem b_proof_Server : Tryz.prog.funcs[n_proof_Server]? = some Tryz.f37 := Tryz.func37
theorem good_proof_Server (W0 : World) (S : Nat → Prop) (bs : List Nat := []) : Good (cx_proof_Server W0 S bs) := ⟨List.forall_mem_cons.2 ⟨ok3, List.forall_mem_cons.2 ⟨ok5, List.forall_mem_cons.2 ⟨ok9, List.forall_mem_cons.2 ⟨ok23, List.forall_mem_cons.2 ⟨ok28, List.forall_mem_cons.2 ⟨ok41, List.forall_mem_cons.2 ⟨ok58, (fun _ h => by cases h)⟩⟩⟩⟩⟩⟩⟩, List.forall_mem_cons.2 ⟨by kernel_rfl, (fun _ h => by cases h)⟩, mixed⟩
/-- ostiary/ostiaryref05.Mac -/
noncomputable def cx_ostiaryref05_Mac (W0 : World) (S : Nat → Prop) (bs : List Nat := []) : Cx := ⟨Tryz.prog, W0, S, 21, [(3, ti3), (4, ti4), (5, ti5), (23, ti23), (30, ti30), (31, ti31), (33, ti33), (68, ti68), (70, ti70)], [23, 55, 86], bs, none, []⟩
abbrev n_ostiaryref05_Mac : FuncId := 38
theorem b_ostiaryref05_Mac : Tryz.prog.funcs[n_ostiaryref05_Mac]? = some Tryz.f38 := Tryz.func38
theorem good_ostiaryref05_Mac (W0 : World) (S : Nat → Prop) (bs : List Nat := []) : Good (cx_ostiaryref05_Mac W0 S bs) := ⟨List.forall_mem_cons.2 ⟨ok3, List.forall_mem_cons.2 ⟨ok4, List.forall_mem_cons.2 ⟨ok5, List.forall_mem_cons.2 ⟨ok23, List.forall_mem_cons.2 ⟨ok30, List.forall_mem_cons.2 ⟨ok31, List.forall_mem_cons.2 ⟨ok33, List.forall_mem_cons.2 ⟨ok68, List.forall_mem_cons.2 ⟨ok70, (fun _ h => by cases h)⟩⟩⟩⟩⟩⟩⟩⟩⟩, List.forall_mem_cons.2 ⟨by kernel_rfl, List.forall_mem_cons.2 ⟨by kernel_rfl, List.forall_mem_cons.2 ⟨by kernel_rfl, (fun _ h => by cases h)⟩⟩⟩, mixed⟩
/-- ostiary/proof.Check -/
noncomputable def cx_proof_Check (W0 : World) (S : Nat → Prop) (bs : List Nat := []) : Cx := ⟨Tryz.prog, W0, S, 44, [(3, ti3), (5, ti5), (9, ti9), (23, ti23), (28, ti28), (41, ti41), (42, ti42), (58, ti58)], [31, 33, 46, 87], bs, none, []⟩
abbrev n_proof_Check : FuncId := 39
theorem b_proof_Check : Tryz.prog.funcs[n_proof_Check]? = some Tryz.f39 := Tryz.func39
def p_proof_Check_8 : Plan := .take 0 (.take 1 (.take 4 (.take 5 (.exec 2 (.exec 3 (.exec 6 (.take 7 (.take 8 (.done)))))))))
theorem good_proof_Check (W0 : World) (S : Nat → Prop) (bs : List Nat := []) : Good (cx_proof_Check W0 S bs) := ⟨List.forall_mem_cons.2 ⟨ok3, List.forall_mem_cons.2 ⟨ok5, List.forall_mem_cons.2 ⟨ok9, List.forall_mem_cons.2 ⟨ok23, List.forall_mem_cons.2 ⟨ok28, List.forall_mem_cons.2 ⟨ok41, List.forall_mem_cons.2 ⟨ok42, List.forall_mem_cons.2 ⟨ok58, (fun _ h => by cases h)⟩⟩⟩⟩⟩⟩⟩⟩, List.forall_mem_cons.2 ⟨by kernel_rfl, List.forall_mem_cons.2 ⟨by kernel_rfl, List.forall_mem_cons.2 ⟨by kernel_rfl, List.forall_mem_cons.2 ⟨by kernel_rfl, (fun _ h => by cases h)⟩⟩⟩⟩, mixed⟩
/-- ostiary/ostiaryref19.Check -/
noncomputable def cx_ostiaryref19_Check (W0 : World) (S : Nat → Prop) (bs : List Nat := []) : Cx := ⟨Tryz.prog, W0, S, 32, [(3, ti3), (5, ti5), (9, ti9), (23, ti23), (30, ti30), (45, ti45)], [15, 16, 38, 76], bs, none, []⟩
abbrev n_ostiaryref19_Check : FuncId := 40
theorem b_ostiaryref19_Check : Tryz.prog.funcs[n_ostiaryref19_Check]? = some Tryz.f40 := Tryz.func40
def p_ostiaryref19_Check_6 : Plan := .take 0 (.take 1 (.take 3 (.take 4 (.exec 2 (.exec 5 (.take 6 (.done)))))))
theorem good_ostiaryref19_Check (W0 : World) (S : Nat → Prop) (bs : List Nat := []) : Good (cx_ostiaryref19_Check W0 S bs) := ⟨List.forall_mem_cons.2 ⟨ok3, List.forall_mem_cons.2 ⟨ok5, List.forall_mem_cons.2 ⟨ok9, List.forall_mem_cons.2 ⟨ok23, List.forall_mem_cons.2 ⟨ok30, List.forall_mem_cons.2 ⟨ok45, (fun _ h => by cases h)⟩⟩⟩⟩⟩⟩, List.forall_mem_cons.2 ⟨by kernel_rfl, List.forall_mem_cons.2 ⟨by kernel_rfl, List.forall_mem_cons.2 ⟨by kernel_rfl, List.forall_mem_cons.2 ⟨by kernel_rfl, (fun _ h => by cases h)⟩⟩⟩⟩, mixed⟩
/-- (*ostiary/ostiarylaw05.told).same -/
noncomputable def cx_ostiarylaw05_told_same (W0 : World) (S : Nat → Prop) (bs : List Nat := []) : Cx := ⟨Tryz.prog, W0, S, 119, [(3, ti3), (4, ti4), (5, ti5), (23, ti23), (28, ti28), (30, ti30), (31, ti31), (33, ti33), (58, ti58), (60, ti60), (68, ti68), (70, ti70), (84, ti84)], [26, 32, 34, 35, 43, 45], bs, none, []⟩
abbrev n_ostiarylaw05_told_same : FuncId := 41
theorem b_ostiarylaw05_told_same : Tryz.prog.funcs[n_ostiarylaw05_told_same]? = some Tryz.f41 := Tryz.func41
def p_ostiarylaw05_told_same_1 : Plan := .take 0 (.take 1 (.take 2 (.take 3 (.take 5 (.take 6 (.take 7 (.take 8 (.take 9 (.take 10 (.take 11 (.take 12 (.exec 4 (.take 13 (.take 14 (.take 15 (.take 16 (.take 17 (.take 18 (.take 20 (.take 21 (.take 22 (.take 23 (.take 24 (.take 25 (.take 26 (.exec 19 (.take 27 (.take 28 (.take 29 (.take 30 (.take 31 (.take 32 (.take 33 (.take 35 (.take 36 (.take 37 (.take 38 (.take 39 (.take 40 (.take 41 (.exec 34 (.take 42 (.take 43 (.done))))))))))))))))))))))))))))))))))))))))))))
def p_ostiarylaw05_told_same_7 : Plan := .take 0 (.take 1 (.take 2 (.take 3 (.take 5 (.exec 4 (.exec 6 (.take 7 (.take 8 (.done)))))))))
def p_ostiarylaw05_told_same_11 : Plan := .take 0 (.take 1 (.take 2 (.take 3 (.take 4 (.take 5 (.take 6 (.take 7 (.take 8 (.take 9 (.take 10 (.take 11 (.take 12 (.alt 13 (.take 14 (.take 15 (.take 16 (.exec 17 (.exec 18 (.take 19 (.done))))))) (.exec 17 (.exec 13 (.take 14 (.take 15 (.take 16 (.exec 18 (.take 19 (.done)))))))))))))))))))))
theorem good_ostiarylaw05_told_same (W0 : World) (S : Nat → Prop) (bs : List Nat := []) : Good (cx_ostiarylaw05_told_same W0 S bs) := ⟨List.forall_mem_cons.2 ⟨ok3, List.forall_mem_cons.2 ⟨ok4, List.forall_mem_cons.2 ⟨ok5, List.forall_mem_cons.2 ⟨ok23, List.forall_mem_cons.2 ⟨ok28, List.forall_mem_cons.2 ⟨ok30, List.forall_mem_cons.2 ⟨ok31, List.forall_mem_cons.2 ⟨ok33, List.forall_mem_cons.2 ⟨ok58, List.forall_mem_cons.2 ⟨ok60, List.forall_mem_cons.2 ⟨ok68, List.forall_mem_cons.2 ⟨ok70, List.forall_mem_cons.2 ⟨ok84, (fun _ h => by cases h)⟩⟩⟩⟩⟩⟩⟩⟩⟩⟩⟩⟩⟩, List.forall_mem_cons.2 ⟨by kernel_rfl, List.forall_mem_cons.2 ⟨by kernel_rfl, List.forall_mem_cons.2 ⟨by kernel_rfl, List.forall_mem_cons.2 ⟨by kernel_rfl, List.forall_mem_cons.2 ⟨by kernel_rfl, List.forall_mem_cons.2 ⟨by kernel_rfl, (fun _ h => by cases h)⟩⟩⟩⟩⟩⟩, mixed⟩
/-- (*ostiary/box.Box).Terms -/
noncomputable def cx_box_Box_Terms (W0 : World) (S : Nat → Prop) (bs : List Nat := []) : Cx := ⟨Tryz.prog, W0, S, 4, [(28, ti28)], [88], bs, none, []⟩
abbrev n_box_Box_Terms : FuncId := 42
theorem b_box_Box_Terms : Tryz.prog.funcs[n_box_Box_Terms]? = some Tryz.f42 := Tryz.func42
theorem good_box_Box_Terms (W0 : World) (S : Nat → Prop) (bs : List Nat := []) : Good (cx_box_Box_Terms W0 S bs) := ⟨List.forall_mem_cons.2 ⟨ok28, (fun _ h => by cases h)⟩, List.forall_mem_cons.2 ⟨by kernel_rfl, (fun _ h => by cases h)⟩, mixed⟩
/-- ostiary/ostiarylaw05.back -/
noncomputable def cx_ostiarylaw05_back (W0 : World) (S : Nat → Prop) (bs : List Nat := []) : Cx := ⟨Tryz.prog, W0, S, 4, [(3, ti3), (5, ti5), (23, ti23), (68, ti68), (70, ti70), (84, ti84)], [], bs, none, []⟩
abbrev n_ostiarylaw05_back : FuncId := 43
theorem b_ostiarylaw05_back : Tryz.prog.funcs[n_ostiarylaw05_back]? = some Tryz.f43 := Tryz.func43
theorem good_ostiarylaw05_back (W0 : World) (S : Nat → Prop) (bs : List Nat := []) : Good (cx_ostiarylaw05_back W0 S bs) := ⟨List.forall_mem_cons.2 ⟨ok3, List.forall_mem_cons.2 ⟨ok5, List.forall_mem_cons.2 ⟨ok23, List.forall_mem_cons.2 ⟨ok68, List.forall_mem_cons.2 ⟨ok70, List.forall_mem_cons.2 ⟨ok84, (fun _ h => by cases h)⟩⟩⟩⟩⟩⟩, (fun _ h => by cases h), mixed⟩
/-- (*ostiary/box.Box).Stretch -/
noncomputable def cx_box_Box_Stretch (W0 : World) (S : Nat → Prop) (bs : List Nat := []) : Cx := ⟨Tryz.prog, W0, S, 37, [(3, ti3), (4, ti4), (5, ti5), (9, ti9), (23, ti23), (28, ti28), (68, ti68), (84, ti84), (118, ti118), (119, ti119), (121, ti121)], [82, 90], bs, none, []⟩
abbrev n_box_Box_Stretch : FuncId := 44
theorem b_box_Box_Stretch : Tryz.prog.funcs[n_box_Box_Stretch]? = some Tryz.f44 := Tryz.func44
theorem good_box_Box_Stretch (W0 : World) (S : Nat → Prop) (bs : List Nat := []) : Good (cx_box_Box_Stretch W0 S bs) := ⟨List.forall_mem_cons.2 ⟨ok3, List.forall_mem_cons.2 ⟨ok4, List.forall_mem_cons.2 ⟨ok5, List.forall_mem_cons.2 ⟨ok9, List.forall_mem_cons.2 ⟨ok23, List.forall_mem_cons.2 ⟨ok28, List.forall_mem_cons.2 ⟨ok68, List.forall_mem_cons.2 ⟨ok84, List.forall_mem_cons.2 ⟨ok118, List.forall_mem_cons.2 ⟨ok119, List.forall_mem_cons.2 ⟨ok121, (fun _ h => by cases h)⟩⟩⟩⟩⟩⟩⟩⟩⟩⟩⟩, List.forall_mem_cons.2 ⟨by kernel_rfl, List.forall_mem_cons.2 ⟨by kernel_rfl, (fun _ h => by cases h)⟩⟩, mixed⟩
/-- (*ostiary/box.Box).Term -/
noncomputable def cx_box_Box_Term (W0 : World) (S : Nat → Prop) (bs : List Nat := []) : Cx := ⟨Tryz.prog, W0, S, 24, [(3, ti3), (4, ti4), (5, ti5), (9, ti9), (23, ti23), (28, ti28), (68, ti68), (84, ti84), (118, ti118), (119, ti119), (121, ti121)], [26, 89], bs, none, []⟩
abbrev n_box_Box_Term : FuncId := 45
theorem b_box_Box_Term : Tryz.prog.funcs[n_box_Box_Term]? = some Tryz.f45 := Tryz.func45
theorem good_box_Box_Term (W0 : World) (S : Nat → Prop) (bs : List Nat := []) : Good (cx_box_Box_Term W0 S bs) := ⟨List.forall_mem_cons.2 ⟨ok3, List.forall_mem_cons.2 ⟨ok4, List.forall_mem_cons.2 ⟨ok5, List.forall_mem_cons.2 ⟨ok9, List.forall_mem_cons.2 ⟨ok23, List.forall_mem_cons.2 ⟨ok28, List.forall_mem_cons.2 ⟨ok68, List.forall_mem_cons.2 ⟨ok84, List.forall_mem_cons.2 ⟨ok118, List.forall_mem_cons.2 ⟨ok119, List.forall_mem_cons.2 ⟨ok121, (fun _ h => by cases h)⟩⟩⟩⟩⟩⟩⟩⟩⟩⟩⟩, List.forall_mem_cons.2 ⟨by kernel_rfl, List.forall_mem_cons.2 ⟨by kernel_rfl, (fun _ h => by cases h)⟩⟩, mixed⟩
/-- (*ostiary/box.Box).Mac -/
noncomputable def cx_box_Box_Mac (W0 : World) (S : Nat → Prop) (bs : List Nat := []) : Cx := ⟨Tryz.prog, W0, S, 24, [(3, ti3), (4, ti4), (5, ti5), (9, ti9), (23, ti23), (28, ti28), (58, ti58), (68, ti68), (84, ti84), (118, ti118), (119, ti119), (121, ti121)], [82, 84, 91], bs, none, []⟩
abbrev n_box_Box_Mac : FuncId := 46
theorem b_box_Box_Mac : Tryz.prog.funcs[n_box_Box_Mac]? = some Tryz.f46 := Tryz.func46
theorem good_box_Box_Mac (W0 : World) (S : Nat → Prop) (bs : List Nat := []) : Good (cx_box_Box_Mac W0 S bs) := ⟨List.forall_mem_cons.2 ⟨ok3, List.forall_mem_cons.2 ⟨ok4, List.forall_mem_cons.2 ⟨ok5, List.forall_mem_cons.2 ⟨ok9, List.forall_mem_cons.2 ⟨ok23, List.forall_mem_cons.2 ⟨ok28, List.forall_mem_cons.2 ⟨ok58, List.forall_mem_cons.2 ⟨ok68, List.forall_mem_cons.2 ⟨ok84, List.forall_mem_cons.2 ⟨ok118, List.forall_mem_cons.2 ⟨ok119, List.forall_mem_cons.2 ⟨ok121, (fun _ h => by cases h)⟩⟩⟩⟩⟩⟩⟩⟩⟩⟩⟩⟩, List.forall_mem_cons.2 ⟨by kernel_rfl, List.forall_mem_cons.2 ⟨by kernel_rfl, List.forall_mem_cons.2 ⟨by kernel_rfl, (fun _ h => by cases h)⟩⟩⟩, mixed⟩
/-- ostiary/cred.New -/
noncomputable def cx_cred_New (W0 : World) (S : Nat → Prop) (bs : List Nat := []) : Cx := ⟨Tryz.prog, W0, S, 4, [(9, ti9), (97, ti97), (154, ti154), (156, ti156), (179, ti179), (201, ti201)], [], bs, none, []⟩
abbrev n_cred_New : FuncId := 47
theorem b_cred_New : Tryz.prog.funcs[n_cred_New]? = some Tryz.f47 := Tryz.func47
theorem good_cred_New (W0 : World) (S : Nat → Prop) (bs : List Nat := []) : Good (cx_cred_New W0 S bs) := ⟨List.forall_mem_cons.2 ⟨ok9, List.forall_mem_cons.2 ⟨ok97, List.forall_mem_cons.2 ⟨ok154, List.forall_mem_cons.2 ⟨ok156, List.forall_mem_cons.2 ⟨ok179, List.forall_mem_cons.2 ⟨ok201, (fun _ h => by cases h)⟩⟩⟩⟩⟩⟩, (fun _ h => by cases h), mixed⟩
/-- ostiary/ostiarylaw14.users -/
noncomputable def cx_ostiarylaw14_users (W0 : World) (S : Nat → Prop) (bs : List Nat := []) : Cx := ⟨Tryz.prog, W0, S, 33, [(3, ti3), (4, ti4), (5, ti5), (9, ti9), (23, ti23), (41, ti41), (45, ti45), (92, ti92), (95, ti95), (96, ti96), (97, ti97), (102, ti102), (113, ti113), (159, ti159), (161, ti161), (164, ti164)], [92, 93, 94, 95, 96], bs, none, []⟩
abbrev n_ostiarylaw14_users : FuncId := 48
theorem b_ostiarylaw14_users : Tryz.prog.funcs[n_ostiarylaw14_users]? = some Tryz.f48 := Tryz.func48
theorem good_ostiarylaw14_users (W0 : World) (S : Nat → Prop) (bs : List Nat := []) : Good (cx_ostiarylaw14_users W0 S bs) := ⟨List.forall_mem_cons.2 ⟨ok3, List.forall_mem_cons.2 ⟨ok4, List.forall_mem_cons.2 ⟨ok5, List.forall_mem_cons.2 ⟨ok9, List.forall_mem_cons.2 ⟨ok23, List.forall_mem_cons.2 ⟨ok41, List.forall_mem_cons.2 ⟨ok45, List.forall_mem_cons.2 ⟨ok92, List.forall_mem_cons.2 ⟨ok95, List.forall_mem_cons.2 ⟨ok96, List.forall_mem_cons.2 ⟨ok97, List.forall_mem_cons.2 ⟨ok102, List.forall_mem_cons.2 ⟨ok113, List.forall_mem_cons.2 ⟨ok159, List.forall_mem_cons.2 ⟨ok161, List.forall_mem_cons.2 ⟨ok164, (fun _ h => by cases h)⟩⟩⟩⟩⟩⟩⟩⟩⟩⟩⟩⟩⟩⟩⟩⟩, List.forall_mem_cons.2 ⟨by kernel_rfl, List.forall_mem_cons.2 ⟨by kernel_rfl, List.forall_mem_cons.2 ⟨by kernel_rfl, List.forall_mem_cons.2 ⟨by kernel_rfl, List.forall_mem_cons.2 ⟨by kernel_rfl, (fun _ h => by cases h)⟩⟩⟩⟩⟩, mixed⟩
/-- ostiary/ostiarylaw14.do -/
noncomputable def cx_ostiarylaw14_do (W0 : World) (S : Nat → Prop) (bs : List Nat := []) : Cx := ⟨Tryz.prog, W0, S, 217, [(3, ti3), (4, ti4), (5, ti5), (9, ti9), (23, ti23), (41, ti41), (45, ti45), (92, ti92), (94, ti94), (95, ti95), (96, ti96), (97, ti97), (99, ti99), (102, ti102), (104, ti104), (113, ti113)], [12, 24, 25, 27, 36, 51, 52, 70, 71, 73, 74, 96, 97, 98, 99, 100, 101, 102, 103, 104, 105, 106, 107, 108, 109, 110, 111, 112, 113, 114], bs, none, []⟩
abbrev n_ostiarylaw14_do : FuncId := 49
theorem b_ostiarylaw14_do : Tryz.prog.funcs[n_ostiarylaw14_do]? = some Tryz.f49 := Tryz.func49
def p_ostiarylaw14_do_1 : Plan := .take 0 (.take 1 (.take 3 (.take 4 (.take 6 (.take 7 (.take 9 (.take 10 (.alt 2 (.alt 5 (.alt 8 (.alt 11 (.exec 12 (.take 13 (.take 14 (.take 15 (.exec 16 (.done)))))) (.exec 12 (.exec 11 (.take 13 (.take 14 (.take 15 (.exec 16 (.done)))))))) (.exec 12 (.exec 8 (.exec 11 (.take 13 (.take 14 (.take 15 (.exec 16 (.done))))))))) (.exec 12 (.exec 5 (.exec 8 (.exec 11 (.take 13 (.take 14 (.take 15 (.exec 16 (.done)))))))))) (.exec 12 (.exec 2 (.exec 5 (.exec 8 (.exec 11 (.take 13 (.take 14 (.take 15 (.exec 16 (.done))))))))))))))))))
def p_ostiarylaw14_do_11 : Plan := .take 0 (.take 1 (.take 2 (.take 3 (.take 5 (.take 6 (.take 7 (.take 8 (.exec 4 (.exec 9 (.take 10 (.take 11 (.done))))))))))))
def p_ostiarylaw14_do_15 : Plan := .take 0 (.take 1 (.take 2 (.take 3 (.take 4 (.take 6 (.take 7 (.take 8 (.take 9 (.take 10 (.exec 5 (.exec 11 (.take 12 (.take 13 (.done))))))))))))))
def p_ostiarylaw14_do_27 : Plan := .take 0 (.take 1 (.take 2 (.take 3 (.take 4 (.take 5 (.take 6 (.take 7 (.take 9 (.take 10 (.take 11 (.take 12 (.take 13 (.take 14 (.take 15 (.exec 8 (.exec 16 (.take 17 (.take 18 (.take 19 (.done))))))))))))))))))))
def p_ostiarylaw14_do_31 : Plan := .take 0 (.take 1 (.take 2 (.take 6 (.take 7 (.take 8 (.exec 3 (.exec 4 (.exec 5 (.exec 9 (.exec 10 (.take 11 (.take 12 (.done)))))))))))))
def p_ostiarylaw14_do_33 : Plan := .take 0 (.take 1 (.take 2 (.take 3 (.take 5 (.take 6 (.take 7 (.take 8 (.exec 4 (.exec 9 (.take 10 (.take 11 (.done))))))))))))
def p_ostiarylaw14_do_5 : Plan := .take 0 (.take 1 (.take 2 (.take 3 (.take 5 (.take 6 (.take 7 (.take 8 (.exec 4 (.exec 9 (.take 10 (.take 11 (.done))))))))))))
def p_ostiarylaw14_do_34 : Plan := .take 0 (.take 1 (.take 2 (.take 4 (.exec 3 (.exec 5 (.take 6 (.take 7 (.done))))))))
theorem good_ostiarylaw14_do (W0 : World) (S : Nat → Prop) (bs : List Nat := []) : Good (cx_ostiarylaw14_do W0 S bs) := ⟨List.forall_mem_cons.2 ⟨ok3, List.forall_mem_cons.2 ⟨ok4, List.forall_mem_cons.2 ⟨ok5, List.forall_mem_cons.2 ⟨ok9, List.forall_mem_cons.2 ⟨ok23, List.forall_mem_cons.2 ⟨ok41, List.forall_mem_cons.2 ⟨ok45, List.forall_mem_cons.2 ⟨ok92, List.forall_mem_cons.2 ⟨ok94, List.forall_mem_cons.2 ⟨ok95, List.forall_mem_cons.2 ⟨ok96, List.forall_mem_cons.2 ⟨ok97, List.forall_mem_cons.2 ⟨ok99, List.forall_mem_cons.2 ⟨ok102, List.forall_mem_cons.2 ⟨ok104, List.forall_mem_cons.2 ⟨ok113, (fun _ h => by cases h)⟩⟩⟩⟩⟩⟩⟩⟩⟩⟩⟩⟩⟩⟩⟩⟩, List.forall_mem_cons.2 ⟨by kernel_rfl, List.forall_mem_cons.2 ⟨by kernel_rfl, List.forall_mem_cons.2 ⟨by kernel_rfl, List.forall_mem_cons.2 ⟨by kernel_rfl, List.forall_mem_cons.2 ⟨by kernel_rfl, List.forall_mem_cons.2 ⟨by kernel_rfl, List.forall_mem_cons.2 ⟨by kernel_rfl, List.forall_mem_cons.2 ⟨by kernel_rfl, List.forall_mem_cons.2 ⟨by kernel_rfl, List.forall_mem_cons.2 ⟨by kernel_rfl, List.forall_mem_cons.2 ⟨by kernel_rfl, List.forall_mem_cons.2 ⟨by kernel_rfl, List.forall_mem_cons.2 ⟨by kernel_rfl, List.forall_mem_cons.2 ⟨by kernel_rfl, List.forall_mem_cons.2 ⟨by kernel_rfl, List.forall_mem_cons.2 ⟨by kernel_rfl, List.forall_mem_cons.2 ⟨by kernel_rfl, List.forall_mem_cons.2 ⟨by kernel_rfl, List.forall_mem_cons.2 ⟨by kernel_rfl, List.forall_mem_cons.2 ⟨by kernel_rfl, List.forall_mem_cons.2 ⟨by kernel_rfl, List.forall_mem_cons.2 ⟨by kernel_rfl, List.forall_mem_cons.2 ⟨by kernel_rfl, List.forall_mem_cons.2 ⟨by kernel_rfl, List.forall_mem_cons.2 ⟨by kernel_rfl, List.forall_mem_cons.2 ⟨by kernel_rfl, List.forall_mem_cons.2 ⟨by kernel_rfl, List.forall_mem_cons.2 ⟨by kernel_rfl, List.forall_mem_cons.2 ⟨by kernel_rfl, List.forall_mem_cons.2 ⟨by kernel_rfl, (fun _ h => by cases h)⟩⟩⟩⟩⟩⟩⟩⟩⟩⟩⟩⟩⟩⟩⟩⟩⟩⟩⟩⟩⟩⟩⟩⟩⟩⟩⟩⟩⟩⟩, mixed⟩
/-- (*ostiary/cred.Store).Last -/
noncomputable def cx_cred_Store_Last (W0 : World) (S : Nat → Prop) (bs : List Nat := []) : Cx := ⟨Tryz.prog, W0, S, 9, [(9, ti9), (92, ti92), (97, ti97), (154, ti154), (156, ti156), (179, ti179), (201, ti201)], [], bs, none, []⟩
abbrev n_cred_Store_Last : FuncId := 50
theorem b_cred_Store_Last : Tryz.prog.funcs[n_cred_Store_Last]? = some Tryz.f50 := Tryz.func50
theorem good_cred_Store_Last (W0 : World) (S : Nat → Prop) (bs : List Nat := []) : Good (cx_cred_Store_Last W0 S bs) := ⟨List.forall_mem_cons.2 ⟨ok9, List.forall_mem_cons.2 ⟨ok92, List.forall_mem_cons.2 ⟨ok97, List.forall_mem_cons.2 ⟨ok154, List.forall_mem_cons.2 ⟨ok156, List.forall_mem_cons.2 ⟨ok179, List.forall_mem_cons.2 ⟨ok201, (fun _ h => by cases h)⟩⟩⟩⟩⟩⟩⟩, (fun _ h => by cases h), mixed⟩
/-- ostiary/ostiaryref14.Same -/
noncomputable def cx_ostiaryref14_Same (W0 : World) (S : Nat → Prop) (bs : List Nat := []) : Cx := ⟨Tryz.prog, W0, S, 67, [(3, ti3), (4, ti4), (5, ti5), (9, ti9), (23, ti23), (45, ti45), (95, ti95), (97, ti97), (102, ti102)], [24], bs, none, []⟩
abbrev n_ostiaryref14_Same : FuncId := 51
theorem b_ostiaryref14_Same : Tryz.prog.funcs[n_ostiaryref14_Same]? = some Tryz.f51 := Tryz.func51
def p_ostiaryref14_Same_6 : Plan := .take 0 (.take 1 (.take 2 (.take 3 (.take 4 (.take 5 (.take 6 (.take 7 (.take 8 (.take 9 (.take 10 (.done)))))))))))
theorem good_ostiaryref14_Same (W0 : World) (S : Nat → Prop) (bs : List Nat := []) : Good (cx_ostiaryref14_Same W0 S bs) := ⟨List.forall_mem_cons.2 ⟨ok3, List.forall_mem_cons.2 ⟨ok4, List.forall_mem_cons.2 ⟨ok5, List.forall_mem_cons.2 ⟨ok9, List.forall_mem_cons.2 ⟨ok23, List.forall_mem_cons.2 ⟨ok45, List.forall_mem_cons.2 ⟨ok95, List.forall_mem_cons.2 ⟨ok97, List.forall_mem_cons.2 ⟨ok102, (fun _ h => by cases h)⟩⟩⟩⟩⟩⟩⟩⟩⟩, List.forall_mem_cons.2 ⟨by kernel_rfl, (fun _ h => by cases h)⟩, mixed⟩
/-- (*ostiary/cred.Store).Find -/
noncomputable def cx_cred_Store_Find (W0 : World) (S : Nat → Prop) (bs : List Nat := []) : Cx := ⟨Tryz.prog, W0, S, 30, [(3, ti3), (4, ti4), (5, ti5), (9, ti9), (23, ti23), (41, ti41), (92, ti92), (95, ti95), (97, ti97), (113, ti113), (154, ti154), (156, ti156), (179, ti179), (201, ti201)], [115, 116], bs, none, []⟩
abbrev n_cred_Store_Find : FuncId := 52
theorem b_cred_Store_Find : Tryz.prog.funcs[n_cred_Store_Find]? = some Tryz.f52 := Tryz.func52
theorem good_cred_Store_Find (W0 : World) (S : Nat → Prop) (bs : List Nat := []) : Good (cx_cred_Store_Find W0 S bs) := ⟨List.forall_mem_cons.2 ⟨ok3, List.forall_mem_cons.2 ⟨ok4, List.forall_mem_cons.2 ⟨ok5, List.forall_mem_cons.2 ⟨ok9, List.forall_mem_cons.2 ⟨ok23, List.forall_mem_cons.2 ⟨ok41, List.forall_mem_cons.2 ⟨ok92, List.forall_mem_cons.2 ⟨ok95, List.forall_mem_cons.2 ⟨ok97, List.forall_mem_cons.2 ⟨ok113, List.forall_mem_cons.2 ⟨ok154, List.forall_mem_cons.2 ⟨ok156, List.forall_mem_cons.2 ⟨ok179, List.forall_mem_cons.2 ⟨ok201, (fun _ h => by cases h)⟩⟩⟩⟩⟩⟩⟩⟩⟩⟩⟩⟩⟩⟩, List.forall_mem_cons.2 ⟨by kernel_rfl, List.forall_mem_cons.2 ⟨by kernel_rfl, (fun _ h => by cases h)⟩⟩, mixed⟩
/-- (*ostiary/cred.Store).Current -/
noncomputable def cx_cred_Store_Current (W0 : World) (S : Nat → Prop) (bs : List Nat := []) : Cx := ⟨Tryz.prog, W0, S, 31, [(3, ti3), (4, ti4), (5, ti5), (9, ti9), (23, ti23), (41, ti41), (92, ti92), (95, ti95), (97, ti97), (113, ti113), (179, ti179)], [115], bs, none, []⟩
abbrev n_cred_Store_Current : FuncId := 53
theorem b_cred_Store_Current : Tryz.prog.funcs[n_cred_Store_Current]? = some Tryz.f53 := Tryz.func53
theorem good_cred_Store_Current (W0 : World) (S : Nat → Prop) (bs : List Nat := []) : Good (cx_cred_Store_Current W0 S bs) := ⟨List.forall_mem_cons.2 ⟨ok3, List.forall_mem_cons.2 ⟨ok4, List.forall_mem_cons.2 ⟨ok5, List.forall_mem_cons.2 ⟨ok9, List.forall_mem_cons.2 ⟨ok23, List.forall_mem_cons.2 ⟨ok41, List.forall_mem_cons.2 ⟨ok92, List.forall_mem_cons.2 ⟨ok95, List.forall_mem_cons.2 ⟨ok97, List.forall_mem_cons.2 ⟨ok113, List.forall_mem_cons.2 ⟨ok179, (fun _ h => by cases h)⟩⟩⟩⟩⟩⟩⟩⟩⟩⟩⟩, List.forall_mem_cons.2 ⟨by kernel_rfl, (fun _ h => by cases h)⟩, mixed⟩
/-- ostiary/proof.joined -/
noncomputable def cx_proof_joined (W0 : World) (S : Nat → Prop) (bs : List Nat := []) : Cx := ⟨Tryz.prog, W0, S, 6, [(5, ti5), (9, ti9), (23, ti23), (95, ti95)], [117], bs, none, []⟩
abbrev n_proof_joined : FuncId := 54
theorem b_proof_joined : Tryz.prog.funcs[n_proof_joined]? = some Tryz.f54 := Tryz.func54
theorem good_proof_joined (W0 : World) (S : Nat → Prop) (bs : List Nat := []) : Good (cx_proof_joined W0 S bs) := ⟨List.forall_mem_cons.2 ⟨ok5, List.forall_mem_cons.2 ⟨ok9, List.forall_mem_cons.2 ⟨ok23, List.forall_mem_cons.2 ⟨ok95, (fun _ h => by cases h)⟩⟩⟩⟩, List.forall_mem_cons.2 ⟨by kernel_rfl, (fun _ h => by cases h)⟩, mixed⟩
/-- ostiary/ostiaryref05.Tag -/
noncomputable def cx_ostiaryref05_Tag (W0 : World) (S : Nat → Prop) (bs : List Nat := []) : Cx := ⟨Tryz.prog, W0, S, 52, [(3, ti3), (4, ti4), (5, ti5), (23, ti23), (31, ti31), (33, ti33), (68, ti68), (70, ti70)], [32, 118], bs, none, []⟩
abbrev n_ostiaryref05_Tag : FuncId := 55
theorem b_ostiaryref05_Tag : Tryz.prog.funcs[n_ostiaryref05_Tag]? = some Tryz.f55 := Tryz.func55
def p_ostiaryref05_Tag_10 : Plan := .take 0 (.take 2 (.take 3 (.take 4 (.take 5 (.take 7 (.alt 1 (.alt 6 (.exec 8 (.exec 9 (.exec 10 (.take 11 (.brk 12 (.done)))))) (.exec 8 (.exec 6 (.exec 9 (.exec 10 (.take 11 (.brk 12 (.done)))))))) (.exec 8 (.exec 1 (.exec 6 (.exec 9 (.exec 10 (.take 11 (.brk 12 (.done))))))))))))))
theorem good_ostiaryref05_Tag (W0 : World) (S : Nat → Prop) (bs : List Nat := []) : Good (cx_ostiaryref05_Tag W0 S bs) := ⟨List.forall_mem_cons.2 ⟨ok3, List.forall_mem_cons.2 ⟨ok4, List.forall_mem_cons.2 ⟨ok5, List.forall_mem_cons.2 ⟨ok23, List.forall_mem_cons.2 ⟨ok31, List.forall_mem_cons.2 ⟨ok33, List.forall_mem_cons.2 ⟨ok68, List.forall_mem_cons.2 ⟨ok70, (fun _ h => by cases h)⟩⟩⟩⟩⟩⟩⟩⟩, List.forall_mem_cons.2 ⟨by kernel_rfl, List.forall_mem_cons.2 ⟨by kernel_rfl, (fun _ h => by cases h)⟩⟩, mixed⟩
/-- ostiary/ostiaryref01.Sum -/
noncomputable def cx_ostiaryref01_Sum (W0 : World) (S : Nat → Prop) (bs : List Nat := []) : Cx := ⟨Tryz.prog, W0, S, 20, [(3, ti3), (5, ti5), (22, ti22), (23, ti23), (97, ti97), (184, ti184)], [119, 120, 121, 122], bs, none, []⟩
abbrev n_ostiaryref01_Sum : FuncId := 56
theorem b_ostiaryref01_Sum : Tryz.prog.funcs[n_ostiaryref01_Sum]? = some Tryz.f56 := Tryz.func56
theorem good_ostiaryref01_Sum (W0 : World) (S : Nat → Prop) (bs : List Nat := []) : Good (cx_ostiaryref01_Sum W0 S bs) := ⟨List.forall_mem_cons.2 ⟨ok3, List.forall_mem_cons.2 ⟨ok5, List.forall_mem_cons.2 ⟨ok22, List.forall_mem_cons.2 ⟨ok23, List.forall_mem_cons.2 ⟨ok97, List.forall_mem_cons.2 ⟨ok184, (fun _ h => by cases h)⟩⟩⟩⟩⟩⟩, List.forall_mem_cons.2 ⟨by kernel_rfl, List.forall_mem_cons.2 ⟨by kernel_rfl, List.forall_mem_cons.2 ⟨by kernel_rfl, List.forall_mem_cons.2 ⟨by kernel_rfl, (fun _ h => by cases h)⟩⟩⟩⟩, mixed⟩
/-- ostiary/b64.Hex -/
noncomputable def cx_b64_Hex (W0 : World) (S : Nat → Prop) (bs : List Nat := []) : Cx := ⟨Tryz.prog, W0, S, 22, [(3, ti3), (5, ti5), (9, ti9), (23, ti23), (190, ti190), (192, ti192)], [123, 124], bs, none, []⟩
abbrev n_b64_Hex : FuncId := 57
theorem b_b64_Hex : Tryz.prog.funcs[n_b64_Hex]? = some Tryz.f57 := Tryz.func57
theorem good_b64_Hex (W0 : World) (S : Nat → Prop) (bs : List Nat := []) : Good (cx_b64_Hex W0 S bs) := ⟨List.forall_mem_cons.2 ⟨ok3, List.forall_mem_cons.2 ⟨ok5, List.forall_mem_cons.2 ⟨ok9, List.forall_mem_cons.2 ⟨ok23, List.forall_mem_cons.2 ⟨ok190, List.forall_mem_cons.2 ⟨ok192, (fun _ h => by cases h)⟩⟩⟩⟩⟩⟩, List.forall_mem_cons.2 ⟨by kernel_rfl, List.forall_mem_cons.2 ⟨by kernel_rfl, (fun _ h => by cases h)⟩⟩, mixed⟩
/-- ostiary/digest.Count -/
noncomputable def cx_digest_Count (W0 : World) (S : Nat → Prop) (bs : List Nat := []) : Cx := ⟨Tryz.prog, W0, S, 16, [(5, ti5), (22, ti22), (23, ti23)], [57], bs, none, []⟩
abbrev n_digest_Count : FuncId := 58
theorem b_digest_Count : Tryz.prog.funcs[n_digest_Count]? = some Tryz.f58 := Tryz.func58
theorem good_digest_Count (W0 : World) (S : Nat → Prop) (bs : List Nat := []) : Good (cx_digest_Count W0 S bs) := ⟨List.forall_mem_cons.2 ⟨ok5, List.forall_mem_cons.2 ⟨ok22, List.forall_mem_cons.2 ⟨ok23, (fun _ h => by cases h)⟩⟩⟩, List.forall_mem_cons.2 ⟨by kernel_rfl, (fun _ h => by cases h)⟩, mixed⟩
/-- ostiary/ostiaryref01.Hex -/
noncomputable def cx_ostiaryref01_Hex (W0 : World) (S : Nat → Prop) (bs : List Nat := []) : Cx := ⟨Tryz.prog, W0, S, 29, [(3, ti3), (5, ti5), (9, ti9), (23, ti23)], [], bs, none, []⟩
abbrev n_ostiaryref01_Hex : FuncId := 59
theorem b_ostiaryref01_Hex : Tryz.prog.funcs[n_ostiaryref01_Hex]? = some Tryz.f59 := Tryz.func59
def p_ostiaryref01_Hex_5 : Plan := .take 0 (.take 1 (.take 2 (.take 3 (.take 4 (.take 5 (.take 6 (.take 7 (.take 8 (.take 9 (.take 10 (.take 11 (.take 12 (.take 13 (.take 14 (.take 15 (.done))))))))))))))))
theorem good_ostiaryref01_Hex (W0 : World) (S : Nat → Prop) (bs : List Nat := []) : Good (cx_ostiaryref01_Hex W0 S bs) := ⟨List.forall_mem_cons.2 ⟨ok3, List.forall_mem_cons.2 ⟨ok5, List.forall_mem_cons.2 ⟨ok9, List.forall_mem_cons.2 ⟨ok23, (fun _ h => by cases h)⟩⟩⟩⟩, (fun _ h => by cases h), mixed⟩
/-- ostiary/ostiaryref01.Bytes -/
noncomputable def cx_ostiaryref01_Bytes (W0 : World) (S : Nat → Prop) (bs : List Nat := []) : Cx := ⟨Tryz.prog, W0, S, 24, [(3, ti3), (5, ti5), (23, ti23), (97, ti97)], [], bs, none, []⟩
abbrev n_ostiaryref01_Bytes : FuncId := 60
theorem b_ostiaryref01_Bytes : Tryz.prog.funcs[n_ostiaryref01_Bytes]? = some Tryz.f60 := Tryz.func60
theorem good_ostiaryref01_Bytes (W0 : World) (S : Nat → Prop) (bs : List Nat := []) : Good (cx_ostiaryref01_Bytes W0 S bs) := ⟨List.forall_mem_cons.2 ⟨ok3, List.forall_mem_cons.2 ⟨ok5, List.forall_mem_cons.2 ⟨ok23, List.forall_mem_cons.2 ⟨ok97, (fun _ h => by cases h)⟩⟩⟩⟩, (fun _ h => by cases h), mixed⟩
/-- ostiary/name.Plain -/
noncomputable def cx_name_Plain (W0 : World) (S : Nat → Prop) (bs : List Nat := []) : Cx := ⟨Tryz.prog, W0, S, 37, [(3, ti3), (5, ti5), (9, ti9), (23, ti23)], [], bs, none, []⟩
abbrev n_name_Plain : FuncId := 61
theorem b_name_Plain : Tryz.prog.funcs[n_name_Plain]? = some Tryz.f61 := Tryz.func61
theorem good_name_Plain (W0 : World) (S : Nat → Prop) (bs : List Nat := []) : Good (cx_name_Plain W0 S bs) := ⟨List.forall_mem_cons.2 ⟨ok3, List.forall_mem_cons.2 ⟨ok5, List.forall_mem_cons.2 ⟨ok9, List.forall_mem_cons.2 ⟨ok23, (fun _ h => by cases h)⟩⟩⟩⟩, (fun _ h => by cases h), mixed⟩
/-- ostiary/name.Name -/
noncomputable def cx_name_Name (W0 : World) (S : Nat → Prop) (bs : List Nat := []) : Cx := ⟨Tryz.prog, W0, S, 8, [(3, ti3), (9, ti9)], [125], bs, none, []⟩
abbrev n_name_Name : FuncId := 62
theorem b_name_Name : Tryz.prog.funcs[n_name_Name]? = some Tryz.f62 := Tryz.func62
theorem good_name_Name (W0 : World) (S : Nat → Prop) (bs : List Nat := []) : Good (cx_name_Name W0 S bs) := ⟨List.forall_mem_cons.2 ⟨ok3, List.forall_mem_cons.2 ⟨ok9, (fun _ h => by cases h)⟩⟩, List.forall_mem_cons.2 ⟨by kernel_rfl, (fun _ h => by cases h)⟩, mixed⟩
/-- ostiary/name.Password -/
noncomputable def cx_name_Password (W0 : World) (S : Nat → Prop) (bs : List Nat := []) : Cx := ⟨Tryz.prog, W0, S, 8, [(3, ti3), (9, ti9)], [125], bs, none, []⟩
abbrev n_name_Password : FuncId := 63
theorem b_name_Password : Tryz.prog.funcs[n_name_Password]? = some Tryz.f63 := Tryz.func63
theorem good_name_Password (W0 : World) (S : Nat → Prop) (bs : List Nat := []) : Good (cx_name_Password W0 S bs) := ⟨List.forall_mem_cons.2 ⟨ok3, List.forall_mem_cons.2 ⟨ok9, (fun _ h => by cases h)⟩⟩, List.forall_mem_cons.2 ⟨by kernel_rfl, (fun _ h => by cases h)⟩, mixed⟩
/-- ostiary/cred.salted -/
noncomputable def cx_cred_salted (W0 : World) (S : Nat → Prop) (bs : List Nat := []) : Cx := ⟨Tryz.prog, W0, S, 21, [(3, ti3), (5, ti5), (23, ti23)], [], bs, none, []⟩
abbrev n_cred_salted : FuncId := 64
theorem b_cred_salted : Tryz.prog.funcs[n_cred_salted]? = some Tryz.f64 := Tryz.func64
theorem good_cred_salted (W0 : World) (S : Nat → Prop) (bs : List Nat := []) : Good (cx_cred_salted W0 S bs) := ⟨List.forall_mem_cons.2 ⟨ok3, List.forall_mem_cons.2 ⟨ok5, List.forall_mem_cons.2 ⟨ok23, (fun _ h => by cases h)⟩⟩⟩, (fun _ h => by cases h), mixed⟩
/-- bytes.Clone -/
noncomputable def cx_bytes_Clone (W0 : World) (S : Nat → Prop) (bs : List Nat := []) : Cx := ⟨Tryz.prog, W0, S, 8, [(5, ti5), (23, ti23)], [], bs, none, []⟩
abbrev n_bytes_Clone : FuncId := 65
theorem b_bytes_Clone : Tryz.prog.funcs[n_bytes_Clone]? = some Tryz.f65 := Tryz.func65
theorem good_bytes_Clone (W0 : World) (S : Nat → Prop) (bs : List Nat := []) : Good (cx_bytes_Clone W0 S bs) := ⟨List.forall_mem_cons.2 ⟨ok5, List.forall_mem_cons.2 ⟨ok23, (fun _ h => by cases h)⟩⟩, (fun _ h => by cases h), mixed⟩
/-- ostiary/ostiaryref04.Plain -/
noncomputable def cx_ostiaryref04_Plain (W0 : World) (S : Nat → Prop) (bs : List Nat := []) : Cx := ⟨Tryz.prog, W0, S, 45, [(3, ti3), (5, ti5), (9, ti9)], [], bs, none, []⟩
abbrev n_ostiaryref04_Plain : FuncId := 66
theorem b_ostiaryref04_Plain : Tryz.prog.funcs[n_ostiaryref04_Plain]? = some Tryz.f66 := Tryz.func66
theorem good_ostiaryref04_Plain (W0 : World) (S : Nat → Prop) (bs : List Nat := []) : Good (cx_ostiaryref04_Plain W0 S bs) := ⟨List.forall_mem_cons.2 ⟨ok3, List.forall_mem_cons.2 ⟨ok5, List.forall_mem_cons.2 ⟨ok9, (fun _ h => by cases h)⟩⟩⟩, (fun _ h => by cases h), mixed⟩
/-- ostiary/ostiaryref04.Sized -/
noncomputable def cx_ostiaryref04_Sized (W0 : World) (S : Nat → Prop) (bs : List Nat := []) : Cx := ⟨Tryz.prog, W0, S, 24, [(3, ti3), (9, ti9)], [126], bs, none, []⟩
abbrev n_ostiaryref04_Sized : FuncId := 67
theorem b_ostiaryref04_Sized : Tryz.prog.funcs[n_ostiaryref04_Sized]? = some Tryz.f67 := Tryz.func67
theorem good_ostiaryref04_Sized (W0 : World) (S : Nat → Prop) (bs : List Nat := []) : Good (cx_ostiaryref04_Sized W0 S bs) := ⟨List.forall_mem_cons.2 ⟨ok3, List.forall_mem_cons.2 ⟨ok9, (fun _ h => by cases h)⟩⟩, List.forall_mem_cons.2 ⟨by kernel_rfl, (fun _ h => by cases h)⟩, mixed⟩
/-- ostiary/ostiaryref14.salted -/
noncomputable def cx_ostiaryref14_salted (W0 : World) (S : Nat → Prop) (bs : List Nat := []) : Cx := ⟨Tryz.prog, W0, S, 21, [(3, ti3), (5, ti5), (23, ti23)], [], bs, none, []⟩
abbrev n_ostiaryref14_salted : FuncId := 68
theorem b_ostiaryref14_salted : Tryz.prog.funcs[n_ostiaryref14_salted]? = some Tryz.f68 := Tryz.func68
theorem good_ostiaryref14_salted (W0 : World) (S : Nat → Prop) (bs : List Nat := []) : Good (cx_ostiaryref14_salted W0 S bs) := ⟨List.forall_mem_cons.2 ⟨ok3, List.forall_mem_cons.2 ⟨ok5, List.forall_mem_cons.2 ⟨ok23, (fun _ h => by cases h)⟩⟩⟩, (fun _ h => by cases h), mixed⟩
/-- ostiary/ostiaryref05.Stretch -/
noncomputable def cx_ostiaryref05_Stretch (W0 : World) (S : Nat → Prop) (bs : List Nat := []) : Cx := ⟨Tryz.prog, W0, S, 31, [(3, ti3), (4, ti4), (5, ti5), (23, ti23), (30, ti30), (31, ti31), (33, ti33), (68, ti68), (70, ti70)], [23, 55, 127], bs, none, []⟩
abbrev n_ostiaryref05_Stretch : FuncId := 69
theorem b_ostiaryref05_Stretch : Tryz.prog.funcs[n_ostiaryref05_Stretch]? = some Tryz.f69 := Tryz.func69
theorem good_ostiaryref05_Stretch (W0 : World) (S : Nat → Prop) (bs : List Nat := []) : Good (cx_ostiaryref05_Stretch W0 S bs) := ⟨List.forall_mem_cons.2 ⟨ok3, List.forall_mem_cons.2 ⟨ok4, List.forall_mem_cons.2 ⟨ok5, List.forall_mem_cons.2 ⟨ok23, List.forall_mem_cons.2 ⟨ok30, List.forall_mem_cons.2 ⟨ok31, List.forall_mem_cons.2 ⟨ok33, List.forall_mem_cons.2 ⟨ok68, List.forall_mem_cons.2 ⟨ok70, (fun _ h => by cases h)⟩⟩⟩⟩⟩⟩⟩⟩⟩, List.forall_mem_cons.2 ⟨by kernel_rfl, List.forall_mem_cons.2 ⟨by kernel_rfl, List.forall_mem_cons.2 ⟨by kernel_rfl, (fun _ h => by cases h)⟩⟩⟩, mixed⟩
/-- (*ostiary/cred.Store).AddTenant -/
noncomputable def cx_cred_Store_AddTenant (W0 : World) (S : Nat → Prop) (bs : List Nat := []) : Cx := ⟨Tryz.prog, W0, S, 30, [(3, ti3), (9, ti9), (92, ti92), (97, ti97), (154, ti154), (156, ti156), (179, ti179), (201, ti201)], [61, 128], bs, none, []⟩
abbrev n_cred_Store_AddTenant : FuncId := 70
theorem b_cred_Store_AddTenant : Tryz.prog.funcs[n_cred_Store_AddTenant]? = some Tryz.f70 := Tryz.func70
theorem good_cred_Store_AddTenant (W0 : World) (S : Nat → Prop) (bs : List Nat := []) : Good (cx_cred_Store_AddTenant W0 S bs) := ⟨List.forall_mem_cons.2 ⟨ok3, List.forall_mem_cons.2 ⟨ok9, List.forall_mem_cons.2 ⟨ok92, List.forall_mem_cons.2 ⟨ok97, List.forall_mem_cons.2 ⟨ok154, List.forall_mem_cons.2 ⟨ok156, List.forall_mem_cons.2 ⟨ok179, List.forall_mem_cons.2 ⟨ok201, (fun _ h => by cases h)⟩⟩⟩⟩⟩⟩⟩⟩, List.forall_mem_cons.2 ⟨by kernel_rfl, List.forall_mem_cons.2 ⟨by kernel_rfl, (fun _ h => by cases h)⟩⟩, mixed⟩
/-- (*ostiary/cred.Store).Add -/
noncomputable def cx_cred_Store_Add (W0 : World) (S : Nat → Prop) (bs : List Nat := []) : Cx := ⟨Tryz.prog, W0, S, 59, [(3, ti3), (4, ti4), (5, ti5), (9, ti9), (23, ti23), (41, ti41), (42, ti42), (92, ti92), (95, ti95), (97, ti97), (113, ti113), (154, ti154), (156, ti156), (179, ti179), (201, ti201)], [62, 128, 129, 130, 131], bs, none, []⟩
abbrev n_cred_Store_Add : FuncId := 71
theorem b_cred_Store_Add : Tryz.prog.funcs[n_cred_Store_Add]? = some Tryz.f71 := Tryz.func71
theorem good_cred_Store_Add (W0 : World) (S : Nat → Prop) (bs : List Nat := []) : Good (cx_cred_Store_Add W0 S bs) := ⟨List.forall_mem_cons.2 ⟨ok3, List.forall_mem_cons.2 ⟨ok4, List.forall_mem_cons.2 ⟨ok5, List.forall_mem_cons.2 ⟨ok9, List.forall_mem_cons.2 ⟨ok23, List.forall_mem_cons.2 ⟨ok41, List.forall_mem_cons.2 ⟨ok42, List.forall_mem_cons.2 ⟨ok92, List.forall_mem_cons.2 ⟨ok95, List.forall_mem_cons.2 ⟨ok97, List.forall_mem_cons.2 ⟨ok113, List.forall_mem_cons.2 ⟨ok154, List.forall_mem_cons.2 ⟨ok156, List.forall_mem_cons.2 ⟨ok179, List.forall_mem_cons.2 ⟨ok201, (fun _ h => by cases h)⟩⟩⟩⟩⟩⟩⟩⟩⟩⟩⟩⟩⟩⟩⟩, List.forall_mem_cons.2 ⟨by kernel_rfl, List.forall_mem_cons.2 ⟨by kernel_rfl, List.forall_mem_cons.2 ⟨by kernel_rfl, List.forall_mem_cons.2 ⟨by kernel_rfl, List.forall_mem_cons.2 ⟨by kernel_rfl, (fun _ h => by cases h)⟩⟩⟩⟩⟩, mixed⟩
/-- ostiary/ostiarylaw14.plain -/
noncomputable def cx_ostiarylaw14_plain (W0 : World) (S : Nat → Prop) (bs : List Nat := []) : Cx := ⟨Tryz.prog, W0, S, 6, [(3, ti3), (5, ti5), (23, ti23), (41, ti41)], [], bs, none, []⟩
abbrev n_ostiarylaw14_plain : FuncId := 72
theorem b_ostiarylaw14_plain : Tryz.prog.funcs[n_ostiarylaw14_plain]? = some Tryz.f72 := Tryz.func72
def p_ostiarylaw14_plain_1 : Plan := .alt 0 (.alt 1 (.alt 2 (.exec 3 (.take 4 (.exec 5 (.done)))) (.exec 3 (.exec 2 (.take 4 (.exec 5 (.done)))))) (.alt 2 (.alt 1 (.exec 3 (.take 4 (.exec 5 (.done)))) (.exec 3 (.exec 1 (.take 4 (.exec 5 (.done)))))) (.exec 3 (.alt 1 (.exec 2 (.take 4 (.exec 5 (.done)))) (.exec 2 (.exec 1 (.take 4 (.exec 5 (.done))))))))) (.alt 1 (.alt 0 (.alt 2 (.exec 3 (.take 4 (.exec 5 (.done)))) (.exec 3 (.exec 2 (.take 4 (.exec 5 (.done)))))) (.alt 2 (.alt 0 (.exec 3 (.take 4 (.exec 5 (.done)))) (.exec 3 (.exec 0 (.take 4 (.exec 5 (.done)))))) (.exec 3 (.alt 0 (.exec 2 (.take 4 (.exec 5 (.done)))) (.exec 2 (.exec 0 (.take 4 (.exec 5 (.done))))))))) (.alt 2 (.alt 0 (.alt 1 (.exec 3 (.take 4 (.exec 5 (.done)))) (.exec 3 (.exec 1 (.take 4 (.exec 5 (.done)))))) (.alt 1 (.alt 0 (.exec 3 (.take 4 (.exec 5 (.done)))) (.exec 3 (.exec 0 (.take 4 (.exec 5 (.done)))))) (.exec 3 (.alt 0 (.exec 1 (.take 4 (.exec 5 (.done)))) (.exec 1 (.exec 0 (.take 4 (.exec 5 (.done))))))))) (.exec 3 (.alt 0 (.alt 1 (.exec 2 (.take 4 (.exec 5 (.done)))) (.exec 2 (.exec 1 (.take 4 (.exec 5 (.done)))))) (.alt 1 (.alt 0 (.exec 2 (.take 4 (.exec 5 (.done)))) (.exec 2 (.exec 0 (.take 4 (.exec 5 (.done)))))) (.exec 2 (.alt 0 (.exec 1 (.take 4 (.exec 5 (.done)))) (.exec 1 (.exec 0 (.take 4 (.exec 5 (.done))))))))))))
theorem good_ostiarylaw14_plain (W0 : World) (S : Nat → Prop) (bs : List Nat := []) : Good (cx_ostiarylaw14_plain W0 S bs) := ⟨List.forall_mem_cons.2 ⟨ok3, List.forall_mem_cons.2 ⟨ok5, List.forall_mem_cons.2 ⟨ok23, List.forall_mem_cons.2 ⟨ok41, (fun _ h => by cases h)⟩⟩⟩⟩, (fun _ h => by cases h), mixed⟩
/-- (*ostiary/cred.Store).Grant -/
noncomputable def cx_cred_Store_Grant (W0 : World) (S : Nat → Prop) (bs : List Nat := []) : Cx := ⟨Tryz.prog, W0, S, 63, [(3, ti3), (4, ti4), (5, ti5), (9, ti9), (23, ti23), (41, ti41), (92, ti92), (95, ti95), (97, ti97), (113, ti113), (154, ti154), (156, ti156), (179, ti179), (201, ti201)], [61, 115, 131, 132, 133, 134], bs, none, []⟩
abbrev n_cred_Store_Grant : FuncId := 73
theorem b_cred_Store_Grant : Tryz.prog.funcs[n_cred_Store_Grant]? = some Tryz.f73 := Tryz.func73
theorem good_cred_Store_Grant (W0 : World) (S : Nat → Prop) (bs : List Nat := []) : Good (cx_cred_Store_Grant W0 S bs) := ⟨List.forall_mem_cons.2 ⟨ok3, List.forall_mem_cons.2 ⟨ok4, List.forall_mem_cons.2 ⟨ok5, List.forall_mem_cons.2 ⟨ok9, List.forall_mem_cons.2 ⟨ok23, List.forall_mem_cons.2 ⟨ok41, List.forall_mem_cons.2 ⟨ok92, List.forall_mem_cons.2 ⟨ok95, List.forall_mem_cons.2 ⟨ok97, List.forall_mem_cons.2 ⟨ok113, List.forall_mem_cons.2 ⟨ok154, List.forall_mem_cons.2 ⟨ok156, List.forall_mem_cons.2 ⟨ok179, List.forall_mem_cons.2 ⟨ok201, (fun _ h => by cases h)⟩⟩⟩⟩⟩⟩⟩⟩⟩⟩⟩⟩⟩⟩, List.forall_mem_cons.2 ⟨by kernel_rfl, List.forall_mem_cons.2 ⟨by kernel_rfl, List.forall_mem_cons.2 ⟨by kernel_rfl, List.forall_mem_cons.2 ⟨by kernel_rfl, List.forall_mem_cons.2 ⟨by kernel_rfl, List.forall_mem_cons.2 ⟨by kernel_rfl, (fun _ h => by cases h)⟩⟩⟩⟩⟩⟩, mixed⟩
/-- (*ostiary/cred.Store).Revoke -/
noncomputable def cx_cred_Store_Revoke (W0 : World) (S : Nat → Prop) (bs : List Nat := []) : Cx := ⟨Tryz.prog, W0, S, 30, [(3, ti3), (4, ti4), (5, ti5), (9, ti9), (23, ti23), (41, ti41), (92, ti92), (95, ti95), (97, ti97), (113, ti113), (154, ti154), (156, ti156), (179, ti179), (201, ti201)], [115, 131], bs, none, []⟩
abbrev n_cred_Store_Revoke : FuncId := 74
theorem b_cred_Store_Revoke : Tryz.prog.funcs[n_cred_Store_Revoke]? = some Tryz.f74 := Tryz.func74
theorem good_cred_Store_Revoke (W0 : World) (S : Nat → Prop) (bs : List Nat := []) : Good (cx_cred_Store_Revoke W0 S bs) := ⟨List.forall_mem_cons.2 ⟨ok3, List.forall_mem_cons.2 ⟨ok4, List.forall_mem_cons.2 ⟨ok5, List.forall_mem_cons.2 ⟨ok9, List.forall_mem_cons.2 ⟨ok23, List.forall_mem_cons.2 ⟨ok41, List.forall_mem_cons.2 ⟨ok92, List.forall_mem_cons.2 ⟨ok95, List.forall_mem_cons.2 ⟨ok97, List.forall_mem_cons.2 ⟨ok113, List.forall_mem_cons.2 ⟨ok154, List.forall_mem_cons.2 ⟨ok156, List.forall_mem_cons.2 ⟨ok179, List.forall_mem_cons.2 ⟨ok201, (fun _ h => by cases h)⟩⟩⟩⟩⟩⟩⟩⟩⟩⟩⟩⟩⟩⟩, List.forall_mem_cons.2 ⟨by kernel_rfl, List.forall_mem_cons.2 ⟨by kernel_rfl, (fun _ h => by cases h)⟩⟩, mixed⟩
/-- ostiary/box.Number -/
noncomputable def cx_box_Number (W0 : World) (S : Nat → Prop) (bs : List Nat := []) : Cx := ⟨Tryz.prog, W0, S, 33, [(3, ti3), (5, ti5), (23, ti23)], [79, 80], bs, none, []⟩
abbrev n_box_Number : FuncId := 75
theorem b_box_Number : Tryz.prog.funcs[n_box_Number]? = some Tryz.f75 := Tryz.func75
def p_box_Number_1 : Plan := .take 0 (.take 1 (.take 2 (.take 3 (.take 4 (.take 5 (.exec 6 (.exec 7 (.take 8 (.take 9 (.done))))))))))
theorem good_box_Number (W0 : World) (S : Nat → Prop) (bs : List Nat := []) : Good (cx_box_Number W0 S bs) := ⟨List.forall_mem_cons.2 ⟨ok3, List.forall_mem_cons.2 ⟨ok5, List.forall_mem_cons.2 ⟨ok23, (fun _ h => by cases h)⟩⟩⟩, List.forall_mem_cons.2 ⟨by kernel_rfl, List.forall_mem_cons.2 ⟨by kernel_rfl, (fun _ h => by cases h)⟩⟩, mixed⟩
/-- ostiary/ostiaryref05.Turn -/
noncomputable def cx_ostiaryref05_Turn (W0 : World) (S : Nat → Prop) (bs : List Nat := []) : Cx := ⟨Tryz.prog, W0, S, 97, [(3, ti3), (4, ti4), (5, ti5), (23, ti23), (30, ti30), (31, ti31), (33, ti33), (68, ti68), (70, ti70)], [15, 55, 118, 135, 136, 137, 138], bs, none, []⟩
abbrev n_ostiaryref05_Turn : FuncId := 76
theorem b_ostiaryref05_Turn : Tryz.prog.funcs[n_ostiaryref05_Turn]? = some Tryz.f76 := Tryz.func76
theorem good_ostiaryref05_Turn (W0 : World) (S : Nat → Prop) (bs : List Nat := []) : Good (cx_ostiaryref05_Turn W0 S bs) := ⟨List.forall_mem_cons.2 ⟨ok3, List.forall_mem_cons.2 ⟨ok4, List.forall_mem_cons.2 ⟨ok5, List.forall_mem_cons.2 ⟨ok23, List.forall_mem_cons.2 ⟨ok30, List.forall_mem_cons.2 ⟨ok31, List.forall_mem_cons.2 ⟨ok33, List.forall_mem_cons.2 ⟨ok68, List.forall_mem_cons.2 ⟨ok70, (fun _ h => by cases h)⟩⟩⟩⟩⟩⟩⟩⟩⟩, List.forall_mem_cons.2 ⟨by kernel_rfl, List.forall_mem_cons.2 ⟨by kernel_rfl, List.forall_mem_cons.2 ⟨by kernel_rfl, List.forall_mem_cons.2 ⟨by kernel_rfl, List.forall_mem_cons.2 ⟨by kernel_rfl, List.forall_mem_cons.2 ⟨by kernel_rfl, List.forall_mem_cons.2 ⟨by kernel_rfl, (fun _ h => by cases h)⟩⟩⟩⟩⟩⟩⟩, mixed⟩
/-- (*ostiary/box.Box).open -/
noncomputable def cx_box_Box_open (W0 : World) (S : Nat → Prop) (bs : List Nat := []) : Cx := ⟨Tryz.prog, W0, S, 72, [(3, ti3), (4, ti4), (5, ti5), (9, ti9), (23, ti23), (68, ti68), (84, ti84), (118, ti118), (119, ti119), (121, ti121), (142, ti142)], [65, 75, 79, 80, 139], bs, none, []⟩
abbrev n_box_Box_open : FuncId := 77
theorem b_box_Box_open : Tryz.prog.funcs[n_box_Box_open]? = some Tryz.f77 := Tryz.func77
def p_box_Box_open_5 : Plan := .take 0 (.take 1 (.take 2 (.take 3 (.take 4 (.take 5 (.take 6 (.take 7 (.exec 8 (.exec 9 (.take 10 (.take 11 (.take 12 (.done)))))))))))))
def p_box_Box_open_11 : Plan := .take 0 (.take 1 (.take 3 (.take 4 (.exec 2 (.exec 5 (.take 6 (.exec 7 (.take 8 (.done)))))))))
theorem good_box_Box_open (W0 : World) (S : Nat → Prop) (bs : List Nat := []) : Good (cx_box_Box_open W0 S bs) := ⟨List.forall_mem_cons.2 ⟨ok3, List.forall_mem_cons.2 ⟨ok4, List.forall_mem_cons.2 ⟨ok5, List.forall_mem_cons.2 ⟨ok9, List.forall_mem_cons.2 ⟨ok23, List.forall_mem_cons.2 ⟨ok68, List.forall_mem_cons.2 ⟨ok84, List.forall_mem_cons.2 ⟨ok118, List.forall_mem_cons.2 ⟨ok119, List.forall_mem_cons.2 ⟨ok121, List.forall_mem_cons.2 ⟨ok142, (fun _ h => by cases h)⟩⟩⟩⟩⟩⟩⟩⟩⟩⟩⟩, List.forall_mem_cons.2 ⟨by kernel_rfl, List.forall_mem_cons.2 ⟨by kernel_rfl, List.forall_mem_cons.2 ⟨by kernel_rfl, List.forall_mem_cons.2 ⟨by kernel_rfl, List.forall_mem_cons.2 ⟨by kernel_rfl, (fun _ h => by cases h)⟩⟩⟩⟩⟩, mixed⟩
/-- ostiary/box.turned -/
noncomputable def cx_box_turned (W0 : World) (S : Nat → Prop) (bs : List Nat := []) : Cx := ⟨Tryz.prog, W0, S, 58, [(3, ti3), (5, ti5), (23, ti23), (68, ti68), (142, ti142)], [140, 141, 142], bs, none, []⟩
abbrev n_box_turned : FuncId := 78
theorem b_box_turned : Tryz.prog.funcs[n_box_turned]? = some Tryz.f78 := Tryz.func78
theorem good_box_turned (W0 : World) (S : Nat → Prop) (bs : List Nat := []) : Good (cx_box_turned W0 S bs) := ⟨List.forall_mem_cons.2 ⟨ok3, List.forall_mem_cons.2 ⟨ok5, List.forall_mem_cons.2 ⟨ok23, List.forall_mem_cons.2 ⟨ok68, List.forall_mem_cons.2 ⟨ok142, (fun _ h => by cases h)⟩⟩⟩⟩⟩, List.forall_mem_cons.2 ⟨by kernel_rfl, List.forall_mem_cons.2 ⟨by kernel_rfl, List.forall_mem_cons.2 ⟨by kernel_rfl, (fun _ h => by cases h)⟩⟩⟩, mixed⟩
/-- bytes.Equal -/
noncomputable def cx_bytes_Equal (W0 : World) (S : Nat → Prop) (bs : List Nat := []) : Cx := ⟨Tryz.prog, W0, S, 10, [(5, ti5), (9, ti9), (23, ti23)], [], bs, none, []⟩
abbrev n_bytes_Equal : FuncId := 79
theorem b_bytes_Equal : Tryz.prog.funcs[n_bytes_Equal]? = some Tryz.f79 := Tryz.func79
theorem good_bytes_Equal (W0 : World) (S : Nat → Prop) (bs : List Nat := []) : Good (cx_bytes_Equal W0 S bs) := ⟨List.forall_mem_cons.2 ⟨ok5, List.forall_mem_cons.2 ⟨ok9, List.forall_mem_cons.2 ⟨ok23, (fun _ h => by cases h)⟩⟩⟩, (fun _ h => by cases h), mixed⟩
/-- ostiary/box.mark -/
noncomputable def cx_box_mark (W0 : World) (S : Nat → Prop) (bs : List Nat := []) : Cx := ⟨Tryz.prog, W0, S, 7, [(5, ti5), (23, ti23)], [], bs, none, []⟩
abbrev n_box_mark : FuncId := 80
theorem b_box_mark : Tryz.prog.funcs[n_box_mark]? = some Tryz.f80 := Tryz.func80
theorem good_box_mark (W0 : World) (S : Nat → Prop) (bs : List Nat := []) : Good (cx_box_mark W0 S bs) := ⟨List.forall_mem_cons.2 ⟨ok5, List.forall_mem_cons.2 ⟨ok23, (fun _ h => by cases h)⟩⟩, (fun _ h => by cases h), mixed⟩
/-- ostiary/box.Handle -/
noncomputable def cx_box_Handle (W0 : World) (S : Nat → Prop) (bs : List Nat := []) : Cx := ⟨Tryz.prog, W0, S, 17, [(3, ti3), (5, ti5), (23, ti23)], [80], bs, none, []⟩
abbrev n_box_Handle : FuncId := 81
theorem b_box_Handle : Tryz.prog.funcs[n_box_Handle]? = some Tryz.f81 := Tryz.func81
theorem good_box_Handle (W0 : World) (S : Nat → Prop) (bs : List Nat := []) : Good (cx_box_Handle W0 S bs) := ⟨List.forall_mem_cons.2 ⟨ok3, List.forall_mem_cons.2 ⟨ok5, List.forall_mem_cons.2 ⟨ok23, (fun _ h => by cases h)⟩⟩⟩, List.forall_mem_cons.2 ⟨by kernel_rfl, (fun _ h => by cases h)⟩, mixed⟩
/-- (*ostiary/box.Box).tag -/
noncomputable def cx_box_Box_tag (W0 : World) (S : Nat → Prop) (bs : List Nat := []) : Cx := ⟨Tryz.prog, W0, S, 61, [(3, ti3), (4, ti4), (5, ti5), (9, ti9), (23, ti23), (68, ti68), (84, ti84), (118, ti118), (119, ti119), (121, ti121)], [81, 89, 143], bs, none, []⟩
abbrev n_box_Box_tag : FuncId := 82
theorem b_box_Box_tag : Tryz.prog.funcs[n_box_Box_tag]? = some Tryz.f82 := Tryz.func82
def p_box_Box_tag_8 : Plan := .take 0 (.take 1 (.take 2 (.take 3 (.take 4 (.take 5 (.exec 6 (.exec 7 (.exec 8 (.exec 9 (.take 10 (.brk 11 (.done))))))))))))
def p_box_Box_tag_9 : Plan := .take 0 (.take 1 (.take 2 (.take 3 (.take 4 (.take 5 (.take 6 (.take 7 (.take 8 (.take 9 (.exec 10 (.done)))))))))))
theorem good_box_Box_tag (W0 : World) (S : Nat → Prop) (bs : List Nat := []) : Good (cx_box_Box_tag W0 S bs) := ⟨List.forall_mem_cons.2 ⟨ok3, List.forall_mem_cons.2 ⟨ok4, List.forall_mem_cons.2 ⟨ok5, List.forall_mem_cons.2 ⟨ok9, List.forall_mem_cons.2 ⟨ok23, List.forall_mem_cons.2 ⟨ok68, List.forall_mem_cons.2 ⟨ok84, List.forall_mem_cons.2 ⟨ok118, List.forall_mem_cons.2 ⟨ok119, List.forall_mem_cons.2 ⟨ok121, (fun _ h => by cases h)⟩⟩⟩⟩⟩⟩⟩⟩⟩⟩, List.forall_mem_cons.2 ⟨by kernel_rfl, List.forall_mem_cons.2 ⟨by kernel_rfl, List.forall_mem_cons.2 ⟨by kernel_rfl, (fun _ h => by cases h)⟩⟩⟩, mixed⟩
/-- ostiary/ostiaryref05.ints -/
noncomputable def cx_ostiaryref05_ints (W0 : World) (S : Nat → Prop) (bs : List Nat := []) : Cx := ⟨Tryz.prog, W0, S, 26, [(3, ti3), (68, ti68)], [], bs, none, []⟩
abbrev n_ostiaryref05_ints : FuncId := 83
theorem b_ostiaryref05_ints : Tryz.prog.funcs[n_ostiaryref05_ints]? = some Tryz.f83 := Tryz.func83
def p_ostiaryref05_ints_6 : Plan := .take 0 (.take 1 (.take 2 (.take 3 (.take 4 (.take 5 (.take 6 (.take 7 (.take 8 (.done)))))))))
theorem good_ostiaryref05_ints (W0 : World) (S : Nat → Prop) (bs : List Nat := []) : Good (cx_ostiaryref05_ints W0 S bs) := ⟨List.forall_mem_cons.2 ⟨ok3, List.forall_mem_cons.2 ⟨ok68, (fun _ h => by cases h)⟩⟩, (fun _ h => by cases h), mixed⟩
/-- bytes.Join -/
noncomputable def cx_bytes_Join (W0 : World) (S : Nat → Prop) (bs : List Nat := []) : Cx := ⟨Tryz.prog, W0, S, 92, [(3, ti3), (5, ti5), (9, ti9), (23, ti23), (58, ti58)], [], bs, none, []⟩
abbrev n_bytes_Join : FuncId := 84
theorem b_bytes_Join : Tryz.prog.funcs[n_bytes_Join]? = some Tryz.f84 := Tryz.func84
theorem good_bytes_Join (W0 : World) (S : Nat → Prop) (bs : List Nat := []) : Good (cx_bytes_Join W0 S bs) := ⟨List.forall_mem_cons.2 ⟨ok3, List.forall_mem_cons.2 ⟨ok5, List.forall_mem_cons.2 ⟨ok9, List.forall_mem_cons.2 ⟨ok23, List.forall_mem_cons.2 ⟨ok58, (fun _ h => by cases h)⟩⟩⟩⟩⟩, (fun _ h => by cases h), mixed⟩
/-- ostiary/sha.Sum -/
noncomputable def cx_sha_Sum (W0 : World) (S : Nat → Prop) (bs : List Nat := []) : Cx := ⟨Tryz.prog, W0, S, 13, [(5, ti5), (22, ti22), (23, ti23), (58, ti58), (183, ti183), (212, ti212)], [84, 145, 146, 147], bs, none, []⟩
abbrev n_sha_Sum : FuncId := 85
theorem b_sha_Sum : Tryz.prog.funcs[n_sha_Sum]? = some Tryz.f85 := Tryz.func85
theorem good_sha_Sum (W0 : World) (S : Nat → Prop) (bs : List Nat := []) : Good (cx_sha_Sum W0 S bs) := ⟨List.forall_mem_cons.2 ⟨ok5, List.forall_mem_cons.2 ⟨ok22, List.forall_mem_cons.2 ⟨ok23, List.forall_mem_cons.2 ⟨ok58, List.forall_mem_cons.2 ⟨ok183, List.forall_mem_cons.2 ⟨ok212, (fun _ h => by cases h)⟩⟩⟩⟩⟩⟩, List.forall_mem_cons.2 ⟨by kernel_rfl, List.forall_mem_cons.2 ⟨by kernel_rfl, List.forall_mem_cons.2 ⟨by kernel_rfl, List.forall_mem_cons.2 ⟨by kernel_rfl, (fun _ h => by cases h)⟩⟩⟩⟩, mixed⟩
/-- ostiary/ostiaryref02.Sum -/
noncomputable def cx_ostiaryref02_Sum (W0 : World) (S : Nat → Prop) (bs : List Nat := []) : Cx := ⟨Tryz.prog, W0, S, 14, [(5, ti5), (23, ti23)], [56, 148], bs, none, []⟩
abbrev n_ostiaryref02_Sum : FuncId := 86
theorem b_ostiaryref02_Sum : Tryz.prog.funcs[n_ostiaryref02_Sum]? = some Tryz.f86 := Tryz.func86
theorem good_ostiaryref02_Sum (W0 : World) (S : Nat → Prop) (bs : List Nat := []) : Good (cx_ostiaryref02_Sum W0 S bs) := ⟨List.forall_mem_cons.2 ⟨ok5, List.forall_mem_cons.2 ⟨ok23, (fun _ h => by cases h)⟩⟩, List.forall_mem_cons.2 ⟨by kernel_rfl, List.forall_mem_cons.2 ⟨by kernel_rfl, (fun _ h => by cases h)⟩⟩, mixed⟩
/-- ostiary/hmac.Equal -/
noncomputable def cx_hmac_Equal (W0 : World) (S : Nat → Prop) (bs : List Nat := []) : Cx := ⟨Tryz.prog, W0, S, 31, [(3, ti3), (5, ti5), (23, ti23)], [], bs, none, []⟩
abbrev n_hmac_Equal : FuncId := 87
theorem b_hmac_Equal : Tryz.prog.funcs[n_hmac_Equal]? = some Tryz.f87 := Tryz.func87
def p_hmac_Equal_7 : Plan := .take 0 (.take 1 (.take 2 (.take 3 (.take 4 (.take 5 (.take 6 (.take 7 (.take 8 (.take 9 (.take 10 (.take 11 (.done))))))))))))
theorem good_hmac_Equal (W0 : World) (S : Nat → Prop) (bs : List Nat := []) : Good (cx_hmac_Equal W0 S bs) := ⟨List.forall_mem_cons.2 ⟨ok3, List.forall_mem_cons.2 ⟨ok5, List.forall_mem_cons.2 ⟨ok23, (fun _ h => by cases h)⟩⟩⟩, (fun _ h => by cases h), mixed⟩
/-- (*ostiary/box.Box).Terms$1 -/
noncomputable def cx_box_Box_Terms_1 (W0 : World) (S : Nat → Prop) (bs : List Nat := []) : Cx := ⟨Tryz.prog, W0, S, 23, [(3, ti3), (4, ti4), (5, ti5), (9, ti9), (23, ti23), (28, ti28), (68, ti68), (84, ti84), (118, ti118), (119, ti119), (121, ti121)], [26, 89], bs, none, []⟩
abbrev n_box_Box_Terms_1 : FuncId := 88
theorem b_box_Box_Terms_1 : Tryz.prog.funcs[n_box_Box_Terms_1]? = some Tryz.f88 := Tryz.func88
theorem good_box_Box_Terms_1 (W0 : World) (S : Nat → Prop) (bs : List Nat := []) : Good (cx_box_Box_Terms_1 W0 S bs) := ⟨List.forall_mem_cons.2 ⟨ok3, List.forall_mem_cons.2 ⟨ok4, List.forall_mem_cons.2 ⟨ok5, List.forall_mem_cons.2 ⟨ok9, List.forall_mem_cons.2 ⟨ok23, List.forall_mem_cons.2 ⟨ok28, List.forall_mem_cons.2 ⟨ok68, List.forall_mem_cons.2 ⟨ok84, List.forall_mem_cons.2 ⟨ok118, List.forall_mem_cons.2 ⟨ok119, List.forall_mem_cons.2 ⟨ok121, (fun _ h => by cases h)⟩⟩⟩⟩⟩⟩⟩⟩⟩⟩⟩, List.forall_mem_cons.2 ⟨by kernel_rfl, List.forall_mem_cons.2 ⟨by kernel_rfl, (fun _ h => by cases h)⟩⟩, mixed⟩
/-- ostiary/box.copyOf -/
noncomputable def cx_box_copyOf (W0 : World) (S : Nat → Prop) (bs : List Nat := []) : Cx := ⟨Tryz.prog, W0, S, 20, [(3, ti3), (5, ti5), (23, ti23), (68, ti68), (84, ti84)], [65, 139], bs, none, []⟩
abbrev n_box_copyOf : FuncId := 89
theorem b_box_copyOf : Tryz.prog.funcs[n_box_copyOf]? = some Tryz.f89 := Tryz.func89
def p_box_copyOf_1 : Plan := .take 0 (.take 1 (.take 3 (.take 4 (.take 6 (.take 7 (.take 9 (.take 10 (.exec 2 (.take 12 (.exec 5 (.exec 8 (.exec 11 (.brk 13 (.brk 14 (.brk 15 (.brk 16 (.brk 17 (.brk 18 (.brk 19 (.done))))))))))))))))))))
theorem good_box_copyOf (W0 : World) (S : Nat → Prop) (bs : List Nat := []) : Good (cx_box_copyOf W0 S bs) := ⟨List.forall_mem_cons.2 ⟨ok3, List.forall_mem_cons.2 ⟨ok5, List.forall_mem_cons.2 ⟨ok23, List.forall_mem_cons.2 ⟨ok68, List.forall_mem_cons.2 ⟨ok84, (fun _ h => by cases h)⟩⟩⟩⟩⟩, List.forall_mem_cons.2 ⟨by kernel_rfl, List.forall_mem_cons.2 ⟨by kernel_rfl, (fun _ h => by cases h)⟩⟩, mixed⟩
/-- ostiary/hmac.Stretch -/
noncomputable def cx_hmac_Stretch (W0 : World) (S : Nat → Prop) (bs : List Nat := []) : Cx := ⟨Tryz.prog, W0, S, 27, [(3, ti3), (5, ti5), (23, ti23), (214, ti214)], [149, 150, 151], bs, none, []⟩
abbrev n_hmac_Stretch : FuncId := 90
theorem b_hmac_Stretch : Tryz.prog.funcs[n_hmac_Stretch]? = some Tryz.f90 := Tryz.func90
theorem good_hmac_Stretch (W0 : World) (S : Nat → Prop) (bs : List Nat := []) : Good (cx_hmac_Stretch W0 S bs) := ⟨List.forall_mem_cons.2 ⟨ok3, List.forall_mem_cons.2 ⟨ok5, List.forall_mem_cons.2 ⟨ok23, List.forall_mem_cons.2 ⟨ok214, (fun _ h => by cases h)⟩⟩⟩⟩, List.forall_mem_cons.2 ⟨by kernel_rfl, List.forall_mem_cons.2 ⟨by kernel_rfl, List.forall_mem_cons.2 ⟨by kernel_rfl, (fun _ h => by cases h)⟩⟩⟩, mixed⟩
/-- ostiary/hmac.Sum -/
noncomputable def cx_hmac_Sum (W0 : World) (S : Nat → Prop) (bs : List Nat := []) : Cx := ⟨Tryz.prog, W0, S, 17, [(5, ti5), (23, ti23), (58, ti58)], [84, 85, 152], bs, none, []⟩
abbrev n_hmac_Sum : FuncId := 91
theorem b_hmac_Sum : Tryz.prog.funcs[n_hmac_Sum]? = some Tryz.f91 := Tryz.func91
theorem good_hmac_Sum (W0 : World) (S : Nat → Prop) (bs : List Nat := []) : Good (cx_hmac_Sum W0 S bs) := ⟨List.forall_mem_cons.2 ⟨ok5, List.forall_mem_cons.2 ⟨ok23, List.forall_mem_cons.2 ⟨ok58, (fun _ h => by cases h)⟩⟩⟩, List.forall_mem_cons.2 ⟨by kernel_rfl, List.forall_mem_cons.2 ⟨by kernel_rfl, List.forall_mem_cons.2 ⟨by kernel_rfl, (fun _ h => by cases h)⟩⟩⟩, mixed⟩
/-- slices.Collect[string] -/
noncomputable def cx_slices_Collect_string (W0 : World) (S : Nat → Prop) (bs : List Nat := []) : Cx := ⟨Tryz.prog, W0, S, 5, [(9, ti9), (95, ti95), (159, ti159)], [153], bs, none, []⟩
abbrev n_slices_Collect_string : FuncId := 92
theorem b_slices_Collect_string : Tryz.prog.funcs[n_slices_Collect_string]? = some Tryz.f92 := Tryz.func92
theorem good_slices_Collect_string (W0 : World) (S : Nat → Prop) (bs : List Nat := []) : Good (cx_slices_Collect_string W0 S bs) := ⟨List.forall_mem_cons.2 ⟨ok9, List.forall_mem_cons.2 ⟨ok95, List.forall_mem_cons.2 ⟨ok159, (fun _ h => by cases h)⟩⟩⟩, List.forall_mem_cons.2 ⟨by kernel_rfl, (fun _ h => by cases h)⟩, mixed⟩
/-- (*ostiary/cred.Store).Tenants -/
noncomputable def cx_cred_Store_Tenants (W0 : World) (S : Nat → Prop) (bs : List Nat := []) : Cx := ⟨Tryz.prog, W0, S, 4, [(92, ti92)], [154], bs, none, []⟩
abbrev n_cred_Store_Tenants : FuncId := 93
theorem b_cred_Store_Tenants : Tryz.prog.funcs[n_cred_Store_Tenants]? = some Tryz.f93 := Tryz.func93
theorem good_cred_Store_Tenants (W0 : World) (S : Nat → Prop) (bs : List Nat := []) : Good (cx_cred_Store_Tenants W0 S bs) := ⟨List.forall_mem_cons.2 ⟨ok92, (fun _ h => by cases h)⟩, List.forall_mem_cons.2 ⟨by kernel_rfl, (fun _ h => by cases h)⟩, mixed⟩
/-- slices.Collect[ostiary/cred.Cred] -/
noncomputable def cx_slices_Collect_cred_Cred (W0 : World) (S : Nat → Prop) (bs : List Nat := []) : Cx := ⟨Tryz.prog, W0, S, 5, [(3, ti3), (4, ti4), (5, ti5), (9, ti9), (23, ti23), (41, ti41), (95, ti95), (97, ti97), (113, ti113), (161, ti161), (164, ti164)], [157], bs, none, []⟩
abbrev n_slices_Collect_cred_Cred : FuncId := 94
theorem b_slices_Collect_cred_Cred : Tryz.prog.funcs[n_slices_Collect_cred_Cred]? = some Tryz.f94 := Tryz.func94
theorem good_slices_Collect_cred_Cred (W0 : World) (S : Nat → Prop) (bs : List Nat := []) : Good (cx_slices_Collect_cred_Cred W0 S bs) := ⟨List.forall_mem_cons.2 ⟨ok3, List.forall_mem_cons.2 ⟨ok4, List.forall_mem_cons.2 ⟨ok5, List.forall_mem_cons.2 ⟨ok9, List.forall_mem_cons.2 ⟨ok23, List.forall_mem_cons.2 ⟨ok41, List.forall_mem_cons.2 ⟨ok95, List.forall_mem_cons.2 ⟨ok97, List.forall_mem_cons.2 ⟨ok113, List.forall_mem_cons.2 ⟨ok161, List.forall_mem_cons.2 ⟨ok164, (fun _ h => by cases h)⟩⟩⟩⟩⟩⟩⟩⟩⟩⟩⟩, List.forall_mem_cons.2 ⟨by kernel_rfl, (fun _ h => by cases h)⟩, mixed⟩
/-- (*ostiary/cred.Store).Users -/
noncomputable def cx_cred_Store_Users (W0 : World) (S : Nat → Prop) (bs : List Nat := []) : Cx := ⟨Tryz.prog, W0, S, 6, [(9, ti9), (92, ti92)], [158], bs, none, []⟩
abbrev n_cred_Store_Users : FuncId := 95
theorem b_cred_Store_Users : Tryz.prog.funcs[n_cred_Store_Users]? = some Tryz.f95 := Tryz.func95
theorem good_cred_Store_Users (W0 : World) (S : Nat → Prop) (bs : List Nat := []) : Good (cx_cred_Store_Users W0 S bs) := ⟨List.forall_mem_cons.2 ⟨ok9, List.forall_mem_cons.2 ⟨ok92, (fun _ h => by cases h)⟩⟩, List.forall_mem_cons.2 ⟨by kernel_rfl, (fun _ h => by cases h)⟩, mixed⟩
/-- ostiary/ostiarylaw14.back -/
noncomputable def cx_ostiarylaw14_back (W0 : World) (S : Nat → Prop) (bs : List Nat := []) : Cx := ⟨Tryz.prog, W0, S, 17, [(3, ti3), (4, ti4), (5, ti5), (9, ti9), (23, ti23), (41, ti41), (45, ti45), (95, ti95), (97, ti97), (102, ti102), (113, ti113)], [25], bs, none, []⟩
abbrev n_ostiarylaw14_back : FuncId := 96
theorem b_ostiarylaw14_back : Tryz.prog.funcs[n_ostiarylaw14_back]? = some Tryz.f96 := Tryz.func96
def p_ostiarylaw14_back_1 : Plan := .take 0 (.take 1 (.take 2 (.take 3 (.take 4 (.take 5 (.take 7 (.take 8 (.take 9 (.take 10 (.take 11 (.take 12 (.exec 6 (.take 13 (.exec 14 (.done)))))))))))))))
theorem good_ostiarylaw14_back (W0 : World) (S : Nat → Prop) (bs : List Nat := []) : Good (cx_ostiarylaw14_back W0 S bs) := ⟨List.forall_mem_cons.2 ⟨ok3, List.forall_mem_cons.2 ⟨ok4, List.forall_mem_cons.2 ⟨ok5, List.forall_mem_cons.2 ⟨ok9, List.forall_mem_cons.2 ⟨ok23, List.forall_mem_cons.2 ⟨ok41, List.forall_mem_cons.2 ⟨ok45, List.forall_mem_cons.2 ⟨ok95, List.forall_mem_cons.2 ⟨ok97, List.forall_mem_cons.2 ⟨ok102, List.forall_mem_cons.2 ⟨ok113, (fun _ h => by cases h)⟩⟩⟩⟩⟩⟩⟩⟩⟩⟩⟩, List.forall_mem_cons.2 ⟨by kernel_rfl, (fun _ h => by cases h)⟩, mixed⟩
/-- ostiary/ostiaryref14.AddTenant -/
noncomputable def cx_ostiaryref14_AddTenant (W0 : World) (S : Nat → Prop) (bs : List Nat := []) : Cx := ⟨Tryz.prog, W0, S, 35, [(3, ti3), (4, ti4), (5, ti5), (9, ti9), (23, ti23), (45, ti45), (94, ti94), (95, ti95), (96, ti96), (97, ti97), (99, ti99), (102, ti102)], [66, 160, 161], bs, none, []⟩
abbrev n_ostiaryref14_AddTenant : FuncId := 97
theorem b_ostiaryref14_AddTenant : Tryz.prog.funcs[n_ostiaryref14_AddTenant]? = some Tryz.f97 := Tryz.func97
theorem good_ostiaryref14_AddTenant (W0 : World) (S : Nat → Prop) (bs : List Nat := []) : Good (cx_ostiaryref14_AddTenant W0 S bs) := ⟨List.forall_mem_cons.2 ⟨ok3, List.forall_mem_cons.2 ⟨ok4, List.forall_mem_cons.2 ⟨ok5, List.forall_mem_cons.2 ⟨ok9, List.forall_mem_cons.2 ⟨ok23, List.forall_mem_cons.2 ⟨ok45, List.forall_mem_cons.2 ⟨ok94, List.forall_mem_cons.2 ⟨ok95, List.forall_mem_cons.2 ⟨ok96, List.forall_mem_cons.2 ⟨ok97, List.forall_mem_cons.2 ⟨ok99, List.forall_mem_cons.2 ⟨ok102, (fun _ h => by cases h)⟩⟩⟩⟩⟩⟩⟩⟩⟩⟩⟩⟩, List.forall_mem_cons.2 ⟨by kernel_rfl, List.forall_mem_cons.2 ⟨by kernel_rfl, List.forall_mem_cons.2 ⟨by kernel_rfl, (fun _ h => by cases h)⟩⟩⟩, mixed⟩
/-- (*ostiary/cred.Store).DropTenant -/
noncomputable def cx_cred_Store_DropTenant (W0 : World) (S : Nat → Prop) (bs : List Nat := []) : Cx := ⟨Tryz.prog, W0, S, 14, [(9, ti9), (92, ti92), (97, ti97), (154, ti154), (156, ti156), (179, ti179), (201, ti201)], [128], bs, none, []⟩
abbrev n_cred_Store_DropTenant : FuncId := 98
theorem b_cred_Store_DropTenant : Tryz.prog.funcs[n_cred_Store_DropTenant]? = some Tryz.f98 := Tryz.func98
theorem good_cred_Store_DropTenant (W0 : World) (S : Nat → Prop) (bs : List Nat := []) : Good (cx_cred_Store_DropTenant W0 S bs) := ⟨List.forall_mem_cons.2 ⟨ok9, List.forall_mem_cons.2 ⟨ok92, List.forall_mem_cons.2 ⟨ok97, List.forall_mem_cons.2 ⟨ok154, List.forall_mem_cons.2 ⟨ok156, List.forall_mem_cons.2 ⟨ok179, List.forall_mem_cons.2 ⟨ok201, (fun _ h => by cases h)⟩⟩⟩⟩⟩⟩⟩, List.forall_mem_cons.2 ⟨by kernel_rfl, (fun _ h => by cases h)⟩, mixed⟩
/-- ostiary/ostiaryref14.DropTenant -/
noncomputable def cx_ostiaryref14_DropTenant (W0 : World) (S : Nat → Prop) (bs : List Nat := []) : Cx := ⟨Tryz.prog, W0, S, 50, [(3, ti3), (4, ti4), (5, ti5), (9, ti9), (23, ti23), (45, ti45), (94, ti94), (95, ti95), (96, ti96), (97, ti97), (99, ti99), (102, ti102)], [160, 162], bs, none, []⟩
abbrev n_ostiaryref14_DropTenant : FuncId := 99
theorem b_ostiaryref14_DropTenant : Tryz.prog.funcs[n_ostiaryref14_DropTenant]? = some Tryz.f99 := Tryz.func99
theorem good_ostiaryref14_DropTenant (W0 : World) (S : Nat → Prop) (bs : List Nat := []) : Good (cx_ostiaryref14_DropTenant W0 S bs) := ⟨List.forall_mem_cons.2 ⟨ok3, List.forall_mem_cons.2 ⟨ok4, List.forall_mem_cons.2 ⟨ok5, List.forall_mem_cons.2 ⟨ok9, List.forall_mem_cons.2 ⟨ok23, List.forall_mem_cons.2 ⟨ok45, List.forall_mem_cons.2 ⟨ok94, List.forall_mem_cons.2 ⟨ok95, List.forall_mem_cons.2 ⟨ok96, List.forall_mem_cons.2 ⟨ok97, List.forall_mem_cons.2 ⟨ok99, List.forall_mem_cons.2 ⟨ok102, (fun _ h => by cases h)⟩⟩⟩⟩⟩⟩⟩⟩⟩⟩⟩⟩, List.forall_mem_cons.2 ⟨by kernel_rfl, List.forall_mem_cons.2 ⟨by kernel_rfl, (fun _ h => by cases h)⟩⟩, mixed⟩
/-- (*ostiary/cred.Store).Change -/
noncomputable def cx_cred_Store_Change (W0 : World) (S : Nat → Prop) (bs : List Nat := []) : Cx := ⟨Tryz.prog, W0, S, 35, [(3, ti3), (4, ti4), (5, ti5), (9, ti9), (23, ti23), (41, ti41), (92, ti92), (95, ti95), (97, ti97), (113, ti113), (154, ti154), (156, ti156), (179, ti179), (201, ti201)], [115, 129, 130, 131], bs, none, []⟩
abbrev n_cred_Store_Change : FuncId := 100
theorem b_cred_Store_Change : Tryz.prog.funcs[n_cred_Store_Change]? = some Tryz.f100 := Tryz.func100
theorem good_cred_Store_Change (W0 : World) (S : Nat → Prop) (bs : List Nat := []) : Good (cx_cred_Store_Change W0 S bs) := ⟨List.forall_mem_cons.2 ⟨ok3, List.forall_mem_cons.2 ⟨ok4, List.forall_mem_cons.2 ⟨ok5, List.forall_mem_cons.2 ⟨ok9, List.forall_mem_cons.2 ⟨ok23, List.forall_mem_cons.2 ⟨ok41, List.forall_mem_cons.2 ⟨ok92, List.forall_mem_cons.2 ⟨ok95, List.forall_mem_cons.2 ⟨ok97, List.forall_mem_cons.2 ⟨ok113, List.forall_mem_cons.2 ⟨ok154, List.forall_mem_cons.2 ⟨ok156, List.forall_mem_cons.2 ⟨ok179, List.forall_mem_cons.2 ⟨ok201, (fun _ h => by cases h)⟩⟩⟩⟩⟩⟩⟩⟩⟩⟩⟩⟩⟩⟩, List.forall_mem_cons.2 ⟨by kernel_rfl, List.forall_mem_cons.2 ⟨by kernel_rfl, List.forall_mem_cons.2 ⟨by kernel_rfl, List.forall_mem_cons.2 ⟨by kernel_rfl, (fun _ h => by cases h)⟩⟩⟩⟩, mixed⟩
/-- ostiary/ostiaryref14.Change -/
noncomputable def cx_ostiaryref14_Change (W0 : World) (S : Nat → Prop) (bs : List Nat := []) : Cx := ⟨Tryz.prog, W0, S, 33, [(3, ti3), (4, ti4), (5, ti5), (9, ti9), (23, ti23), (45, ti45), (94, ti94), (95, ti95), (96, ti96), (97, ti97), (99, ti99), (102, ti102)], [107, 163, 164], bs, none, []⟩
abbrev n_ostiaryref14_Change : FuncId := 101
theorem b_ostiaryref14_Change : Tryz.prog.funcs[n_ostiaryref14_Change]? = some Tryz.f101 := Tryz.func101
theorem good_ostiaryref14_Change (W0 : World) (S : Nat → Prop) (bs : List Nat := []) : Good (cx_ostiaryref14_Change W0 S bs) := ⟨List.forall_mem_cons.2 ⟨ok3, List.forall_mem_cons.2 ⟨ok4, List.forall_mem_cons.2 ⟨ok5, List.forall_mem_cons.2 ⟨ok9, List.forall_mem_cons.2 ⟨ok23, List.forall_mem_cons.2 ⟨ok45, List.forall_mem_cons.2 ⟨ok94, List.forall_mem_cons.2 ⟨ok95, List.forall_mem_cons.2 ⟨ok96, List.forall_mem_cons.2 ⟨ok97, List.forall_mem_cons.2 ⟨ok99, List.forall_mem_cons.2 ⟨ok102, (fun _ h => by cases h)⟩⟩⟩⟩⟩⟩⟩⟩⟩⟩⟩⟩, List.forall_mem_cons.2 ⟨by kernel_rfl, List.forall_mem_cons.2 ⟨by kernel_rfl, List.forall_mem_cons.2 ⟨by kernel_rfl, (fun _ h => by cases h)⟩⟩⟩, mixed⟩
/-- (*ostiary/cred.Store).Drop -/
noncomputable def cx_cred_Store_Drop (W0 : World) (S : Nat → Prop) (bs : List Nat := []) : Cx := ⟨Tryz.prog, W0, S, 24, [(3, ti3), (4, ti4), (5, ti5), (9, ti9), (23, ti23), (41, ti41), (92, ti92), (95, ti95), (97, ti97), (113, ti113), (154, ti154), (156, ti156), (179, ti179), (201, ti201)], [115], bs, none, []⟩
abbrev n_cred_Store_Drop : FuncId := 102
theorem b_cred_Store_Drop : Tryz.prog.funcs[n_cred_Store_Drop]? = some Tryz.f102 := Tryz.func102
def p_cred_Store_Drop_4 : Plan := .take 0 (.take 1 (.take 2 (.take 3 (.take 4 (.take 5 (.take 6 (.take 7 (.take 8 (.take 9 (.exec 10 (.done)))))))))))
theorem good_cred_Store_Drop (W0 : World) (S : Nat → Prop) (bs : List Nat := []) : Good (cx_cred_Store_Drop W0 S bs) := ⟨List.forall_mem_cons.2 ⟨ok3, List.forall_mem_cons.2 ⟨ok4, List.forall_mem_cons.2 ⟨ok5, List.forall_mem_cons.2 ⟨ok9, List.forall_mem_cons.2 ⟨ok23, List.forall_mem_cons.2 ⟨ok41, List.forall_mem_cons.2 ⟨ok92, List.forall_mem_cons.2 ⟨ok95, List.forall_mem_cons.2 ⟨ok97, List.forall_mem_cons.2 ⟨ok113, List.forall_mem_cons.2 ⟨ok154, List.forall_mem_cons.2 ⟨ok156, List.forall_mem_cons.2 ⟨ok179, List.forall_mem_cons.2 ⟨ok201, (fun _ h => by cases h)⟩⟩⟩⟩⟩⟩⟩⟩⟩⟩⟩⟩⟩⟩, List.forall_mem_cons.2 ⟨by kernel_rfl, (fun _ h => by cases h)⟩, mixed⟩
/-- ostiary/ostiaryref14.Drop -/
noncomputable def cx_ostiaryref14_Drop (W0 : World) (S : Nat → Prop) (bs : List Nat := []) : Cx := ⟨Tryz.prog, W0, S, 33, [(3, ti3), (4, ti4), (5, ti5), (9, ti9), (23, ti23), (45, ti45), (94, ti94), (95, ti95), (96, ti96), (97, ti97), (99, ti99), (102, ti102)], [107], bs, none, []⟩
abbrev n_ostiaryref14_Drop : FuncId := 103
theorem b_ostiaryref14_Drop : Tryz.prog.funcs[n_ostiaryref14_Drop]? = some Tryz.f103 := Tryz.func103
def p_ostiaryref14_Drop_4 : Plan := .take 0 (.take 2 (.take 3 (.take 4 (.take 5 (.take 6 (.take 7 (.take 9 (.take 10 (.take 11 (.take 12 (.take 13 (.take 14 (.take 15 (.exec 1 (.exec 8 (.exec 16 (.exec 17 (.take 18 (.brk 19 (.done))))))))))))))))))))
theorem good_ostiaryref14_Drop (W0 : World) (S : Nat → Prop) (bs : List Nat := []) : Good (cx_ostiaryref14_Drop W0 S bs) := ⟨List.forall_mem_cons.2 ⟨ok3, List.forall_mem_cons.2 ⟨ok4, List.forall_mem_cons.2 ⟨ok5, List.forall_mem_cons.2 ⟨ok9, List.forall_mem_cons.2 ⟨ok23, List.forall_mem_cons.2 ⟨ok45, List.forall_mem_cons.2 ⟨ok94, List.forall_mem_cons.2 ⟨ok95, List.forall_mem_cons.2 ⟨ok96, List.forall_mem_cons.2 ⟨ok97, List.forall_mem_cons.2 ⟨ok99, List.forall_mem_cons.2 ⟨ok102, (fun _ h => by cases h)⟩⟩⟩⟩⟩⟩⟩⟩⟩⟩⟩⟩, List.forall_mem_cons.2 ⟨by kernel_rfl, (fun _ h => by cases h)⟩, mixed⟩
/-- ostiary/ostiaryref14.Revoke -/
noncomputable def cx_ostiaryref14_Revoke (W0 : World) (S : Nat → Prop) (bs : List Nat := []) : Cx := ⟨Tryz.prog, W0, S, 30, [(3, ti3), (4, ti4), (5, ti5), (9, ti9), (23, ti23), (45, ti45), (94, ti94), (95, ti95), (96, ti96), (97, ti97), (99, ti99), (102, ti102)], [107, 164], bs, none, []⟩
abbrev n_ostiaryref14_Revoke : FuncId := 104
theorem b_ostiaryref14_Revoke : Tryz.prog.funcs[n_ostiaryref14_Revoke]? = some Tryz.f104 := Tryz.func104
theorem good_ostiaryref14_Revoke (W0 : World) (S : Nat → Prop) (bs : List Nat := []) : Good (cx_ostiaryref14_Revoke W0 S bs) := ⟨List.forall_mem_cons.2 ⟨ok3, List.forall_mem_cons.2 ⟨ok4, List.forall_mem_cons.2 ⟨ok5, List.forall_mem_cons.2 ⟨ok9, List.forall_mem_cons.2 ⟨ok23, List.forall_mem_cons.2 ⟨ok45, List.forall_mem_cons.2 ⟨ok94, List.forall_mem_cons.2 ⟨ok95, List.forall_mem_cons.2 ⟨ok96, List.forall_mem_cons.2 ⟨ok97, List.forall_mem_cons.2 ⟨ok99, List.forall_mem_cons.2 ⟨ok102, (fun _ h => by cases h)⟩⟩⟩⟩⟩⟩⟩⟩⟩⟩⟩⟩, List.forall_mem_cons.2 ⟨by kernel_rfl, List.forall_mem_cons.2 ⟨by kernel_rfl, (fun _ h => by cases h)⟩⟩, mixed⟩
/-- ostiary/ostiaryref14.Grant -/
noncomputable def cx_ostiaryref14_Grant (W0 : World) (S : Nat → Prop) (bs : List Nat := []) : Cx := ⟨Tryz.prog, W0, S, 64, [(3, ti3), (4, ti4), (5, ti5), (9, ti9), (23, ti23), (45, ti45), (94, ti94), (95, ti95), (96, ti96), (97, ti97), (99, ti99), (102, ti102)], [66, 107, 160, 161, 162, 164], bs, none, []⟩
abbrev n_ostiaryref14_Grant : FuncId := 105
theorem b_ostiaryref14_Grant : Tryz.prog.funcs[n_ostiaryref14_Grant]? = some Tryz.f105 := Tryz.func105
theorem good_ostiaryref14_Grant (W0 : World) (S : Nat → Prop) (bs : List Nat := []) : Good (cx_ostiaryref14_Grant W0 S bs) := ⟨List.forall_mem_cons.2 ⟨ok3, List.forall_mem_cons.2 ⟨ok4, List.forall_mem_cons.2 ⟨ok5, List.forall_mem_cons.2 ⟨ok9, List.forall_mem_cons.2 ⟨ok23, List.forall_mem_cons.2 ⟨ok45, List.forall_mem_cons.2 ⟨ok94, List.forall_mem_cons.2 ⟨ok95, List.forall_mem_cons.2 ⟨ok96, List.forall_mem_cons.2 ⟨ok97, List.forall_mem_cons.2 ⟨ok99, List.forall_mem_cons.2 ⟨ok102, (fun _ h => by cases h)⟩⟩⟩⟩⟩⟩⟩⟩⟩⟩⟩⟩, List.forall_mem_cons.2 ⟨by kernel_rfl, List.forall_mem_cons.2 ⟨by kernel_rfl, List.forall_mem_cons.2 ⟨by kernel_rfl, List.forall_mem_cons.2 ⟨by kernel_rfl, List.forall_mem_cons.2 ⟨by kernel_rfl, List.forall_mem_cons.2 ⟨by kernel_rfl, (fun _ h => by cases h)⟩⟩⟩⟩⟩⟩, mixed⟩
/-- (*ostiary/cred.Store).Ungrant -/
noncomputable def cx_cred_Store_Ungrant (W0 : World) (S : Nat → Prop) (bs : List Nat := []) : Cx := ⟨Tryz.prog, W0, S, 56, [(3, ti3), (4, ti4), (5, ti5), (9, ti9), (23, ti23), (41, ti41), (92, ti92), (95, ti95), (97, ti97), (113, ti113), (154, ti154), (156, ti156), (179, ti179), (201, ti201)], [61, 115, 131, 132, 134, 165], bs, none, []⟩
abbrev n_cred_Store_Ungrant : FuncId := 106
theorem b_cred_Store_Ungrant : Tryz.prog.funcs[n_cred_Store_Ungrant]? = some Tryz.f106 := Tryz.func106
theorem good_cred_Store_Ungrant (W0 : World) (S : Nat → Prop) (bs : List Nat := []) : Good (cx_cred_Store_Ungrant W0 S bs) := ⟨List.forall_mem_cons.2 ⟨ok3, List.forall_mem_cons.2 ⟨ok4, List.forall_mem_cons.2 ⟨ok5, List.forall_mem_cons.2 ⟨ok9, List.forall_mem_cons.2 ⟨ok23, List.forall_mem_cons.2 ⟨ok41, List.forall_mem_cons.2 ⟨ok92, List.forall_mem_cons.2 ⟨ok95, List.forall_mem_cons.2 ⟨ok97, List.forall_mem_cons.2 ⟨ok113, List.forall_mem_cons.2 ⟨ok154, List.forall_mem_cons.2 ⟨ok156, List.forall_mem_cons.2 ⟨ok179, List.forall_mem_cons.2 ⟨ok201, (fun _ h => by cases h)⟩⟩⟩⟩⟩⟩⟩⟩⟩⟩⟩⟩⟩⟩, List.forall_mem_cons.2 ⟨by kernel_rfl, List.forall_mem_cons.2 ⟨by kernel_rfl, List.forall_mem_cons.2 ⟨by kernel_rfl, List.forall_mem_cons.2 ⟨by kernel_rfl, List.forall_mem_cons.2 ⟨by kernel_rfl, List.forall_mem_cons.2 ⟨by kernel_rfl, (fun _ h => by cases h)⟩⟩⟩⟩⟩⟩, mixed⟩
/-- ostiary/ostiaryref14.Find -/
noncomputable def cx_ostiaryref14_Find (W0 : World) (S : Nat → Prop) (bs : List Nat := []) : Cx := ⟨Tryz.prog, W0, S, 44, [(3, ti3), (4, ti4), (5, ti5), (9, ti9), (23, ti23), (45, ti45), (94, ti94), (95, ti95), (96, ti96), (97, ti97), (99, ti99), (102, ti102)], [67], bs, none, []⟩
abbrev n_ostiaryref14_Find : FuncId := 107
theorem b_ostiaryref14_Find : Tryz.prog.funcs[n_ostiaryref14_Find]? = some Tryz.f107 := Tryz.func107
theorem good_ostiaryref14_Find (W0 : World) (S : Nat → Prop) (bs : List Nat := []) : Good (cx_ostiaryref14_Find W0 S bs) := ⟨List.forall_mem_cons.2 ⟨ok3, List.forall_mem_cons.2 ⟨ok4, List.forall_mem_cons.2 ⟨ok5, List.forall_mem_cons.2 ⟨ok9, List.forall_mem_cons.2 ⟨ok23, List.forall_mem_cons.2 ⟨ok45, List.forall_mem_cons.2 ⟨ok94, List.forall_mem_cons.2 ⟨ok95, List.forall_mem_cons.2 ⟨ok96, List.forall_mem_cons.2 ⟨ok97, List.forall_mem_cons.2 ⟨ok99, List.forall_mem_cons.2 ⟨ok102, (fun _ h => by cases h)⟩⟩⟩⟩⟩⟩⟩⟩⟩⟩⟩⟩, List.forall_mem_cons.2 ⟨by kernel_rfl, (fun _ h => by cases h)⟩, mixed⟩
/-- (*ostiary/cred.Store).Load -/
noncomputable def cx_cred_Store_Load (W0 : World) (S : Nat → Prop) (bs : List Nat := []) : Cx := ⟨Tryz.prog, W0, S, 101, [(3, ti3), (4, ti4), (5, ti5), (9, ti9), (23, ti23), (41, ti41), (42, ti42), (92, ti92), (95, ti95), (97, ti97), (113, ti113), (154, ti154), (156, ti156), (179, ti179), (201, ti201)], [62, 116, 128, 129, 166, 167], bs, none, []⟩
abbrev n_cred_Store_Load : FuncId := 108
theorem b_cred_Store_Load : Tryz.prog.funcs[n_cred_Store_Load]? = some Tryz.f108 := Tryz.func108
def p_cred_Store_Load_15 : Plan := .take 0 (.take 1 (.take 2 (.take 3 (.take 4 (.take 5 (.take 6 (.exec 7 (.done))))))))
def p_cred_Store_Load_18 : Plan := .take 0 (.take 1 (.take 2 (.take 3 (.take 5 (.take 6 (.exec 4 (.take 7 (.take 8 (.take 9 (.exec 10 (.done)))))))))))
theorem good_cred_Store_Load (W0 : World) (S : Nat → Prop) (bs : List Nat := []) : Good (cx_cred_Store_Load W0 S bs) := ⟨List.forall_mem_cons.2 ⟨ok3, List.forall_mem_cons.2 ⟨ok4, List.forall_mem_cons.2 ⟨ok5, List.forall_mem_cons.2 ⟨ok9, List.forall_mem_cons.2 ⟨ok23, List.forall_mem_cons.2 ⟨ok41, List.forall_mem_cons.2 ⟨ok42, List.forall_mem_cons.2 ⟨ok92, List.forall_mem_cons.2 ⟨ok95, List.forall_mem_cons.2 ⟨ok97, List.forall_mem_cons.2 ⟨ok113, List.forall_mem_cons.2 ⟨ok154, List.forall_mem_cons.2 ⟨ok156, List.forall_mem_cons.2 ⟨ok179, List.forall_mem_cons.2 ⟨ok201, (fun _ h => by cases h)⟩⟩⟩⟩⟩⟩⟩⟩⟩⟩⟩⟩⟩⟩⟩, List.forall_mem_cons.2 ⟨by kernel_rfl, List.forall_mem_cons.2 ⟨by kernel_rfl, List.forall_mem_cons.2 ⟨by kernel_rfl, List.forall_mem_cons.2 ⟨by kernel_rfl, List.forall_mem_cons.2 ⟨by kernel_rfl, List.forall_mem_cons.2 ⟨by kernel_rfl, (fun _ h => by cases h)⟩⟩⟩⟩⟩⟩, mixed⟩
/-- ostiary/ostiarylaw14.own -/
noncomputable def cx_ostiarylaw14_own (W0 : World) (S : Nat → Prop) (bs : List Nat := []) : Cx := ⟨Tryz.prog, W0, S, 16, [(3, ti3), (4, ti4), (5, ti5), (9, ti9), (23, ti23), (41, ti41), (45, ti45), (95, ti95), (97, ti97), (102, ti102), (113, ti113)], [], bs, none, []⟩
abbrev n_ostiarylaw14_own : FuncId := 109
theorem b_ostiarylaw14_own : Tryz.prog.funcs[n_ostiarylaw14_own]? = some Tryz.f109 := Tryz.func109
theorem good_ostiarylaw14_own (W0 : World) (S : Nat → Prop) (bs : List Nat := []) : Good (cx_ostiarylaw14_own W0 S bs) := ⟨List.forall_mem_cons.2 ⟨ok3, List.forall_mem_cons.2 ⟨ok4, List.forall_mem_cons.2 ⟨ok5, List.forall_mem_cons.2 ⟨ok9, List.forall_mem_cons.2 ⟨ok23, List.forall_mem_cons.2 ⟨ok41, List.forall_mem_cons.2 ⟨ok45, List.forall_mem_cons.2 ⟨ok95, List.forall_mem_cons.2 ⟨ok97, List.forall_mem_cons.2 ⟨ok102, List.forall_mem_cons.2 ⟨ok113, (fun _ h => by cases h)⟩⟩⟩⟩⟩⟩⟩⟩⟩⟩⟩, (fun _ h => by cases h), mixed⟩
/-- ostiary/ostiaryref14.FewCred -/
noncomputable def cx_ostiaryref14_FewCred (W0 : World) (S : Nat → Prop) (bs : List Nat := []) : Cx := ⟨Tryz.prog, W0, S, 37, [(3, ti3), (4, ti4), (5, ti5), (9, ti9), (23, ti23), (45, ti45), (95, ti95), (97, ti97), (102, ti102)], [12, 36], bs, none, []⟩
abbrev n_ostiaryref14_FewCred : FuncId := 110
theorem b_ostiaryref14_FewCred : Tryz.prog.funcs[n_ostiaryref14_FewCred]? = some Tryz.f110 := Tryz.func110
def p_ostiaryref14_FewCred_8 : Plan := .take 0 (.take 1 (.take 3 (.take 4 (.take 6 (.take 7 (.take 9 (.take 10 (.take 11 (.take 12 (.take 13 (.exec 2 (.exec 5 (.exec 8 (.take 14 (.exec 15 (.done))))))))))))))))
theorem good_ostiaryref14_FewCred (W0 : World) (S : Nat → Prop) (bs : List Nat := []) : Good (cx_ostiaryref14_FewCred W0 S bs) := ⟨List.forall_mem_cons.2 ⟨ok3, List.forall_mem_cons.2 ⟨ok4, List.forall_mem_cons.2 ⟨ok5, List.forall_mem_cons.2 ⟨ok9, List.forall_mem_cons.2 ⟨ok23, List.forall_mem_cons.2 ⟨ok45, List.forall_mem_cons.2 ⟨ok95, List.forall_mem_cons.2 ⟨ok97, List.forall_mem_cons.2 ⟨ok102, (fun _ h => by cases h)⟩⟩⟩⟩⟩⟩⟩⟩⟩, List.forall_mem_cons.2 ⟨by kernel_rfl, List.forall_mem_cons.2 ⟨by kernel_rfl, (fun _ h => by cases h)⟩⟩, mixed⟩
/-- ostiary/ostiaryref14.Load -/
noncomputable def cx_ostiaryref14_Load (W0 : World) (S : Nat → Prop) (bs : List Nat := []) : Cx := ⟨Tryz.prog, W0, S, 150, [(3, ti3), (4, ti4), (5, ti5), (9, ti9), (23, ti23), (45, ti45), (94, ti94), (95, ti95), (96, ti96), (97, ti97), (99, ti99), (102, ti102)], [66, 67, 107, 160, 161, 163, 168, 169], bs, none, []⟩
abbrev n_ostiaryref14_Load : FuncId := 111
theorem b_ostiaryref14_Load : Tryz.prog.funcs[n_ostiaryref14_Load]? = some Tryz.f111 := Tryz.func111
def p_ostiaryref14_Load_18 : Plan := .take 0 (.take 1 (.take 2 (.take 3 (.take 4 (.take 5 (.exec 6 (.take 7 (.take 8 (.take 9 (.take 10 (.take 11 (.take 12 (.take 13 (.take 14 (.take 15 (.take 16 (.take 17 (.take 18 (.take 19 (.exec 20 (.take 21 (.take 22 (.take 23 (.take 24 (.done)))))))))))))))))))))))))
def p_ostiaryref14_Load_20 : Plan := .take 0 (.take 1 (.take 2 (.take 3 (.take 4 (.take 5 (.exec 6 (.take 7 (.done))))))))
def p_ostiaryref14_Load_21 : Plan := .take 0 (.take 1 (.take 2 (.take 3 (.take 5 (.take 6 (.exec 4 (.exec 7 (.take 8 (.take 9 (.exec 10 (.done)))))))))))
def p_ostiaryref14_Load_23 : Plan := .take 0 (.take 1 (.take 2 (.take 3 (.take 5 (.take 6 (.exec 4 (.take 7 (.take 8 (.take 9 (.exec 10 (.done)))))))))))
theorem good_ostiaryref14_Load (W0 : World) (S : Nat → Prop) (bs : List Nat := []) : Good (cx_ostiaryref14_Load W0 S bs) := ⟨List.forall_mem_cons.2 ⟨ok3, List.forall_mem_cons.2 ⟨ok4, List.forall_mem_cons.2 ⟨ok5, List.forall_mem_cons.2 ⟨ok9, List.forall_mem_cons.2 ⟨ok23, List.forall_mem_cons.2 ⟨ok45, List.forall_mem_cons.2 ⟨ok94, List.forall_mem_cons.2 ⟨ok95, List.forall_mem_cons.2 ⟨ok96, List.forall_mem_cons.2 ⟨ok97, List.forall_mem_cons.2 ⟨ok99, List.forall_mem_cons.2 ⟨ok102, (fun _ h => by cases h)⟩⟩⟩⟩⟩⟩⟩⟩⟩⟩⟩⟩, List.forall_mem_cons.2 ⟨by kernel_rfl, List.forall_mem_cons.2 ⟨by kernel_rfl, List.forall_mem_cons.2 ⟨by kernel_rfl, List.forall_mem_cons.2 ⟨by kernel_rfl, List.forall_mem_cons.2 ⟨by kernel_rfl, List.forall_mem_cons.2 ⟨by kernel_rfl, List.forall_mem_cons.2 ⟨by kernel_rfl, List.forall_mem_cons.2 ⟨by kernel_rfl, (fun _ h => by cases h)⟩⟩⟩⟩⟩⟩⟩⟩, mixed⟩
/-- (*ostiary/cred.Store).Raise -/
noncomputable def cx_cred_Store_Raise (W0 : World) (S : Nat → Prop) (bs : List Nat := []) : Cx := ⟨Tryz.prog, W0, S, 20, [(9, ti9), (92, ti92), (97, ti97), (154, ti154), (156, ti156), (179, ti179), (201, ti201)], [], bs, none, []⟩
abbrev n_cred_Store_Raise : FuncId := 112
theorem b_cred_Store_Raise : Tryz.prog.funcs[n_cred_Store_Raise]? = some Tryz.f112 := Tryz.func112
theorem good_cred_Store_Raise (W0 : World) (S : Nat → Prop) (bs : List Nat := []) : Good (cx_cred_Store_Raise W0 S bs) := ⟨List.forall_mem_cons.2 ⟨ok9, List.forall_mem_cons.2 ⟨ok92, List.forall_mem_cons.2 ⟨ok97, List.forall_mem_cons.2 ⟨ok154, List.forall_mem_cons.2 ⟨ok156, List.forall_mem_cons.2 ⟨ok179, List.forall_mem_cons.2 ⟨ok201, (fun _ h => by cases h)⟩⟩⟩⟩⟩⟩⟩, (fun _ h => by cases h), mixed⟩
/-- ostiary/ostiaryref14.Raise -/
noncomputable def cx_ostiaryref14_Raise (W0 : World) (S : Nat → Prop) (bs : List Nat := []) : Cx := ⟨Tryz.prog, W0, S, 18, [(3, ti3), (4, ti4), (5, ti5), (9, ti9), (23, ti23), (45, ti45), (94, ti94), (95, ti95), (96, ti96), (97, ti97), (99, ti99), (102, ti102)], [], bs, none, []⟩
abbrev n_ostiaryref14_Raise : FuncId := 113
theorem b_ostiaryref14_Raise : Tryz.prog.funcs[n_ostiaryref14_Raise]? = some Tryz.f113 := Tryz.func113
theorem good_ostiaryref14_Raise (W0 : World) (S : Nat → Prop) (bs : List Nat := []) : Good (cx_ostiaryref14_Raise W0 S bs) := ⟨List.forall_mem_cons.2 ⟨ok3, List.forall_mem_cons.2 ⟨ok4, List.forall_mem_cons.2 ⟨ok5, List.forall_mem_cons.2 ⟨ok9, List.forall_mem_cons.2 ⟨ok23, List.forall_mem_cons.2 ⟨ok45, List.forall_mem_cons.2 ⟨ok94, List.forall_mem_cons.2 ⟨ok95, List.forall_mem_cons.2 ⟨ok96, List.forall_mem_cons.2 ⟨ok97, List.forall_mem_cons.2 ⟨ok99, List.forall_mem_cons.2 ⟨ok102, (fun _ h => by cases h)⟩⟩⟩⟩⟩⟩⟩⟩⟩⟩⟩⟩, (fun _ h => by cases h), mixed⟩
/-- ostiary/ostiaryref14.Add -/
noncomputable def cx_ostiaryref14_Add (W0 : World) (S : Nat → Prop) (bs : List Nat := []) : Cx := ⟨Tryz.prog, W0, S, 71, [(3, ti3), (4, ti4), (5, ti5), (9, ti9), (23, ti23), (45, ti45), (94, ti94), (95, ti95), (96, ti96), (97, ti97), (99, ti99), (102, ti102)], [67, 107, 160, 163, 168, 169], bs, none, []⟩
abbrev n_ostiaryref14_Add : FuncId := 114
theorem b_ostiaryref14_Add : Tryz.prog.funcs[n_ostiaryref14_Add]? = some Tryz.f114 := Tryz.func114
def p_ostiaryref14_Add_13 : Plan := .take 0 (.take 1 (.take 2 (.take 3 (.take 4 (.take 5 (.take 6 (.take 7 (.take 8 (.exec 9 (.done))))))))))
theorem good_ostiaryref14_Add (W0 : World) (S : Nat → Prop) (bs : List Nat := []) : Good (cx_ostiaryref14_Add W0 S bs) := ⟨List.forall_mem_cons.2 ⟨ok3, List.forall_mem_cons.2 ⟨ok4, List.forall_mem_cons.2 ⟨ok5, List.forall_mem_cons.2 ⟨ok9, List.forall_mem_cons.2 ⟨ok23, List.forall_mem_cons.2 ⟨ok45, List.forall_mem_cons.2 ⟨ok94, List.forall_mem_cons.2 ⟨ok95, List.forall_mem_cons.2 ⟨ok96, List.forall_mem_cons.2 ⟨ok97, List.forall_mem_cons.2 ⟨ok99, List.forall_mem_cons.2 ⟨ok102, (fun _ h => by cases h)⟩⟩⟩⟩⟩⟩⟩⟩⟩⟩⟩⟩, List.forall_mem_cons.2 ⟨by kernel_rfl, List.forall_mem_cons.2 ⟨by kernel_rfl, List.forall_mem_cons.2 ⟨by kernel_rfl, List.forall_mem_cons.2 ⟨by kernel_rfl, List.forall_mem_cons.2 ⟨by kernel_rfl, List.forall_mem_cons.2 ⟨by kernel_rfl, (fun _ h => by cases h)⟩⟩⟩⟩⟩⟩, mixed⟩
/-- (*ostiary/cred.Store).get -/
noncomputable def cx_cred_Store_get (W0 : World) (S : Nat → Prop) (bs : List Nat := []) : Cx := ⟨Tryz.prog, W0, S, 21, [(9, ti9), (42, ti42), (92, ti92), (179, ti179), (201, ti201)], [62, 128], bs, none, []⟩
abbrev n_cred_Store_get : FuncId := 115
theorem b_cred_Store_get : Tryz.prog.funcs[n_cred_Store_get]? = some Tryz.f115 := Tryz.func115
theorem good_cred_Store_get (W0 : World) (S : Nat → Prop) (bs : List Nat := []) : Good (cx_cred_Store_get W0 S bs) := ⟨List.forall_mem_cons.2 ⟨ok9, List.forall_mem_cons.2 ⟨ok42, List.forall_mem_cons.2 ⟨ok92, List.forall_mem_cons.2 ⟨ok179, List.forall_mem_cons.2 ⟨ok201, (fun _ h => by cases h)⟩⟩⟩⟩⟩, List.forall_mem_cons.2 ⟨by kernel_rfl, List.forall_mem_cons.2 ⟨by kernel_rfl, (fun _ h => by cases h)⟩⟩, mixed⟩
/-- (ostiary/cred.Cred).copyOf -/
noncomputable def cx_cred_Cred_copyOf (W0 : World) (S : Nat → Prop) (bs : List Nat := []) : Cx := ⟨Tryz.prog, W0, S, 12, [(3, ti3), (4, ti4), (5, ti5), (9, ti9), (23, ti23), (41, ti41), (95, ti95), (97, ti97), (113, ti113)], [130, 134], bs, none, []⟩
abbrev n_cred_Cred_copyOf : FuncId := 116
theorem b_cred_Cred_copyOf : Tryz.prog.funcs[n_cred_Cred_copyOf]? = some Tryz.f116 := Tryz.func116
def p_cred_Cred_copyOf_1 : Plan := .take 0 (.take 1 (.take 3 (.take 4 (.exec 2 (.take 6 (.exec 5 (.brk 7 (.brk 8 (.brk 9 (.done))))))))))
theorem good_cred_Cred_copyOf (W0 : World) (S : Nat → Prop) (bs : List Nat := []) : Good (cx_cred_Cred_copyOf W0 S bs) := ⟨List.forall_mem_cons.2 ⟨ok3, List.forall_mem_cons.2 ⟨ok4, List.forall_mem_cons.2 ⟨ok5, List.forall_mem_cons.2 ⟨ok9, List.forall_mem_cons.2 ⟨ok23, List.forall_mem_cons.2 ⟨ok41, List.forall_mem_cons.2 ⟨ok95, List.forall_mem_cons.2 ⟨ok97, List.forall_mem_cons.2 ⟨ok113, (fun _ h => by cases h)⟩⟩⟩⟩⟩⟩⟩⟩⟩, List.forall_mem_cons.2 ⟨by kernel_rfl, List.forall_mem_cons.2 ⟨by kernel_rfl, (fun _ h => by cases h)⟩⟩, mixed⟩
/-- strings.Join -/
noncomputable def cx_strings_Join (W0 : World) (S : Nat → Prop) (bs : List Nat := []) : Cx := ⟨Tryz.prog, W0, S, 75, [(3, ti3), (5, ti5), (9, ti9), (23, ti23), (95, ti95), (190, ti190), (192, ti192)], [124, 170, 171], bs, none, []⟩
abbrev n_strings_Join : FuncId := 117
theorem b_strings_Join : Tryz.prog.funcs[n_strings_Join]? = some Tryz.f117 := Tryz.func117
theorem good_strings_Join (W0 : World) (S : Nat → Prop) (bs : List Nat := []) : Good (cx_strings_Join W0 S bs) := ⟨List.forall_mem_cons.2 ⟨ok3, List.forall_mem_cons.2 ⟨ok5, List.forall_mem_cons.2 ⟨ok9, List.forall_mem_cons.2 ⟨ok23, List.forall_mem_cons.2 ⟨ok95, List.forall_mem_cons.2 ⟨ok190, List.forall_mem_cons.2 ⟨ok192, (fun _ h => by cases h)⟩⟩⟩⟩⟩⟩⟩, List.forall_mem_cons.2 ⟨by kernel_rfl, List.forall_mem_cons.2 ⟨by kernel_rfl, List.forall_mem_cons.2 ⟨by kernel_rfl, (fun _ h => by cases h)⟩⟩⟩, mixed⟩
/-- ostiary/ostiaryref05.Handle -/
noncomputable def cx_ostiaryref05_Handle (W0 : World) (S : Nat → Prop) (bs : List Nat := []) : Cx := ⟨Tryz.prog, W0, S, 9, [(3, ti3), (5, ti5), (22, ti22), (23, ti23), (97, ti97)], [60, 172], bs, none, []⟩
abbrev n_ostiaryref05_Handle : FuncId := 118
theorem b_ostiaryref05_Handle : Tryz.prog.funcs[n_ostiaryref05_Handle]? = some Tryz.f118 := Tryz.func118
theorem good_ostiaryref05_Handle (W0 : World) (S : Nat → Prop) (bs : List Nat := []) : Good (cx_ostiaryref05_Handle W0 S bs) := ⟨List.forall_mem_cons.2 ⟨ok3, List.forall_mem_cons.2 ⟨ok5, List.forall_mem_cons.2 ⟨ok22, List.forall_mem_cons.2 ⟨ok23, List.forall_mem_cons.2 ⟨ok97, (fun _ h => by cases h)⟩⟩⟩⟩⟩, List.forall_mem_cons.2 ⟨by kernel_rfl, List.forall_mem_cons.2 ⟨by kernel_rfl, (fun _ h => by cases h)⟩⟩, mixed⟩
/-- ostiary/ostiaryref01.Go -/
noncomputable def cx_ostiaryref01_Go (W0 : World) (S : Nat → Prop) (bs : List Nat := []) : Cx := ⟨Tryz.prog, W0, S, 17, [(3, ti3), (5, ti5), (22, ti22), (23, ti23), (184, ti184)], [173], bs, none, []⟩
abbrev n_ostiaryref01_Go : FuncId := 119
theorem b_ostiaryref01_Go : Tryz.prog.funcs[n_ostiaryref01_Go]? = some Tryz.f119 := Tryz.func119
def p_ostiaryref01_Go_2 : Plan := .take 1 (.take 2 (.take 4 (.take 5 (.exec 0 (.exec 3 (.exec 6 (.take 7 (.done))))))))
theorem good_ostiaryref01_Go (W0 : World) (S : Nat → Prop) (bs : List Nat := []) : Good (cx_ostiaryref01_Go W0 S bs) := ⟨List.forall_mem_cons.2 ⟨ok3, List.forall_mem_cons.2 ⟨ok5, List.forall_mem_cons.2 ⟨ok22, List.forall_mem_cons.2 ⟨ok23, List.forall_mem_cons.2 ⟨ok184, (fun _ h => by cases h)⟩⟩⟩⟩⟩, List.forall_mem_cons.2 ⟨by kernel_rfl, (fun _ h => by cases h)⟩, mixed⟩
/-- ostiary/ostiaryref01.First -/
noncomputable def cx_ostiaryref01_First (W0 : World) (S : Nat → Prop) (bs : List Nat := []) : Cx := ⟨Tryz.prog, W0, S, 2, [(22, ti22), (184, ti184)], [], bs, none, []⟩
abbrev n_ostiaryref01_First : FuncId := 120
theorem b_ostiaryref01_First : Tryz.prog.funcs[n_ostiaryref01_First]? = some Tryz.f120 := Tryz.func120
theorem good_ostiaryref01_First (W0 : World) (S : Nat → Prop) (bs : List Nat := []) : Good (cx_ostiaryref01_First W0 S bs) := ⟨List.forall_mem_cons.2 ⟨ok22, List.forall_mem_cons.2 ⟨ok184, (fun _ h => by cases h)⟩⟩, (fun _ h => by cases h), mixed⟩
/-- ostiary/ostiaryref01.Tail -/
noncomputable def cx_ostiaryref01_Tail (W0 : World) (S : Nat → Prop) (bs : List Nat := []) : Cx := ⟨Tryz.prog, W0, S, 22, [(3, ti3), (5, ti5), (23, ti23), (97, ti97)], [60], bs, none, []⟩
abbrev n_ostiaryref01_Tail : FuncId := 121
theorem b_ostiaryref01_Tail : Tryz.prog.funcs[n_ostiaryref01_Tail]? = some Tryz.f121 := Tryz.func121
theorem good_ostiaryref01_Tail (W0 : World) (S : Nat → Prop) (bs : List Nat := []) : Good (cx_ostiaryref01_Tail W0 S bs) := ⟨List.forall_mem_cons.2 ⟨ok3, List.forall_mem_cons.2 ⟨ok5, List.forall_mem_cons.2 ⟨ok23, List.forall_mem_cons.2 ⟨ok97, (fun _ h => by cases h)⟩⟩⟩⟩, List.forall_mem_cons.2 ⟨by kernel_rfl, (fun _ h => by cases h)⟩, mixed⟩
/-- ostiary/ostiaryref01.Out -/
noncomputable def cx_ostiaryref01_Out (W0 : World) (S : Nat → Prop) (bs : List Nat := []) : Cx := ⟨Tryz.prog, W0, S, 17, [(3, ti3), (5, ti5), (22, ti22), (23, ti23), (97, ti97), (184, ti184)], [60], bs, none, []⟩
abbrev n_ostiaryref01_Out : FuncId := 122
theorem b_ostiaryref01_Out : Tryz.prog.funcs[n_ostiaryref01_Out]? = some Tryz.f122 := Tryz.func122
theorem good_ostiaryref01_Out (W0 : World) (S : Nat → Prop) (bs : List Nat := []) : Good (cx_ostiaryref01_Out W0 S bs) := ⟨List.forall_mem_cons.2 ⟨ok3, List.forall_mem_cons.2 ⟨ok5, List.forall_mem_cons.2 ⟨ok22, List.forall_mem_cons.2 ⟨ok23, List.forall_mem_cons.2 ⟨ok97, List.forall_mem_cons.2 ⟨ok184, (fun _ h => by cases h)⟩⟩⟩⟩⟩⟩, List.forall_mem_cons.2 ⟨by kernel_rfl, (fun _ h => by cases h)⟩, mixed⟩
/-- (*strings.Builder).WriteByte -/
noncomputable def cx_strings_Builder_WriteByte (W0 : World) (S : Nat → Prop) (bs : List Nat := []) : Cx := ⟨Tryz.prog, W0, S, 17, [(5, ti5), (23, ti23), (190, ti190), (192, ti192)], [174], bs, none, []⟩
abbrev n_strings_Builder_WriteByte : FuncId := 123
theorem b_strings_Builder_WriteByte : Tryz.prog.funcs[n_strings_Builder_WriteByte]? = some Tryz.f123 := Tryz.func123
theorem good_strings_Builder_WriteByte (W0 : World) (S : Nat → Prop) (bs : List Nat := []) : Good (cx_strings_Builder_WriteByte W0 S bs) := ⟨List.forall_mem_cons.2 ⟨ok5, List.forall_mem_cons.2 ⟨ok23, List.forall_mem_cons.2 ⟨ok190, List.forall_mem_cons.2 ⟨ok192, (fun _ h => by cases h)⟩⟩⟩⟩, List.forall_mem_cons.2 ⟨by kernel_rfl, (fun _ h => by cases h)⟩, mixed⟩
/-- (*strings.Builder).String -/
noncomputable def cx_strings_Builder_String (W0 : World) (S : Nat → Prop) (bs : List Nat := []) : Cx := ⟨Tryz.prog, W0, S, 14, [(3, ti3), (5, ti5), (23, ti23), (190, ti190), (192, ti192), (237, ti237)], [], bs, none, []⟩
abbrev n_strings_Builder_String : FuncId := 124
theorem b_strings_Builder_String : Tryz.prog.funcs[n_strings_Builder_String]? = some Tryz.f124 := Tryz.func124
def p_strings_Builder_String_1 : Plan := .take 0 (.take 1 (.take 2 (.take 3 (.take 5 (.take 6 (.take 7 (.take 8 (.take 9 (.exec 4 (.exec 10 (.take 11 (.done))))))))))))
theorem good_strings_Builder_String (W0 : World) (S : Nat → Prop) (bs : List Nat := []) : Good (cx_strings_Builder_String W0 S bs) := ⟨List.forall_mem_cons.2 ⟨ok3, List.forall_mem_cons.2 ⟨ok5, List.forall_mem_cons.2 ⟨ok23, List.forall_mem_cons.2 ⟨ok190, List.forall_mem_cons.2 ⟨ok192, List.forall_mem_cons.2 ⟨ok237, (fun _ h => by cases h)⟩⟩⟩⟩⟩⟩, (fun _ h => by cases h), mixed⟩
/-- ostiary/name.sized -/
noncomputable def cx_name_sized (W0 : World) (S : Nat → Prop) (bs : List Nat := []) : Cx := ⟨Tryz.prog, W0, S, 26, [(3, ti3), (9, ti9), (42, ti42)], [175], bs, none, []⟩
abbrev n_name_sized : FuncId := 125
theorem b_name_sized : Tryz.prog.funcs[n_name_sized]? = some Tryz.f125 := Tryz.func125
theorem good_name_sized (W0 : World) (S : Nat → Prop) (bs : List Nat := []) : Good (cx_name_sized W0 S bs) := ⟨List.forall_mem_cons.2 ⟨ok3, List.forall_mem_cons.2 ⟨ok9, List.forall_mem_cons.2 ⟨ok42, (fun _ h => by cases h)⟩⟩⟩, List.forall_mem_cons.2 ⟨by kernel_rfl, (fun _ h => by cases h)⟩, mixed⟩
/-- ostiary/ostiaryref04.Prepare -/
noncomputable def cx_ostiaryref04_Prepare (W0 : World) (S : Nat → Prop) (bs : List Nat := []) : Cx := ⟨Tryz.prog, W0, S, 48, [(3, ti3), (5, ti5), (9, ti9), (23, ti23), (238, ti238), (241, ti241)], [176, 177, 178, 179, 180], bs, none, []⟩
abbrev n_ostiaryref04_Prepare : FuncId := 126
theorem b_ostiaryref04_Prepare : Tryz.prog.funcs[n_ostiaryref04_Prepare]? = some Tryz.f126 := Tryz.func126
theorem good_ostiaryref04_Prepare (W0 : World) (S : Nat → Prop) (bs : List Nat := []) : Good (cx_ostiaryref04_Prepare W0 S bs) := ⟨List.forall_mem_cons.2 ⟨ok3, List.forall_mem_cons.2 ⟨ok5, List.forall_mem_cons.2 ⟨ok9, List.forall_mem_cons.2 ⟨ok23, List.forall_mem_cons.2 ⟨ok238, List.forall_mem_cons.2 ⟨ok241, (fun _ h => by cases h)⟩⟩⟩⟩⟩⟩, List.forall_mem_cons.2 ⟨by kernel_rfl, List.forall_mem_cons.2 ⟨by kernel_rfl, List.forall_mem_cons.2 ⟨by kernel_rfl, List.forall_mem_cons.2 ⟨by kernel_rfl, List.forall_mem_cons.2 ⟨by kernel_rfl, (fun _ h => by cases h)⟩⟩⟩⟩⟩, mixed⟩
/-- ostiary/ostiaryref02.Stretch -/
noncomputable def cx_ostiaryref02_Stretch (W0 : World) (S : Nat → Prop) (bs : List Nat := []) : Cx := ⟨Tryz.prog, W0, S, 59, [(3, ti3), (5, ti5), (23, ti23), (97, ti97)], [23, 60, 86, 137], bs, none, []⟩
abbrev n_ostiaryref02_Stretch : FuncId := 127
theorem b_ostiaryref02_Stretch : Tryz.prog.funcs[n_ostiaryref02_Stretch]? = some Tryz.f127 := Tryz.func127
theorem good_ostiaryref02_Stretch (W0 : World) (S : Nat → Prop) (bs : List Nat := []) : Good (cx_ostiaryref02_Stretch W0 S bs) := ⟨List.forall_mem_cons.2 ⟨ok3, List.forall_mem_cons.2 ⟨ok5, List.forall_mem_cons.2 ⟨ok23, List.forall_mem_cons.2 ⟨ok97, (fun _ h => by cases h)⟩⟩⟩⟩, List.forall_mem_cons.2 ⟨by kernel_rfl, List.forall_mem_cons.2 ⟨by kernel_rfl, List.forall_mem_cons.2 ⟨by kernel_rfl, List.forall_mem_cons.2 ⟨by kernel_rfl, (fun _ h => by cases h)⟩⟩⟩⟩, mixed⟩
/-- (*ostiary/cred.Store).users -/
noncomputable def cx_cred_Store_users (W0 : World) (S : Nat → Prop) (bs : List Nat := []) : Cx := ⟨Tryz.prog, W0, S, 13, [(9, ti9), (92, ti92), (97, ti97), (154, ti154), (156, ti156), (179, ti179), (201, ti201)], [], bs, none, []⟩
abbrev n_cred_Store_users : FuncId := 128
theorem b_cred_Store_users : Tryz.prog.funcs[n_cred_Store_users]? = some Tryz.f128 := Tryz.func128
theorem good_cred_Store_users (W0 : World) (S : Nat → Prop) (bs : List Nat := []) : Good (cx_cred_Store_users W0 S bs) := ⟨List.forall_mem_cons.2 ⟨ok9, List.forall_mem_cons.2 ⟨ok92, List.forall_mem_cons.2 ⟨ok97, List.forall_mem_cons.2 ⟨ok154, List.forall_mem_cons.2 ⟨ok156, List.forall_mem_cons.2 ⟨ok179, List.forall_mem_cons.2 ⟨ok201, (fun _ h => by cases h)⟩⟩⟩⟩⟩⟩⟩, (fun _ h => by cases h), mixed⟩
/-- (ostiary/cred.Secret).right -/
noncomputable def cx_cred_Secret_right (W0 : World) (S : Nat → Prop) (bs : List Nat := []) : Cx := ⟨Tryz.prog, W0, S, 26, [(3, ti3), (5, ti5), (23, ti23), (41, ti41)], [64], bs, none, []⟩
abbrev n_cred_Secret_right : FuncId := 129
theorem b_cred_Secret_right : Tryz.prog.funcs[n_cred_Secret_right]? = some Tryz.f129 := Tryz.func129
theorem good_cred_Secret_right (W0 : World) (S : Nat → Prop) (bs : List Nat := []) : Good (cx_cred_Secret_right W0 S bs) := ⟨List.forall_mem_cons.2 ⟨ok3, List.forall_mem_cons.2 ⟨ok5, List.forall_mem_cons.2 ⟨ok23, List.forall_mem_cons.2 ⟨ok41, (fun _ h => by cases h)⟩⟩⟩⟩, List.forall_mem_cons.2 ⟨by kernel_rfl, (fun _ h => by cases h)⟩, mixed⟩
/-- (ostiary/cred.Secret).copyOf -/
noncomputable def cx_cred_Secret_copyOf (W0 : World) (S : Nat → Prop) (bs : List Nat := []) : Cx := ⟨Tryz.prog, W0, S, 20, [(3, ti3), (5, ti5), (23, ti23), (41, ti41)], [65], bs, none, []⟩
abbrev n_cred_Secret_copyOf : FuncId := 130
theorem b_cred_Secret_copyOf : Tryz.prog.funcs[n_cred_Secret_copyOf]? = some Tryz.f130 := Tryz.func130
def p_cred_Secret_copyOf_1 : Plan := .take 0 (.take 1 (.take 3 (.take 4 (.take 6 (.take 7 (.take 9 (.take 10 (.exec 2 (.take 12 (.exec 5 (.exec 8 (.exec 11 (.brk 13 (.brk 14 (.brk 15 (.brk 16 (.brk 17 (.brk 18 (.brk 19 (.done))))))))))))))))))))
theorem good_cred_Secret_copyOf (W0 : World) (S : Nat → Prop) (bs : List Nat := []) : Good (cx_cred_Secret_copyOf W0 S bs) := ⟨List.forall_mem_cons.2 ⟨ok3, List.forall_mem_cons.2 ⟨ok5, List.forall_mem_cons.2 ⟨ok23, List.forall_mem_cons.2 ⟨ok41, (fun _ h => by cases h)⟩⟩⟩⟩, List.forall_mem_cons.2 ⟨by kernel_rfl, (fun _ h => by cases h)⟩, mixed⟩
/-- (*ostiary/cred.Store).touched -/
noncomputable def cx_cred_Store_touched (W0 : World) (S : Nat → Prop) (bs : List Nat := []) : Cx := ⟨Tryz.prog, W0, S, 19, [(3, ti3), (4, ti4), (5, ti5), (9, ti9), (23, ti23), (41, ti41), (95, ti95), (97, ti97), (113, ti113), (154, ti154), (156, ti156), (179, ti179), (201, ti201)], [], bs, none, []⟩
abbrev n_cred_Store_touched : FuncId := 131
theorem b_cred_Store_touched : Tryz.prog.funcs[n_cred_Store_touched]? = some Tryz.f131 := Tryz.func131
theorem good_cred_Store_touched (W0 : World) (S : Nat → Prop) (bs : List Nat := []) : Good (cx_cred_Store_touched W0 S bs) := ⟨List.forall_mem_cons.2 ⟨ok3, List.forall_mem_cons.2 ⟨ok4, List.forall_mem_cons.2 ⟨ok5, List.forall_mem_cons.2 ⟨ok9, List.forall_mem_cons.2 ⟨ok23, List.forall_mem_cons.2 ⟨ok41, List.forall_mem_cons.2 ⟨ok95, List.forall_mem_cons.2 ⟨ok97, List.forall_mem_cons.2 ⟨ok113, List.forall_mem_cons.2 ⟨ok154, List.forall_mem_cons.2 ⟨ok156, List.forall_mem_cons.2 ⟨ok179, List.forall_mem_cons.2 ⟨ok201, (fun _ h => by cases h)⟩⟩⟩⟩⟩⟩⟩⟩⟩⟩⟩⟩⟩, (fun _ h => by cases h), mixed⟩
/-- slices.BinarySearch[[]string,string] -/
noncomputable def cx_slices_BinarySearch_string_string (W0 : World) (S : Nat → Prop) (bs : List Nat := []) : Cx := ⟨Tryz.prog, W0, S, 54, [(3, ti3), (9, ti9), (95, ti95), (196, ti196)], [181, 182], bs, none, []⟩
abbrev n_slices_BinarySearch_string_string : FuncId := 132
theorem b_slices_BinarySearch_string_string : Tryz.prog.funcs[n_slices_BinarySearch_string_string]? = some Tryz.f132 := Tryz.func132
theorem good_slices_BinarySearch_string_string (W0 : World) (S : Nat → Prop) (bs : List Nat := []) : Good (cx_slices_BinarySearch_string_string W0 S bs) := ⟨List.forall_mem_cons.2 ⟨ok3, List.forall_mem_cons.2 ⟨ok9, List.forall_mem_cons.2 ⟨ok95, List.forall_mem_cons.2 ⟨ok196, (fun _ h => by cases h)⟩⟩⟩⟩, List.forall_mem_cons.2 ⟨by kernel_rfl, List.forall_mem_cons.2 ⟨by kernel_rfl, (fun _ h => by cases h)⟩⟩, mixed⟩
/-- slices.Insert[[]string,string] -/
noncomputable def cx_slices_Insert_string_string (W0 : World) (S : Nat → Prop) (bs : List Nat := []) : Cx := ⟨Tryz.prog, W0, S, 95, [(3, ti3), (9, ti9), (95, ti95)], [184], bs, none, []⟩
abbrev n_slices_Insert_string_string : FuncId := 133
theorem b_slices_Insert_string_string : Tryz.prog.funcs[n_slices_Insert_string_string]? = some Tryz.f133 := Tryz.func133
def p_slices_Insert_string_string_11 : Plan := .take 0 (.take 1 (.take 2 (.take 3 (.take 4 (.take 5 (.take 6 (.take 7 (.exec 8 (.done)))))))))
def p_slices_Insert_string_string_15 : Plan := .take 0 (.take 1 (.take 2 (.take 3 (.take 4 (.take 5 (.take 6 (.take 7 (.exec 8 (.done)))))))))
theorem good_slices_Insert_string_string (W0 : World) (S : Nat → Prop) (bs : List Nat := []) : Good (cx_slices_Insert_string_string W0 S bs) := ⟨List.forall_mem_cons.2 ⟨ok3, List.forall_mem_cons.2 ⟨ok9, List.forall_mem_cons.2 ⟨ok95, (fun _ h => by cases h)⟩⟩⟩, List.forall_mem_cons.2 ⟨by kernel_rfl, (fun _ h => by cases h)⟩, mixed⟩
/-- slices.Clone[[]string,string] -/
noncomputable def cx_slices_Clone_string_string (W0 : World) (S : Nat → Prop) (bs : List Nat := []) : Cx := ⟨Tryz.prog, W0, S, 8, [(9, ti9), (95, ti95)], [], bs, none, []⟩
abbrev n_slices_Clone_string_string : FuncId := 134
theorem b_slices_Clone_string_string : Tryz.prog.funcs[n_slices_Clone_string_string]? = some Tryz.f134 := Tryz.func134
theorem good_slices_Clone_string_string (W0 : World) (S : Nat → Prop) (bs : List Nat := []) : Good (cx_slices_Clone_string_string W0 S bs) := ⟨List.forall_mem_cons.2 ⟨ok9, List.forall_mem_cons.2 ⟨ok95, (fun _ h => by cases h)⟩⟩, (fun _ h => by cases h), mixed⟩
/-- ostiary/ostiaryref05.open -/
noncomputable def cx_ostiaryref05_open (W0 : World) (S : Nat → Prop) (bs : List Nat := []) : Cx := ⟨Tryz.prog, W0, S, 58, [(3, ti3), (4, ti4), (5, ti5), (23, ti23), (31, ti31), (33, ti33), (68, ti68), (70, ti70)], [23, 138], bs, none, []⟩
abbrev n_ostiaryref05_open : FuncId := 135
theorem b_ostiaryref05_open : Tryz.prog.funcs[n_ostiaryref05_open]? = some Tryz.f135 := Tryz.func135
def p_ostiaryref05_open_10 : Plan := .take 0 (.take 1 (.take 2 (.take 3 (.take 4 (.take 5 (.take 6 (.done)))))))
def p_ostiaryref05_open_11 : Plan := .take 0 (.alt 1 (.take 3 (.exec 2 (.take 4 (.take 5 (.done))))) (.exec 2 (.exec 1 (.take 3 (.take 4 (.take 5 (.done)))))))
theorem good_ostiaryref05_open (W0 : World) (S : Nat → Prop) (bs : List Nat := []) : Good (cx_ostiaryref05_open W0 S bs) := ⟨List.forall_mem_cons.2 ⟨ok3, List.forall_mem_cons.2 ⟨ok4, List.forall_mem_cons.2 ⟨ok5, List.forall_mem_cons.2 ⟨ok23, List.forall_mem_cons.2 ⟨ok31, List.forall_mem_cons.2 ⟨ok33, List.forall_mem_cons.2 ⟨ok68, List.forall_mem_cons.2 ⟨ok70, (fun _ h => by cases h)⟩⟩⟩⟩⟩⟩⟩⟩, List.forall_mem_cons.2 ⟨by kernel_rfl, List.forall_mem_cons.2 ⟨by kernel_rfl, (fun _ h => by cases h)⟩⟩, mixed⟩
/-- ostiary/ostiaryref05.in -/
noncomputable def cx_ostiaryref05_in (W0 : World) (S : Nat → Prop) (bs : List Nat := []) : Cx := ⟨Tryz.prog, W0, S, 17, [(3, ti3), (68, ti68)], [], bs, none, []⟩
abbrev n_ostiaryref05_in : FuncId := 136
theorem b_ostiaryref05_in : Tryz.prog.funcs[n_ostiaryref05_in]? = some Tryz.f136 := Tryz.func136
theorem good_ostiaryref05_in (W0 : World) (S : Nat → Prop) (bs : List Nat := []) : Good (cx_ostiaryref05_in W0 S bs) := ⟨List.forall_mem_cons.2 ⟨ok3, List.forall_mem_cons.2 ⟨ok68, (fun _ h => by cases h)⟩⟩, (fun _ h => by cases h), mixed⟩
/-- ostiary/ostiaryref02.Xor -/
noncomputable def cx_ostiaryref02_Xor (W0 : World) (S : Nat → Prop) (bs : List Nat := []) : Cx := ⟨Tryz.prog, W0, S, 34, [(3, ti3), (5, ti5), (23, ti23)], [], bs, none, []⟩
abbrev n_ostiaryref02_Xor : FuncId := 137
theorem b_ostiaryref02_Xor : Tryz.prog.funcs[n_ostiaryref02_Xor]? = some Tryz.f137 := Tryz.func137
def p_ostiaryref02_Xor_6 : Plan := .take 0 (.take 1 (.take 2 (.take 3 (.take 4 (.take 5 (.take 6 (.take 7 (.take 8 (.take 9 (.take 10 (.take 11 (.brk 12 (.done)))))))))))))
theorem good_ostiaryref02_Xor (W0 : World) (S : Nat → Prop) (bs : List Nat := []) : Good (cx_ostiaryref02_Xor W0 S bs) := ⟨List.forall_mem_cons.2 ⟨ok3, List.forall_mem_cons.2 ⟨ok5, List.forall_mem_cons.2 ⟨ok23, (fun _ h => by cases h)⟩⟩⟩, (fun _ h => by cases h), mixed⟩
/-- ostiary/ostiaryref05.Looks -/
noncomputable def cx_ostiaryref05_Looks (W0 : World) (S : Nat → Prop) (bs : List Nat := []) : Cx := ⟨Tryz.prog, W0, S, 18, [(3, ti3), (5, ti5), (23, ti23), (97, ti97)], [15, 172, 185], bs, none, []⟩
abbrev n_ostiaryref05_Looks : FuncId := 138
theorem b_ostiaryref05_Looks : Tryz.prog.funcs[n_ostiaryref05_Looks]? = some Tryz.f138 := Tryz.func138
def p_ostiaryref05_Looks_1 : Plan := .take 0 (.take 1 (.take 2 (.take 3 (.take 4 (.take 5 (.exec 6 (.exec 7 (.take 8 (.take 9 (.done))))))))))
theorem good_ostiaryref05_Looks (W0 : World) (S : Nat → Prop) (bs : List Nat := []) : Good (cx_ostiaryref05_Looks W0 S bs) := ⟨List.forall_mem_cons.2 ⟨ok3, List.forall_mem_cons.2 ⟨ok5, List.forall_mem_cons.2 ⟨ok23, List.forall_mem_cons.2 ⟨ok97, (fun _ h => by cases h)⟩⟩⟩⟩, List.forall_mem_cons.2 ⟨by kernel_rfl, List.forall_mem_cons.2 ⟨by kernel_rfl, List.forall_mem_cons.2 ⟨by kernel_rfl, (fun _ h => by cases h)⟩⟩⟩, mixed⟩
/-- slices.Clone[[]int,int] -/
noncomputable def cx_slices_Clone_int_int (W0 : World) (S : Nat → Prop) (bs : List Nat := []) : Cx := ⟨Tryz.prog, W0, S, 8, [(3, ti3), (68, ti68)], [], bs, none, []⟩
abbrev n_slices_Clone_int_int : FuncId := 139
theorem b_slices_Clone_int_int : Tryz.prog.funcs[n_slices_Clone_int_int]? = some Tryz.f139 := Tryz.func139
theorem good_slices_Clone_int_int (W0 : World) (S : Nat → Prop) (bs : List Nat := []) : Good (cx_slices_Clone_int_int W0 S bs) := ⟨List.forall_mem_cons.2 ⟨ok3, List.forall_mem_cons.2 ⟨ok68, (fun _ h => by cases h)⟩⟩, (fun _ h => by cases h), mixed⟩
/-- ostiary/hmac.Xor -/
noncomputable def cx_hmac_Xor (W0 : World) (S : Nat → Prop) (bs : List Nat := []) : Cx := ⟨Tryz.prog, W0, S, 29, [(3, ti3), (5, ti5), (23, ti23)], [], bs, none, []⟩
abbrev n_hmac_Xor : FuncId := 140
theorem b_hmac_Xor : Tryz.prog.funcs[n_hmac_Xor]? = some Tryz.f140 := Tryz.func140
def p_hmac_Xor_5 : Plan := .take 0 (.take 1 (.take 2 (.take 3 (.take 4 (.take 5 (.take 6 (.take 7 (.take 8 (.take 9 (.exec 10 (.exec 11 (.take 12 (.done)))))))))))))
theorem good_hmac_Xor (W0 : World) (S : Nat → Prop) (bs : List Nat := []) : Good (cx_hmac_Xor W0 S bs) := ⟨List.forall_mem_cons.2 ⟨ok3, List.forall_mem_cons.2 ⟨ok5, List.forall_mem_cons.2 ⟨ok23, (fun _ h => by cases h)⟩⟩⟩, (fun _ h => by cases h), mixed⟩
/-- slices.Contains[[]int,int] -/
noncomputable def cx_slices_Contains_int_int (W0 : World) (S : Nat → Prop) (bs : List Nat := []) : Cx := ⟨Tryz.prog, W0, S, 9, [(3, ti3), (68, ti68)], [186], bs, none, []⟩
abbrev n_slices_Contains_int_int : FuncId := 141
theorem b_slices_Contains_int_int : Tryz.prog.funcs[n_slices_Contains_int_int]? = some Tryz.f141 := Tryz.func141
theorem good_slices_Contains_int_int (W0 : World) (S : Nat → Prop) (bs : List Nat := []) : Good (cx_slices_Contains_int_int W0 S bs) := ⟨List.forall_mem_cons.2 ⟨ok3, List.forall_mem_cons.2 ⟨ok68, (fun _ h => by cases h)⟩⟩, List.forall_mem_cons.2 ⟨by kernel_rfl, (fun _ h => by cases h)⟩, mixed⟩
/-- slices.Sort[[]int,int] -/
noncomputable def cx_slices_Sort_int_int (W0 : World) (S : Nat → Prop) (bs : List Nat := []) : Cx := ⟨Tryz.prog, W0, S, 11, [(3, ti3), (68, ti68), (196, ti196)], [187, 188], bs, none, []⟩
abbrev n_slices_Sort_int_int : FuncId := 142
theorem b_slices_Sort_int_int : Tryz.prog.funcs[n_slices_Sort_int_int]? = some Tryz.f142 := Tryz.func142
theorem good_slices_Sort_int_int (W0 : World) (S : Nat → Prop) (bs : List Nat := []) : Good (cx_slices_Sort_int_int W0 S bs) := ⟨List.forall_mem_cons.2 ⟨ok3, List.forall_mem_cons.2 ⟨ok68, List.forall_mem_cons.2 ⟨ok196, (fun _ h => by cases h)⟩⟩⟩, List.forall_mem_cons.2 ⟨by kernel_rfl, List.forall_mem_cons.2 ⟨by kernel_rfl, (fun _ h => by cases h)⟩⟩, mixed⟩
/-- (ostiary/box.Term).print -/
noncomputable def cx_box_Term_print (W0 : World) (S : Nat → Prop) (bs : List Nat := []) : Cx := ⟨Tryz.prog, W0, S, 54, [(3, ti3), (5, ti5), (9, ti9), (23, ti23), (58, ti58), (68, ti68), (84, ti84)], [84, 189], bs, none, []⟩
abbrev n_box_Term_print : FuncId := 143
theorem b_box_Term_print : Tryz.prog.funcs[n_box_Term_print]? = some Tryz.f143 := Tryz.func143
theorem good_box_Term_print (W0 : World) (S : Nat → Prop) (bs : List Nat := []) : Good (cx_box_Term_print W0 S bs) := ⟨List.forall_mem_cons.2 ⟨ok3, List.forall_mem_cons.2 ⟨ok5, List.forall_mem_cons.2 ⟨ok9, List.forall_mem_cons.2 ⟨ok23, List.forall_mem_cons.2 ⟨ok58, List.forall_mem_cons.2 ⟨ok68, List.forall_mem_cons.2 ⟨ok84, (fun _ h => by cases h)⟩⟩⟩⟩⟩⟩⟩, List.forall_mem_cons.2 ⟨by kernel_rfl, List.forall_mem_cons.2 ⟨by kernel_rfl, (fun _ h => by cases h)⟩⟩, mixed⟩
/-- ostiary/sha.Blocks -/
noncomputable def cx_sha_Blocks (W0 : World) (S : Nat → Prop) (bs : List Nat := []) : Cx := ⟨Tryz.prog, W0, S, 4, [(5, ti5), (23, ti23)], [190], bs, none, []⟩
abbrev n_sha_Blocks : FuncId := 145
theorem b_sha_Blocks : Tryz.prog.funcs[n_sha_Blocks]? = some Tryz.f145 := Tryz.func145
theorem good_sha_Blocks (W0 : World) (S : Nat → Prop) (bs : List Nat := []) : Good (cx_sha_Blocks W0 S bs) := ⟨List.forall_mem_cons.2 ⟨ok5, List.forall_mem_cons.2 ⟨ok23, (fun _ h => by cases h)⟩⟩, List.forall_mem_cons.2 ⟨by kernel_rfl, (fun _ h => by cases h)⟩, mixed⟩
/-- (*ostiary/sha.state).step -/
noncomputable def cx_sha_state_step (W0 : World) (S : Nat → Prop) (bs : List Nat := []) : Cx := ⟨Tryz.prog, W0, S, 144, [(3, ti3), (5, ti5), (22, ti22), (23, ti23), (183, ti183), (212, ti212), (251, ti251)], [192, 193], bs, none, []⟩
abbrev n_sha_state_step : FuncId := 146
theorem b_sha_state_step : Tryz.prog.funcs[n_sha_state_step]? = some Tryz.f146 := Tryz.func146
def p_sha_state_step_1 : Plan := .take 0 (.take 1 (.take 2 (.take 3 (.take 4 (.take 5 (.take 6 (.take 7 (.take 8 (.take 9 (.take 10 (.take 11 (.take 12 (.take 13 (.take 14 (.take 15 (.take 16 (.take 17 (.take 18 (.take 19 (.take 20 (.take 21 (.take 22 (.take 23 (.take 24 (.take 25 (.take 26 (.take 27 (.take 28 (.take 29 (.take 30 (.take 31 (.take 32 (.take 33 (.take 34 (.take 35 (.take 36 (.take 37 (.take 38 (.take 39 (.done))))))))))))))))))))))))))))))))))))))))
def p_sha_state_step_7 : Plan := .take 0 (.take 1 (.take 2 (.take 3 (.take 4 (.take 5 (.take 6 (.take 7 (.take 8 (.take 9 (.take 10 (.take 11 (.take 12 (.take 13 (.done))))))))))))))
def p_sha_state_step_15 : Plan := .take 0 (.take 1 (.take 2 (.take 3 (.take 5 (.take 7 (.exec 4 (.take 6 (.take 8 (.exec 9 (.done))))))))))
theorem good_sha_state_step (W0 : World) (S : Nat → Prop) (bs : List Nat := []) : Good (cx_sha_state_step W0 S bs) := ⟨List.forall_mem_cons.2 ⟨ok3, List.forall_mem_cons.2 ⟨ok5, List.forall_mem_cons.2 ⟨ok22, List.forall_mem_cons.2 ⟨ok23, List.forall_mem_cons.2 ⟨ok183, List.forall_mem_cons.2 ⟨ok212, List.forall_mem_cons.2 ⟨ok251, (fun _ h => by cases h)⟩⟩⟩⟩⟩⟩⟩, List.forall_mem_cons.2 ⟨by kernel_rfl, List.forall_mem_cons.2 ⟨by kernel_rfl, (fun _ h => by cases h)⟩⟩, mixed⟩
/-- (*ostiary/sha.state).bytes -/
noncomputable def cx_sha_state_bytes (W0 : World) (S : Nat → Prop) (bs : List Nat := []) : Cx := ⟨Tryz.prog, W0, S, 28, [(3, ti3), (5, ti5), (22, ti22), (23, ti23), (212, ti212)], [], bs, none, []⟩
abbrev n_sha_state_bytes : FuncId := 147
theorem b_sha_state_bytes : Tryz.prog.funcs[n_sha_state_bytes]? = some Tryz.f147 := Tryz.func147
theorem good_sha_state_bytes (W0 : World) (S : Nat → Prop) (bs : List Nat := []) : Good (cx_sha_state_bytes W0 S bs) := ⟨List.forall_mem_cons.2 ⟨ok3, List.forall_mem_cons.2 ⟨ok5, List.forall_mem_cons.2 ⟨ok22, List.forall_mem_cons.2 ⟨ok23, List.forall_mem_cons.2 ⟨ok212, (fun _ h => by cases h)⟩⟩⟩⟩⟩, (fun _ h => by cases h), mixed⟩
/-- ostiary/ostiaryref02.turned -/
noncomputable def cx_ostiaryref02_turned (W0 : World) (S : Nat → Prop) (bs : List Nat := []) : Cx := ⟨Tryz.prog, W0, S, 30, [(3, ti3), (5, ti5), (23, ti23)], [56], bs, none, []⟩
abbrev n_ostiaryref02_turned : FuncId := 148
theorem b_ostiaryref02_turned : Tryz.prog.funcs[n_ostiaryref02_turned]? = some Tryz.f148 := Tryz.func148
theorem good_ostiaryref02_turned (W0 : World) (S : Nat → Prop) (bs : List Nat := []) : Good (cx_ostiaryref02_turned W0 S bs) := ⟨List.forall_mem_cons.2 ⟨ok3, List.forall_mem_cons.2 ⟨ok5, List.forall_mem_cons.2 ⟨ok23, (fun _ h => by cases h)⟩⟩⟩, List.forall_mem_cons.2 ⟨by kernel_rfl, (fun _ h => by cases h)⟩, mixed⟩
/-- ostiary/hmac.sized -/
noncomputable def cx_hmac_sized (W0 : World) (S : Nat → Prop) (bs : List Nat := []) : Cx := ⟨Tryz.prog, W0, S, 9, [(3, ti3)], [], bs, none, []⟩
abbrev n_hmac_sized : FuncId := 149
theorem b_hmac_sized : Tryz.prog.funcs[n_hmac_sized]? = some Tryz.f149 := Tryz.func149
theorem good_hmac_sized (W0 : World) (S : Nat → Prop) (bs : List Nat := []) : Good (cx_hmac_sized W0 S bs) := ⟨List.forall_mem_cons.2 ⟨ok3, (fun _ h => by cases h)⟩, (fun _ h => by cases h), mixed⟩
/-- ostiary/hmac.first -/
noncomputable def cx_hmac_first (W0 : World) (S : Nat → Prop) (bs : List Nat := []) : Cx := ⟨Tryz.prog, W0, S, 20, [(3, ti3), (5, ti5), (23, ti23)], [65], bs, none, []⟩
abbrev n_hmac_first : FuncId := 150
theorem b_hmac_first : Tryz.prog.funcs[n_hmac_first]? = some Tryz.f150 := Tryz.func150
theorem good_hmac_first (W0 : World) (S : Nat → Prop) (bs : List Nat := []) : Good (cx_hmac_first W0 S bs) := ⟨List.forall_mem_cons.2 ⟨ok3, List.forall_mem_cons.2 ⟨ok5, List.forall_mem_cons.2 ⟨ok23, (fun _ h => by cases h)⟩⟩⟩, List.forall_mem_cons.2 ⟨by kernel_rfl, (fun _ h => by cases h)⟩, mixed⟩
/-- ostiary/hmac.pieces -/
noncomputable def cx_hmac_pieces (W0 : World) (S : Nat → Prop) (bs : List Nat := []) : Cx := ⟨Tryz.prog, W0, S, 8, [(3, ti3), (5, ti5), (23, ti23)], [194], bs, none, []⟩
abbrev n_hmac_pieces : FuncId := 151
theorem b_hmac_pieces : Tryz.prog.funcs[n_hmac_pieces]? = some Tryz.f151 := Tryz.func151
theorem good_hmac_pieces (W0 : World) (S : Nat → Prop) (bs : List Nat := []) : Good (cx_hmac_pieces W0 S bs) := ⟨List.forall_mem_cons.2 ⟨ok3, List.forall_mem_cons.2 ⟨ok5, List.forall_mem_cons.2 ⟨ok23, (fun _ h => by cases h)⟩⟩⟩, List.forall_mem_cons.2 ⟨by kernel_rfl, (fun _ h => by cases h)⟩, mixed⟩
/-- ostiary/hmac.pad -/
noncomputable def cx_hmac_pad (W0 : World) (S : Nat → Prop) (bs : List Nat := []) : Cx := ⟨Tryz.prog, W0, S, 33, [(3, ti3), (5, ti5), (23, ti23), (58, ti58)], [85, 201], bs, none, []⟩
abbrev n_hmac_pad : FuncId := 152
theorem b_hmac_pad : Tryz.prog.funcs[n_hmac_pad]? = some Tryz.f152 := Tryz.func152
theorem good_hmac_pad (W0 : World) (S : Nat → Prop) (bs : List Nat := []) : Good (cx_hmac_pad W0 S bs) := ⟨List.forall_mem_cons.2 ⟨ok3, List.forall_mem_cons.2 ⟨ok5, List.forall_mem_cons.2 ⟨ok23, List.forall_mem_cons.2 ⟨ok58, (fun _ h => by cases h)⟩⟩⟩⟩, List.forall_mem_cons.2 ⟨by kernel_rfl, List.forall_mem_cons.2 ⟨by kernel_rfl, (fun _ h => by cases h)⟩⟩, mixed⟩
/-- slices.AppendSeq[[]string,string] -/
noncomputable def cx_slices_AppendSeq_string_string (W0 : World) (S : Nat → Prop) (bs : List Nat := []) : Cx := ⟨Tryz.prog, W0, S, 13, [(9, ti9), (95, ti95)], [], bs, none, []⟩
abbrev n_slices_AppendSeq_string_string : FuncId := 153
theorem b_slices_AppendSeq_string_string : Tryz.prog.funcs[n_slices_AppendSeq_string_string]? = some Tryz.f153 := Tryz.func153
theorem good_slices_AppendSeq_string_string (W0 : World) (S : Nat → Prop) (bs : List Nat := []) : Good (cx_slices_AppendSeq_string_string W0 S bs) := ⟨List.forall_mem_cons.2 ⟨ok9, List.forall_mem_cons.2 ⟨ok95, (fun _ h => by cases h)⟩⟩, (fun _ h => by cases h), mixed⟩
/-- (*ostiary/cred.Store).Tenants$1 -/
noncomputable def cx_cred_Store_Tenants_1 (W0 : World) (S : Nat → Prop) (bs : List Nat := []) : Cx := ⟨Tryz.prog, W0, S, 23, [(3, ti3), (9, ti9), (92, ti92), (95, ti95), (97, ti97), (154, ti154), (156, ti156), (159, ti159), (179, ti179), (201, ti201)], [155, 156], bs, none, []⟩
abbrev n_cred_Store_Tenants_1 : FuncId := 154
theorem b_cred_Store_Tenants_1 : Tryz.prog.funcs[n_cred_Store_Tenants_1]? = some Tryz.f154 := Tryz.func154
theorem good_cred_Store_Tenants_1 (W0 : World) (S : Nat → Prop) (bs : List Nat := []) : Good (cx_cred_Store_Tenants_1 W0 S bs) := ⟨List.forall_mem_cons.2 ⟨ok3, List.forall_mem_cons.2 ⟨ok9, List.forall_mem_cons.2 ⟨ok92, List.forall_mem_cons.2 ⟨ok95, List.forall_mem_cons.2 ⟨ok97, List.forall_mem_cons.2 ⟨ok154, List.forall_mem_cons.2 ⟨ok156, List.forall_mem_cons.2 ⟨ok159, List.forall_mem_cons.2 ⟨ok179, List.forall_mem_cons.2 ⟨ok201, (fun _ h => by cases h)⟩⟩⟩⟩⟩⟩⟩⟩⟩⟩, List.forall_mem_cons.2 ⟨by kernel_rfl, List.forall_mem_cons.2 ⟨by kernel_rfl, (fun _ h => by cases h)⟩⟩, mixed⟩
/-- slices.Sorted[string] -/
noncomputable def cx_slices_Sorted_string (W0 : World) (S : Nat → Prop) (bs : List Nat := []) : Cx := ⟨Tryz.prog, W0, S, 9, [(9, ti9), (95, ti95), (159, ti159)], [92, 202], bs, none, []⟩
abbrev n_slices_Sorted_string : FuncId := 155
theorem b_slices_Sorted_string : Tryz.prog.funcs[n_slices_Sorted_string]? = some Tryz.f155 := Tryz.func155
theorem good_slices_Sorted_string (W0 : World) (S : Nat → Prop) (bs : List Nat := []) : Good (cx_slices_Sorted_string W0 S bs) := ⟨List.forall_mem_cons.2 ⟨ok9, List.forall_mem_cons.2 ⟨ok95, List.forall_mem_cons.2 ⟨ok159, (fun _ h => by cases h)⟩⟩⟩, List.forall_mem_cons.2 ⟨by kernel_rfl, List.forall_mem_cons.2 ⟨by kernel_rfl, (fun _ h => by cases h)⟩⟩, mixed⟩
/-- maps.Keys[map[string]map[string]*ostiary/cred.Cred,string,map[string]*ostiary/cred.Cred] -/
noncomputable def cx_maps_Keys_map_string_map_string_cred_Cred_string_map_string_cred_Cred (W0 : World) (S : Nat → Prop) (bs : List Nat := []) : Cx := ⟨Tryz.prog, W0, S, 4, [(9, ti9), (154, ti154), (179, ti179), (201, ti201)], [203], bs, none, []⟩
abbrev n_maps_Keys_map_string_map_string_cred_Cred_string_map_string_cred_Cred : FuncId := 156
theorem b_maps_Keys_map_string_map_string_cred_Cred_string_map_string_cred_Cred : Tryz.prog.funcs[n_maps_Keys_map_string_map_string_cred_Cred_string_map_string_cred_Cred]? = some Tryz.f156 := Tryz.func156
theorem good_maps_Keys_map_string_map_string_cred_Cred_string_map_string_cred_Cred (W0 : World) (S : Nat → Prop) (bs : List Nat := []) : Good (cx_maps_Keys_map_string_map_string_cred_Cred_string_map_string_cred_Cred W0 S bs) := ⟨List.forall_mem_cons.2 ⟨ok9, List.forall_mem_cons.2 ⟨ok154, List.forall_mem_cons.2 ⟨ok179, List.forall_mem_cons.2 ⟨ok201, (fun _ h => by cases h)⟩⟩⟩⟩, List.forall_mem_cons.2 ⟨by kernel_rfl, (fun _ h => by cases h)⟩, mixed⟩
/-- slices.AppendSeq[[]ostiary/cred.Cred,ostiary/cred.Cred] -/
noncomputable def cx_slices_AppendSeq_cred_Cred_cred_Cred (W0 : World) (S : Nat → Prop) (bs : List Nat := []) : Cx := ⟨Tryz.prog, W0, S, 13, [(3, ti3), (4, ti4), (5, ti5), (9, ti9), (23, ti23), (41, ti41), (95, ti95), (97, ti97), (113, ti113), (161, ti161)], [], bs, none, []⟩
abbrev n_slices_AppendSeq_cred_Cred_cred_Cred : FuncId := 157
theorem b_slices_AppendSeq_cred_Cred_cred_Cred : Tryz.prog.funcs[n_slices_AppendSeq_cred_Cred_cred_Cred]? = some Tryz.f157 := Tryz.func157
theorem good_slices_AppendSeq_cred_Cred_cred_Cred (W0 : World) (S : Nat → Prop) (bs : List Nat := []) : Good (cx_slices_AppendSeq_cred_Cred_cred_Cred W0 S bs) := ⟨List.forall_mem_cons.2 ⟨ok3, List.forall_mem_cons.2 ⟨ok4, List.forall_mem_cons.2 ⟨ok5, List.forall_mem_cons.2 ⟨ok9, List.forall_mem_cons.2 ⟨ok23, List.forall_mem_cons.2 ⟨ok41, List.forall_mem_cons.2 ⟨ok95, List.forall_mem_cons.2 ⟨ok97, List.forall_mem_cons.2 ⟨ok113, List.forall_mem_cons.2 ⟨ok161, (fun _ h => by cases h)⟩⟩⟩⟩⟩⟩⟩⟩⟩⟩, (fun _ h => by cases h), mixed⟩
/-- (*ostiary/cred.Store).Users$1 -/
noncomputable def cx_cred_Store_Users_1 (W0 : World) (S : Nat → Prop) (bs : List Nat := []) : Cx := ⟨Tryz.prog, W0, S, 34, [(3, ti3), (4, ti4), (5, ti5), (9, ti9), (23, ti23), (41, ti41), (92, ti92), (95, ti95), (97, ti97), (113, ti113), (159, ti159), (179, ti179), (201, ti201)], [116, 128, 155, 159], bs, none, []⟩
abbrev n_cred_Store_Users_1 : FuncId := 158
theorem b_cred_Store_Users_1 : Tryz.prog.funcs[n_cred_Store_Users_1]? = some Tryz.f158 := Tryz.func158
theorem good_cred_Store_Users_1 (W0 : World) (S : Nat → Prop) (bs : List Nat := []) : Good (cx_cred_Store_Users_1 W0 S bs) := ⟨List.forall_mem_cons.2 ⟨ok3, List.forall_mem_cons.2 ⟨ok4, List.forall_mem_cons.2 ⟨ok5, List.forall_mem_cons.2 ⟨ok9, List.forall_mem_cons.2 ⟨ok23, List.forall_mem_cons.2 ⟨ok41, List.forall_mem_cons.2 ⟨ok92, List.forall_mem_cons.2 ⟨ok95, List.forall_mem_cons.2 ⟨ok97, List.forall_mem_cons.2 ⟨ok113, List.forall_mem_cons.2 ⟨ok159, List.forall_mem_cons.2 ⟨ok179, List.forall_mem_cons.2 ⟨ok201, (fun _ h => by cases h)⟩⟩⟩⟩⟩⟩⟩⟩⟩⟩⟩⟩⟩, List.forall_mem_cons.2 ⟨by kernel_rfl, List.forall_mem_cons.2 ⟨by kernel_rfl, List.forall_mem_cons.2 ⟨by kernel_rfl, List.forall_mem_cons.2 ⟨by kernel_rfl, (fun _ h => by cases h)⟩⟩⟩⟩, mixed⟩
/-- maps.Keys[map[string]*ostiary/cred.Cred,string,*ostiary/cred.Cred] -/
noncomputable def cx_maps_Keys_map_string_cred_Cred_string_cred_Cred (W0 : World) (S : Nat → Prop) (bs : List Nat := []) : Cx := ⟨Tryz.prog, W0, S, 4, [(9, ti9), (179, ti179), (201, ti201)], [204], bs, none, []⟩
abbrev n_maps_Keys_map_string_cred_Cred_string_cred_Cred : FuncId := 159
theorem b_maps_Keys_map_string_cred_Cred_string_cred_Cred : Tryz.prog.funcs[n_maps_Keys_map_string_cred_Cred_string_cred_Cred]? = some Tryz.f159 := Tryz.func159
theorem good_maps_Keys_map_string_cred_Cred_string_cred_Cred (W0 : World) (S : Nat → Prop) (bs : List Nat := []) : Good (cx_maps_Keys_map_string_cred_Cred_string_cred_Cred W0 S bs) := ⟨List.forall_mem_cons.2 ⟨ok9, List.forall_mem_cons.2 ⟨ok179, List.forall_mem_cons.2 ⟨ok201, (fun _ h => by cases h)⟩⟩⟩, List.forall_mem_cons.2 ⟨by kernel_rfl, (fun _ h => by cases h)⟩, mixed⟩
/-- ostiary/ostiaryref14.In -/
noncomputable def cx_ostiaryref14_In (W0 : World) (S : Nat → Prop) (bs : List Nat := []) : Cx := ⟨Tryz.prog, W0, S, 17, [(3, ti3), (9, ti9), (95, ti95)], [], bs, none, []⟩
abbrev n_ostiaryref14_In : FuncId := 160
theorem b_ostiaryref14_In : Tryz.prog.funcs[n_ostiaryref14_In]? = some Tryz.f160 := Tryz.func160
theorem good_ostiaryref14_In (W0 : World) (S : Nat → Prop) (bs : List Nat := []) : Good (cx_ostiaryref14_In W0 S bs) := ⟨List.forall_mem_cons.2 ⟨ok3, List.forall_mem_cons.2 ⟨ok9, List.forall_mem_cons.2 ⟨ok95, (fun _ h => by cases h)⟩⟩⟩, (fun _ h => by cases h), mixed⟩
/-- ostiary/ostiaryref14.put -/
noncomputable def cx_ostiaryref14_put (W0 : World) (S : Nat → Prop) (bs : List Nat := []) : Cx := ⟨Tryz.prog, W0, S, 32, [(3, ti3), (9, ti9), (95, ti95)], [], bs, none, []⟩
abbrev n_ostiaryref14_put : FuncId := 161
theorem b_ostiaryref14_put : Tryz.prog.funcs[n_ostiaryref14_put]? = some Tryz.f161 := Tryz.func161
def p_ostiaryref14_put_4 : Plan := .take 1 (.take 2 (.take 3 (.take 5 (.take 8 (.take 9 (.take 10 (.alt 0 (.alt 4 (.exec 6 (.exec 7 (.exec 11 (.take 12 (.done))))) (.exec 6 (.exec 4 (.exec 7 (.exec 11 (.take 12 (.done))))))) (.exec 6 (.exec 0 (.exec 4 (.exec 7 (.exec 11 (.take 12 (.done))))))))))))))
theorem good_ostiaryref14_put (W0 : World) (S : Nat → Prop) (bs : List Nat := []) : Good (cx_ostiaryref14_put W0 S bs) := ⟨List.forall_mem_cons.2 ⟨ok3, List.forall_mem_cons.2 ⟨ok9, List.forall_mem_cons.2 ⟨ok95, (fun _ h => by cases h)⟩⟩⟩, (fun _ h => by cases h), mixed⟩
/-- ostiary/ostiaryref14.without -/
noncomputable def cx_ostiaryref14_without (W0 : World) (S : Nat → Prop) (bs : List Nat := []) : Cx := ⟨Tryz.prog, W0, S, 23, [(3, ti3), (9, ti9), (95, ti95)], [], bs, none, []⟩
abbrev n_ostiaryref14_without : FuncId := 162
theorem b_ostiaryref14_without : Tryz.prog.funcs[n_ostiaryref14_without]? = some Tryz.f162 := Tryz.func162
theorem good_ostiaryref14_without (W0 : World) (S : Nat → Prop) (bs : List Nat := []) : Good (cx_ostiaryref14_without W0 S bs) := ⟨List.forall_mem_cons.2 ⟨ok3, List.forall_mem_cons.2 ⟨ok9, List.forall_mem_cons.2 ⟨ok95, (fun _ h => by cases h)⟩⟩⟩, (fun _ h => by cases h), mixed⟩
/-- ostiary/ostiaryref14.Right -/
noncomputable def cx_ostiaryref14_Right (W0 : World) (S : Nat → Prop) (bs : List Nat := []) : Cx := ⟨Tryz.prog, W0, S, 26, [(3, ti3), (5, ti5), (23, ti23), (45, ti45)], [68], bs, none, []⟩
abbrev n_ostiaryref14_Right : FuncId := 163
theorem b_ostiaryref14_Right : Tryz.prog.funcs[n_ostiaryref14_Right]? = some Tryz.f163 := Tryz.func163
theorem good_ostiaryref14_Right (W0 : World) (S : Nat → Prop) (bs : List Nat := []) : Good (cx_ostiaryref14_Right W0 S bs) := ⟨List.forall_mem_cons.2 ⟨ok3, List.forall_mem_cons.2 ⟨ok5, List.forall_mem_cons.2 ⟨ok23, List.forall_mem_cons.2 ⟨ok45, (fun _ h => by cases h)⟩⟩⟩⟩, List.forall_mem_cons.2 ⟨by kernel_rfl, (fun _ h => by cases h)⟩, mixed⟩
/-- ostiary/ostiaryref14.set -/
noncomputable def cx_ostiaryref14_set (W0 : World) (S : Nat → Prop) (bs : List Nat := []) : Cx := ⟨Tryz.prog, W0, S, 40, [(3, ti3), (4, ti4), (5, ti5), (9, ti9), (23, ti23), (45, ti45), (95, ti95), (96, ti96), (97, ti97), (99, ti99), (102, ti102)], [], bs, none, []⟩
abbrev n_ostiaryref14_set : FuncId := 164
theorem b_ostiaryref14_set : Tryz.prog.funcs[n_ostiaryref14_set]? = some Tryz.f164 := Tryz.func164
def p_ostiaryref14_set_6 : Plan := .take 0 (.take 1 (.take 2 (.take 3 (.take 4 (.take 5 (.take 6 (.exec 7 (.done))))))))
theorem good_ostiaryref14_set (W0 : World) (S : Nat → Prop) (bs : List Nat := []) : Good (cx_ostiaryref14_set W0 S bs) := ⟨List.forall_mem_cons.2 ⟨ok3, List.forall_mem_cons.2 ⟨ok4, List.forall_mem_cons.2 ⟨ok5, List.forall_mem_cons.2 ⟨ok9, List.forall_mem_cons.2 ⟨ok23, List.forall_mem_cons.2 ⟨ok45, List.forall_mem_cons.2 ⟨ok95, List.forall_mem_cons.2 ⟨ok96, List.forall_mem_cons.2 ⟨ok97, List.forall_mem_cons.2 ⟨ok99, List.forall_mem_cons.2 ⟨ok102, (fun _ h => by cases h)⟩⟩⟩⟩⟩⟩⟩⟩⟩⟩⟩, (fun _ h => by cases h), mixed⟩
/-- slices.Delete[[]string,string] -/
noncomputable def cx_slices_Delete_string_string (W0 : World) (S : Nat → Prop) (bs : List Nat := []) : Cx := ⟨Tryz.prog, W0, S, 33, [(3, ti3), (9, ti9), (95, ti95)], [], bs, none, []⟩
abbrev n_slices_Delete_string_string : FuncId := 165
theorem b_slices_Delete_string_string : Tryz.prog.funcs[n_slices_Delete_string_string]? = some Tryz.f165 := Tryz.func165
def p_slices_Delete_string_string_5 : Plan := .take 0 (.take 1 (.take 2 (.take 3 (.take 4 (.take 5 (.exec 6 (.take 7 (.done))))))))
theorem good_slices_Delete_string_string (W0 : World) (S : Nat → Prop) (bs : List Nat := []) : Good (cx_slices_Delete_string_string W0 S bs) := ⟨List.forall_mem_cons.2 ⟨ok3, List.forall_mem_cons.2 ⟨ok9, List.forall_mem_cons.2 ⟨ok95, (fun _ h => by cases h)⟩⟩⟩, (fun _ h => by cases h), mixed⟩
/-- (ostiary/cred.Cred).plain -/
noncomputable def cx_cred_Cred_plain (W0 : World) (S : Nat → Prop) (bs : List Nat := []) : Cx := ⟨Tryz.prog, W0, S, 12, [(3, ti3), (4, ti4), (5, ti5), (9, ti9), (23, ti23), (41, ti41), (95, ti95), (97, ti97), (113, ti113), (127, ti127)], [61, 205, 206], bs, none, []⟩
abbrev n_cred_Cred_plain : FuncId := 166
theorem b_cred_Cred_plain : Tryz.prog.funcs[n_cred_Cred_plain]? = some Tryz.f166 := Tryz.func166
theorem good_cred_Cred_plain (W0 : World) (S : Nat → Prop) (bs : List Nat := []) : Good (cx_cred_Cred_plain W0 S bs) := ⟨List.forall_mem_cons.2 ⟨ok3, List.forall_mem_cons.2 ⟨ok4, List.forall_mem_cons.2 ⟨ok5, List.forall_mem_cons.2 ⟨ok9, List.forall_mem_cons.2 ⟨ok23, List.forall_mem_cons.2 ⟨ok41, List.forall_mem_cons.2 ⟨ok95, List.forall_mem_cons.2 ⟨ok97, List.forall_mem_cons.2 ⟨ok113, List.forall_mem_cons.2 ⟨ok127, (fun _ h => by cases h)⟩⟩⟩⟩⟩⟩⟩⟩⟩⟩, List.forall_mem_cons.2 ⟨by kernel_rfl, List.forall_mem_cons.2 ⟨by kernel_rfl, List.forall_mem_cons.2 ⟨by kernel_rfl, (fun _ h => by cases h)⟩⟩⟩, mixed⟩
/-- ostiary/cred.rising -/
noncomputable def cx_cred_rising (W0 : World) (S : Nat → Prop) (bs : List Nat := []) : Cx := ⟨Tryz.prog, W0, S, 27, [(3, ti3), (9, ti9), (95, ti95)], [], bs, none, []⟩
abbrev n_cred_rising : FuncId := 167
theorem b_cred_rising : Tryz.prog.funcs[n_cred_rising]? = some Tryz.f167 := Tryz.func167
def p_cred_rising_4 : Plan := .take 0 (.take 1 (.take 2 (.take 3 (.take 4 (.take 5 (.take 6 (.take 7 (.take 8 (.take 9 (.take 10 (.take 11 (.take 12 (.take 13 (.done))))))))))))))
theorem good_cred_rising (W0 : World) (S : Nat → Prop) (bs : List Nat := []) : Good (cx_cred_rising W0 S bs) := ⟨List.forall_mem_cons.2 ⟨ok3, List.forall_mem_cons.2 ⟨ok9, List.forall_mem_cons.2 ⟨ok95, (fun _ h => by cases h)⟩⟩⟩, (fun _ h => by cases h), mixed⟩
/-- ostiary/ostiaryref14.Users -/
noncomputable def cx_ostiaryref14_Users (W0 : World) (S : Nat → Prop) (bs : List Nat := []) : Cx := ⟨Tryz.prog, W0, S, 29, [(3, ti3), (4, ti4), (5, ti5), (9, ti9), (23, ti23), (45, ti45), (94, ti94), (95, ti95), (96, ti96), (97, ti97), (99, ti99), (102, ti102)], [], bs, none, []⟩
abbrev n_ostiaryref14_Users : FuncId := 168
theorem b_ostiaryref14_Users : Tryz.prog.funcs[n_ostiaryref14_Users]? = some Tryz.f168 := Tryz.func168
theorem good_ostiaryref14_Users (W0 : World) (S : Nat → Prop) (bs : List Nat := []) : Good (cx_ostiaryref14_Users W0 S bs) := ⟨List.forall_mem_cons.2 ⟨ok3, List.forall_mem_cons.2 ⟨ok4, List.forall_mem_cons.2 ⟨ok5, List.forall_mem_cons.2 ⟨ok9, List.forall_mem_cons.2 ⟨ok23, List.forall_mem_cons.2 ⟨ok45, List.forall_mem_cons.2 ⟨ok94, List.forall_mem_cons.2 ⟨ok95, List.forall_mem_cons.2 ⟨ok96, List.forall_mem_cons.2 ⟨ok97, List.forall_mem_cons.2 ⟨ok99, List.forall_mem_cons.2 ⟨ok102, (fun _ h => by cases h)⟩⟩⟩⟩⟩⟩⟩⟩⟩⟩⟩⟩, (fun _ h => by cases h), mixed⟩
/-- ostiary/ostiaryref14.insert -/
noncomputable def cx_ostiaryref14_insert (W0 : World) (S : Nat → Prop) (bs : List Nat := []) : Cx := ⟨Tryz.prog, W0, S, 74, [(3, ti3), (4, ti4), (5, ti5), (9, ti9), (23, ti23), (45, ti45), (95, ti95), (96, ti96), (97, ti97), (99, ti99), (102, ti102)], [], bs, none, []⟩
abbrev n_ostiaryref14_insert : FuncId := 169
theorem b_ostiaryref14_insert : Tryz.prog.funcs[n_ostiaryref14_insert]? = some Tryz.f169 := Tryz.func169
def p_ostiaryref14_insert_2 : Plan := .take 0 (.take 1 (.take 2 (.take 3 (.take 4 (.take 5 (.take 6 (.take 7 (.take 8 (.take 9 (.take 10 (.take 11 (.take 12 (.take 13 (.take 14 (.take 15 (.take 16 (.take 17 (.take 18 (.take 19 (.take 20 (.take 21 (.take 22 (.take 23 (.take 24 (.take 25 (.take 26 (.take 27 (.take 28 (.take 29 (.take 30 (.take 31 (.take 32 (.take 33 (.take 34 (.take 35 (.take 36 (.take 37 (.take 38 (.take 39 (.take 40 (.take 41 (.take 42 (.take 43 (.take 44 (.take 45 (.done))))))))))))))))))))))))))))))))))))))))))))))
def p_ostiaryref14_insert_4 : Plan := .take 0 (.take 2 (.take 3 (.take 4 (.take 5 (.take 6 (.take 7 (.take 9 (.take 12 (.take 13 (.take 14 (.take 15 (.take 16 (.take 17 (.alt 1 (.alt 8 (.exec 10 (.exec 11 (.exec 18 (.exec 19 (.take 20 (.brk 21 (.done))))))) (.exec 10 (.exec 8 (.exec 11 (.exec 18 (.exec 19 (.take 20 (.brk 21 (.done))))))))) (.exec 10 (.exec 1 (.exec 8 (.exec 11 (.exec 18 (.exec 19 (.take 20 (.brk 21 (.done)))))))))))))))))))))))
theorem good_ostiaryref14_insert (W0 : World) (S : Nat → Prop) (bs : List Nat := []) : Good (cx_ostiaryref14_insert W0 S bs) := ⟨List.forall_mem_cons.2 ⟨ok3, List.forall_mem_cons.2 ⟨ok4, List.forall_mem_cons.2 ⟨ok5, List.forall_mem_cons.2 ⟨ok9, List.forall_mem_cons.2 ⟨ok23, List.forall_mem_cons.2 ⟨ok45, List.forall_mem_cons.2 ⟨ok95, List.forall_mem_cons.2 ⟨ok96, List.forall_mem_cons.2 ⟨ok97, List.forall_mem_cons.2 ⟨ok99, List.forall_mem_cons.2 ⟨ok102, (fun _ h => by cases h)⟩⟩⟩⟩⟩⟩⟩⟩⟩⟩⟩, (fun _ h => by cases h), mixed⟩
/-- (*strings.Builder).Grow -/
noncomputable def cx_strings_Builder_Grow (W0 : World) (S : Nat → Prop) (bs : List Nat := []) : Cx := ⟨Tryz.prog, W0, S, 25, [(3, ti3), (5, ti5), (9, ti9), (23, ti23), (190, ti190), (192, ti192)], [174, 207], bs, none, []⟩
abbrev n_strings_Builder_Grow : FuncId := 170
theorem b_strings_Builder_Grow : Tryz.prog.funcs[n_strings_Builder_Grow]? = some Tryz.f170 := Tryz.func170
def p_strings_Builder_Grow_3 : Plan := .take 0 (.take 1 (.take 2 (.take 3 (.take 4 (.take 5 (.take 6 (.take 7 (.take 8 (.take 9 (.take 10 (.take 11 (.take 12 (.done)))))))))))))
theorem good_strings_Builder_Grow (W0 : World) (S : Nat → Prop) (bs : List Nat := []) : Good (cx_strings_Builder_Grow W0 S bs) := ⟨List.forall_mem_cons.2 ⟨ok3, List.forall_mem_cons.2 ⟨ok5, List.forall_mem_cons.2 ⟨ok9, List.forall_mem_cons.2 ⟨ok23, List.forall_mem_cons.2 ⟨ok190, List.forall_mem_cons.2 ⟨ok192, (fun _ h => by cases h)⟩⟩⟩⟩⟩⟩, List.forall_mem_cons.2 ⟨by kernel_rfl, List.forall_mem_cons.2 ⟨by kernel_rfl, (fun _ h => by cases h)⟩⟩, mixed⟩
/-- (*strings.Builder).WriteString -/
noncomputable def cx_strings_Builder_WriteString (W0 : World) (S : Nat → Prop) (bs : List Nat := []) : Cx := ⟨Tryz.prog, W0, S, 19, [(5, ti5), (9, ti9), (23, ti23), (190, ti190), (192, ti192)], [174], bs, none, []⟩
abbrev n_strings_Builder_WriteString : FuncId := 171
theorem b_strings_Builder_WriteString : Tryz.prog.funcs[n_strings_Builder_WriteString]? = some Tryz.f171 := Tryz.func171
theorem good_strings_Builder_WriteString (W0 : World) (S : Nat → Prop) (bs : List Nat := []) : Good (cx_strings_Builder_WriteString W0 S bs) := ⟨List.forall_mem_cons.2 ⟨ok5, List.forall_mem_cons.2 ⟨ok9, List.forall_mem_cons.2 ⟨ok23, List.forall_mem_cons.2 ⟨ok190, List.forall_mem_cons.2 ⟨ok192, (fun _ h => by cases h)⟩⟩⟩⟩⟩, List.forall_mem_cons.2 ⟨by kernel_rfl, (fun _ h => by cases h)⟩, mixed⟩
/-- ostiary/ostiaryref05.front -/
noncomputable def cx_ostiaryref05_front (W0 : World) (S : Nat → Prop) (bs : List Nat := []) : Cx := ⟨Tryz.prog, W0, S, 3, [(3, ti3), (5, ti5), (23, ti23)], [], bs, none, []⟩
abbrev n_ostiaryref05_front : FuncId := 172
theorem b_ostiaryref05_front : Tryz.prog.funcs[n_ostiaryref05_front]? = some Tryz.f172 := Tryz.func172
theorem good_ostiaryref05_front (W0 : World) (S : Nat → Prop) (bs : List Nat := []) : Good (cx_ostiaryref05_front W0 S bs) := ⟨List.forall_mem_cons.2 ⟨ok3, List.forall_mem_cons.2 ⟨ok5, List.forall_mem_cons.2 ⟨ok23, (fun _ h => by cases h)⟩⟩⟩, (fun _ h => by cases h), mixed⟩
/-- ostiary/ostiaryref01.Step -/
noncomputable def cx_ostiaryref01_Step (W0 : World) (S : Nat → Prop) (bs : List Nat := []) : Cx := ⟨Tryz.prog, W0, S, 178, [(3, ti3), (5, ti5), (22, ti22), (23, ti23), (97, ti97), (184, ti184), (196, ti196), (251, ti251)], [185, 208], bs, none, []⟩
abbrev n_ostiaryref01_Step : FuncId := 173
theorem b_ostiaryref01_Step : Tryz.prog.funcs[n_ostiaryref01_Step]? = some Tryz.f173 := Tryz.func173
def p_ostiaryref01_Step_7 : Plan := .take 0 (.take 1 (.take 2 (.take 3 (.take 5 (.take 6 (.take 7 (.take 8 (.take 11 (.take 12 (.take 13 (.take 14 (.take 15 (.exec 4 (.exec 9 (.take 10 (.take 16 (.take 17 (.done))))))))))))))))))
def p_ostiaryref01_Step_8 : Plan := .take 0 (.take 1 (.take 2 (.take 3 (.take 5 (.take 6 (.take 7 (.take 8 (.take 11 (.take 12 (.take 13 (.take 14 (.take 15 (.exec 4 (.exec 9 (.take 10 (.take 16 (.take 17 (.done))))))))))))))))))
def p_ostiaryref01_Step_9 : Plan := .take 0 (.take 1 (.take 2 (.take 3 (.take 4 (.take 5 (.take 6 (.take 7 (.take 8 (.take 9 (.take 10 (.take 11 (.take 12 (.take 13 (.take 14 (.brk 15 (.done))))))))))))))))
def p_ostiaryref01_Step_15 : Plan := .take 0 (.take 1 (.take 2 (.take 4 (.take 7 (.take 11 (.take 12 (.take 13 (.take 14 (.take 15 (.take 16 (.take 17 (.take 18 (.take 19 (.take 20 (.take 22 (.take 23 (.take 24 (.take 26 (.take 27 (.take 28 (.exec 3 (.exec 5 (.take 6 (.exec 8 (.take 9 (.take 10 (.take 21 (.take 25 (.take 29 (.take 30 (.done)))))))))))))))))))))))))))))))
def p_ostiaryref01_Step_17 : Plan := .take 0 (.take 2 (.take 5 (.take 8 (.take 9 (.take 10 (.take 11 (.take 12 (.take 13 (.take 14 (.take 15 (.take 16 (.take 17 (.take 18 (.take 19 (.take 20 (.take 21 (.take 22 (.exec 1 (.exec 3 (.take 4 (.exec 6 (.take 7 (.take 23 (.take 24 (.done)))))))))))))))))))))))))
def p_ostiaryref01_Step_22 : Plan := .take 0 (.take 1 (.take 2 (.take 3 (.take 4 (.take 5 (.take 6 (.take 7 (.brk 8 (.done)))))))))
theorem good_ostiaryref01_Step (W0 : World) (S : Nat → Prop) (bs : List Nat := []) : Good (cx_ostiaryref01_Step W0 S bs) := ⟨List.forall_mem_cons.2 ⟨ok3, List.forall_mem_cons.2 ⟨ok5, List.forall_mem_cons.2 ⟨ok22, List.forall_mem_cons.2 ⟨ok23, List.forall_mem_cons.2 ⟨ok97, List.forall_mem_cons.2 ⟨ok184, List.forall_mem_cons.2 ⟨ok196, List.forall_mem_cons.2 ⟨ok251, (fun _ h => by cases h)⟩⟩⟩⟩⟩⟩⟩⟩, List.forall_mem_cons.2 ⟨by kernel_rfl, List.forall_mem_cons.2 ⟨by kernel_rfl, (fun _ h => by cases h)⟩⟩, mixed⟩
/-- (*strings.Builder).copyCheck -/
noncomputable def cx_strings_Builder_copyCheck (W0 : World) (S : Nat → Prop) (bs : List Nat := []) : Cx := ⟨Tryz.prog, W0, S, 20, [(5, ti5), (23, ti23), (190, ti190), (192, ti192)], [], bs, none, []⟩
abbrev n_strings_Builder_copyCheck : FuncId := 174
theorem b_strings_Builder_copyCheck : Tryz.prog.funcs[n_strings_Builder_copyCheck]? = some Tryz.f174 := Tryz.func174
theorem good_strings_Builder_copyCheck (W0 : World) (S : Nat → Prop) (bs : List Nat := []) : Good (cx_strings_Builder_copyCheck W0 S bs) := ⟨List.forall_mem_cons.2 ⟨ok5, List.forall_mem_cons.2 ⟨ok23, List.forall_mem_cons.2 ⟨ok190, List.forall_mem_cons.2 ⟨ok192, (fun _ h => by cases h)⟩⟩⟩⟩, (fun _ h => by cases h), mixed⟩
/-- ostiary/name.Prepare -/
noncomputable def cx_name_Prepare (W0 : World) (S : Nat → Prop) (bs : List Nat := []) : Cx := ⟨Tryz.prog, W0, S, 25, [(5, ti5), (9, ti9), (21, ti21), (23, ti23), (42, ti42), (266, ti266), (268, ti268), (269, ti269)], [210, 211, 212, 213], bs, none, []⟩
abbrev n_name_Prepare : FuncId := 175
theorem b_name_Prepare : Tryz.prog.funcs[n_name_Prepare]? = some Tryz.f175 := Tryz.func175
theorem good_name_Prepare (W0 : World) (S : Nat → Prop) (bs : List Nat := []) : Good (cx_name_Prepare W0 S bs) := ⟨List.forall_mem_cons.2 ⟨ok5, List.forall_mem_cons.2 ⟨ok9, List.forall_mem_cons.2 ⟨ok21, List.forall_mem_cons.2 ⟨ok23, List.forall_mem_cons.2 ⟨ok42, List.forall_mem_cons.2 ⟨ok266, List.forall_mem_cons.2 ⟨ok268, List.forall_mem_cons.2 ⟨ok269, (fun _ h => by cases h)⟩⟩⟩⟩⟩⟩⟩⟩, List.forall_mem_cons.2 ⟨by kernel_rfl, List.forall_mem_cons.2 ⟨by kernel_rfl, List.forall_mem_cons.2 ⟨by kernel_rfl, List.forall_mem_cons.2 ⟨by kernel_rfl, (fun _ h => by cases h)⟩⟩⟩⟩, mixed⟩
/-- ostiary/ostiaryref04.Signs -/
noncomputable def cx_ostiaryref04_Signs (W0 : World) (S : Nat → Prop) (bs : List Nat := []) : Cx := ⟨Tryz.prog, W0, S, 28, [(3, ti3), (9, ti9), (238, ti238), (241, ti241)], [214], bs, none, []⟩
abbrev n_ostiaryref04_Signs : FuncId := 176
theorem b_ostiaryref04_Signs : Tryz.prog.funcs[n_ostiaryref04_Signs]? = some Tryz.f176 := Tryz.func176
theorem good_ostiaryref04_Signs (W0 : World) (S : Nat → Prop) (bs : List Nat := []) : Good (cx_ostiaryref04_Signs W0 S bs) := ⟨List.forall_mem_cons.2 ⟨ok3, List.forall_mem_cons.2 ⟨ok9, List.forall_mem_cons.2 ⟨ok238, List.forall_mem_cons.2 ⟨ok241, (fun _ h => by cases h)⟩⟩⟩⟩, List.forall_mem_cons.2 ⟨by kernel_rfl, (fun _ h => by cases h)⟩, mixed⟩
/-- ostiary/ostiaryref04.blank -/
noncomputable def cx_ostiaryref04_blank (W0 : World) (S : Nat → Prop) (bs : List Nat := []) : Cx := ⟨Tryz.prog, W0, S, 29, [(3, ti3)], [], bs, none, []⟩
abbrev n_ostiaryref04_blank : FuncId := 177
theorem b_ostiaryref04_blank : Tryz.prog.funcs[n_ostiaryref04_blank]? = some Tryz.f177 := Tryz.func177
theorem good_ostiaryref04_blank (W0 : World) (S : Nat → Prop) (bs : List Nat := []) : Good (cx_ostiaryref04_blank W0 S bs) := ⟨List.forall_mem_cons.2 ⟨ok3, (fun _ h => by cases h)⟩, (fun _ h => by cases h), mixed⟩
/-- ostiary/ostiaryref04.goes -/
noncomputable def cx_ostiaryref04_goes (W0 : World) (S : Nat → Prop) (bs : List Nat := []) : Cx := ⟨Tryz.prog, W0, S, 29, [(3, ti3)], [], bs, none, []⟩
abbrev n_ostiaryref04_goes : FuncId := 178
theorem b_ostiaryref04_goes : Tryz.prog.funcs[n_ostiaryref04_goes]? = some Tryz.f178 := Tryz.func178
theorem good_ostiaryref04_goes (W0 : World) (S : Nat → Prop) (bs : List Nat := []) : Good (cx_ostiaryref04_goes W0 S bs) := ⟨List.forall_mem_cons.2 ⟨ok3, (fun _ h => by cases h)⟩, (fun _ h => by cases h), mixed⟩
/-- ostiary/ostiaryref04.bars -/
noncomputable def cx_ostiaryref04_bars (W0 : World) (S : Nat → Prop) (bs : List Nat := []) : Cx := ⟨Tryz.prog, W0, S, 48, [(3, ti3)], [], bs, none, []⟩
abbrev n_ostiaryref04_bars : FuncId := 179
theorem b_ostiaryref04_bars : Tryz.prog.funcs[n_ostiaryref04_bars]? = some Tryz.f179 := Tryz.func179
theorem good_ostiaryref04_bars (W0 : World) (S : Nat → Prop) (bs : List Nat := []) : Good (cx_ostiaryref04_bars W0 S bs) := ⟨List.forall_mem_cons.2 ⟨ok3, (fun _ h => by cases h)⟩, (fun _ h => by cases h), mixed⟩
/-- ostiary/ostiaryref04.Bytes -/
noncomputable def cx_ostiaryref04_Bytes (W0 : World) (S : Nat → Prop) (bs : List Nat := []) : Cx := ⟨Tryz.prog, W0, S, 73, [(3, ti3), (5, ti5), (23, ti23)], [], bs, none, []⟩
abbrev n_ostiaryref04_Bytes : FuncId := 180
theorem b_ostiaryref04_Bytes : Tryz.prog.funcs[n_ostiaryref04_Bytes]? = some Tryz.f180 := Tryz.func180
theorem good_ostiaryref04_Bytes (W0 : World) (S : Nat → Prop) (bs : List Nat := []) : Good (cx_ostiaryref04_Bytes W0 S bs) := ⟨List.forall_mem_cons.2 ⟨ok3, List.forall_mem_cons.2 ⟨ok5, List.forall_mem_cons.2 ⟨ok23, (fun _ h => by cases h)⟩⟩⟩, (fun _ h => by cases h), mixed⟩
/-- cmp.Less[string] -/
noncomputable def cx_cmp_Less_string (W0 : World) (S : Nat → Prop) (bs : List Nat := []) : Cx := ⟨Tryz.prog, W0, S, 17, [(9, ti9)], [215], bs, none, []⟩
abbrev n_cmp_Less_string : FuncId := 181
theorem b_cmp_Less_string : Tryz.prog.funcs[n_cmp_Less_string]? = some Tryz.f181 := Tryz.func181
theorem good_cmp_Less_string (W0 : World) (S : Nat → Prop) (bs : List Nat := []) : Good (cx_cmp_Less_string W0 S bs) := ⟨List.forall_mem_cons.2 ⟨ok9, (fun _ h => by cases h)⟩, List.forall_mem_cons.2 ⟨by kernel_rfl, (fun _ h => by cases h)⟩, mixed⟩
/-- slices.isNaN[string] -/
noncomputable def cx_slices_isNaN_string (W0 : World) (S : Nat → Prop) (bs : List Nat := []) : Cx := ⟨Tryz.prog, W0, S, 6, [(9, ti9)], [], bs, none, []⟩
abbrev n_slices_isNaN_string : FuncId := 182
theorem b_slices_isNaN_string : Tryz.prog.funcs[n_slices_isNaN_string]? = some Tryz.f182 := Tryz.func182
theorem good_slices_isNaN_string (W0 : World) (S : Nat → Prop) (bs : List Nat := []) : Good (cx_slices_isNaN_string W0 S bs) := ⟨List.forall_mem_cons.2 ⟨ok9, (fun _ h => by cases h)⟩, (fun _ h => by cases h), mixed⟩
/-- slices.rotateRight[string] -/
noncomputable def cx_slices_rotateRight_string (W0 : World) (S : Nat → Prop) (bs : List Nat := []) : Cx := ⟨Tryz.prog, W0, S, 10, [(3, ti3), (9, ti9), (95, ti95)], [216], bs, none, []⟩
abbrev n_slices_rotateRight_string : FuncId := 184
theorem b_slices_rotateRight_string : Tryz.prog.funcs[n_slices_rotateRight_string]? = some Tryz.f184 := Tryz.func184
theorem good_slices_rotateRight_string (W0 : World) (S : Nat → Prop) (bs : List Nat := []) : Good (cx_slices_rotateRight_string W0 S bs) := ⟨List.forall_mem_cons.2 ⟨ok3, List.forall_mem_cons.2 ⟨ok9, List.forall_mem_cons.2 ⟨ok95, (fun _ h => by cases h)⟩⟩⟩, List.forall_mem_cons.2 ⟨by kernel_rfl, (fun _ h => by cases h)⟩, mixed⟩
/-- ostiary/ostiaryref01.Num -/
noncomputable def cx_ostiaryref01_Num (W0 : World) (S : Nat → Prop) (bs : List Nat := []) : Cx := ⟨Tryz.prog, W0, S, 19, [(3, ti3), (5, ti5), (23, ti23), (97, ti97)], [], bs, none, []⟩
abbrev n_ostiaryref01_Num : FuncId := 185
theorem b_ostiaryref01_Num : Tryz.prog.funcs[n_ostiaryref01_Num]? = some Tryz.f185 := Tryz.func185
theorem good_ostiaryref01_Num (W0 : World) (S : Nat → Prop) (bs : List Nat := []) : Good (cx_ostiaryref01_Num W0 S bs) := ⟨List.forall_mem_cons.2 ⟨ok3, List.forall_mem_cons.2 ⟨ok5, List.forall_mem_cons.2 ⟨ok23, List.forall_mem_cons.2 ⟨ok97, (fun _ h => by cases h)⟩⟩⟩⟩, (fun _ h => by cases h), mixed⟩
/-- slices.Index[[]int,int] -/
noncomputable def cx_slices_Index_int_int (W0 : World) (S : Nat → Prop) (bs : List Nat := []) : Cx := ⟨Tryz.prog, W0, S, 19, [(3, ti3), (68, ti68)], [], bs, none, []⟩
abbrev n_slices_Index_int_int : FuncId := 186
theorem b_slices_Index_int_int : Tryz.prog.funcs[n_slices_Index_int_int]? = some Tryz.f186 := Tryz.func186
theorem good_slices_Index_int_int (W0 : World) (S : Nat → Prop) (bs : List Nat := []) : Good (cx_slices_Index_int_int W0 S bs) := ⟨List.forall_mem_cons.2 ⟨ok3, List.forall_mem_cons.2 ⟨ok68, (fun _ h => by cases h)⟩⟩, (fun _ h => by cases h), mixed⟩
/-- slices.pdqsortOrdered[int] -/
noncomputable def cx_slices_pdqsortOrdered_int (W0 : World) (S : Nat → Prop) (bs : List Nat := []) : Cx := ⟨Tryz.prog, W0, S, 134, [(3, ti3), (68, ti68), (274, ti274)], [187, 217, 218, 219, 220, 221, 222, 223, 224, 225], bs, none, []⟩
abbrev n_slices_pdqsortOrdered_int : FuncId := 187
theorem b_slices_pdqsortOrdered_int : Tryz.prog.funcs[n_slices_pdqsortOrdered_int]? = some Tryz.f187 := Tryz.func187
def p_slices_pdqsortOrdered_int_17 : Plan := .take 0 (.take 1 (.take 2 (.take 3 (.take 4 (.take 5 (.take 6 (.take 7 (.take 8 (.take 9 (.take 10 (.take 11 (.exec 12 (.take 13 (.take 14 (.done)))))))))))))))
theorem good_slices_pdqsortOrdered_int (W0 : World) (S : Nat → Prop) (bs : List Nat := []) : Good (cx_slices_pdqsortOrdered_int W0 S bs) := ⟨List.forall_mem_cons.2 ⟨ok3, List.forall_mem_cons.2 ⟨ok68, List.forall_mem_cons.2 ⟨ok274, (fun _ h => by cases h)⟩⟩⟩, List.forall_mem_cons.2 ⟨by kernel_rfl, List.forall_mem_cons.2 ⟨by kernel_rfl, List.forall_mem_cons.2 ⟨by kernel_rfl, List.forall_mem_cons.2 ⟨by kernel_rfl, List.forall_mem_cons.2 ⟨by kernel_rfl, List.forall_mem_cons.2 ⟨by kernel_rfl, List.forall_mem_cons.2 ⟨by kernel_rfl, List.forall_mem_cons.2 ⟨by kernel_rfl, List.forall_mem_cons.2 ⟨by kernel_rfl, List.forall_mem_cons.2 ⟨by kernel_rfl, (fun _ h => by cases h)⟩⟩⟩⟩⟩⟩⟩⟩⟩⟩, mixed⟩
/-- math/bits.Len -/
noncomputable def cx_math_bits_Len (W0 : World) (S : Nat → Prop) (bs : List Nat := []) : Cx := ⟨Tryz.prog, W0, S, 8, [(22, ti22), (97, ti97), (196, ti196)], [226, 227], bs, none, []⟩
abbrev n_math_bits_Len : FuncId := 188
theorem b_math_bits_Len : Tryz.prog.funcs[n_math_bits_Len]? = some Tryz.f188 := Tryz.func188
theorem good_math_bits_Len (W0 : World) (S : Nat → Prop) (bs : List Nat := []) : Good (cx_math_bits_Len W0 S bs) := ⟨List.forall_mem_cons.2 ⟨ok22, List.forall_mem_cons.2 ⟨ok97, List.forall_mem_cons.2 ⟨ok196, (fun _ h => by cases h)⟩⟩⟩, List.forall_mem_cons.2 ⟨by kernel_rfl, List.forall_mem_cons.2 ⟨by kernel_rfl, (fun _ h => by cases h)⟩⟩, mixed⟩
/-- (ostiary/box.Term).print$1 -/
noncomputable def cx_box_Term_print_1 (W0 : World) (S : Nat → Prop) (bs : List Nat := []) : Cx := ⟨Tryz.prog, W0, S, 18, [(3, ti3), (5, ti5), (23, ti23)], [], bs, none, []⟩
abbrev n_box_Term_print_1 : FuncId := 189
theorem b_box_Term_print_1 : Tryz.prog.funcs[n_box_Term_print_1]? = some Tryz.f189 := Tryz.func189
theorem good_box_Term_print_1 (W0 : World) (S : Nat → Prop) (bs : List Nat := []) : Good (cx_box_Term_print_1 W0 S bs) := ⟨List.forall_mem_cons.2 ⟨ok3, List.forall_mem_cons.2 ⟨ok5, List.forall_mem_cons.2 ⟨ok23, (fun _ h => by cases h)⟩⟩⟩, (fun _ h => by cases h), mixed⟩
/-- ostiary/sha.Blocks$1 -/
noncomputable def cx_sha_Blocks_1 (W0 : World) (S : Nat → Prop) (bs : List Nat := []) : Cx := ⟨Tryz.prog, W0, S, 21, [(3, ti3), (5, ti5), (23, ti23), (97, ti97)], [65, 191], bs, none, []⟩
abbrev n_sha_Blocks_1 : FuncId := 190
theorem b_sha_Blocks_1 : Tryz.prog.funcs[n_sha_Blocks_1]? = some Tryz.f190 := Tryz.func190
def p_sha_Blocks_1_0 : Plan := .take 0 (.take 2 (.take 3 (.take 4 (.exec 1 (.exec 5 (.exec 6 (.take 7 (.done))))))))
theorem good_sha_Blocks_1 (W0 : World) (S : Nat → Prop) (bs : List Nat := []) : Good (cx_sha_Blocks_1 W0 S bs) := ⟨List.forall_mem_cons.2 ⟨ok3, List.forall_mem_cons.2 ⟨ok5, List.forall_mem_cons.2 ⟨ok23, List.forall_mem_cons.2 ⟨ok97, (fun _ h => by cases h)⟩⟩⟩⟩, List.forall_mem_cons.2 ⟨by kernel_rfl, List.forall_mem_cons.2 ⟨by kernel_rfl, (fun _ h => by cases h)⟩⟩, mixed⟩
/-- ostiary/sha.ends -/
noncomputable def cx_sha_ends (W0 : World) (S : Nat → Prop) (bs : List Nat := []) : Cx := ⟨Tryz.prog, W0, S, 21, [(3, ti3), (5, ti5), (23, ti23), (97, ti97)], [228], bs, none, []⟩
abbrev n_sha_ends : FuncId := 191
theorem b_sha_ends : Tryz.prog.funcs[n_sha_ends]? = some Tryz.f191 := Tryz.func191
theorem good_sha_ends (W0 : World) (S : Nat → Prop) (bs : List Nat := []) : Good (cx_sha_ends W0 S bs) := ⟨List.forall_mem_cons.2 ⟨ok3, List.forall_mem_cons.2 ⟨ok5, List.forall_mem_cons.2 ⟨ok23, List.forall_mem_cons.2 ⟨ok97, (fun _ h => by cases h)⟩⟩⟩⟩, List.forall_mem_cons.2 ⟨by kernel_rfl, (fun _ h => by cases h)⟩, mixed⟩
/-- ostiary/sha.spread -/
noncomputable def cx_sha_spread (W0 : World) (S : Nat → Prop) (bs : List Nat := []) : Cx := ⟨Tryz.prog, W0, S, 65, [(3, ti3), (5, ti5), (22, ti22), (23, ti23), (251, ti251)], [193, 229], bs, none, []⟩
abbrev n_sha_spread : FuncId := 192
theorem b_sha_spread : Tryz.prog.funcs[n_sha_spread]? = some Tryz.f192 := Tryz.func192
def p_sha_spread_10 : Plan := .take 0 (.take 1 (.take 2 (.take 3 (.take 4 (.take 5 (.take 6 (.take 7 (.take 8 (.take 9 (.done))))))))))
def p_sha_spread_13 : Plan := .take 0 (.take 1 (.take 2 (.take 3 (.take 4 (.take 5 (.take 6 (.take 7 (.take 8 (.take 9 (.take 10 (.take 11 (.take 12 (.take 13 (.take 14 (.brk 15 (.done))))))))))))))))
theorem good_sha_spread (W0 : World) (S : Nat → Prop) (bs : List Nat := []) : Good (cx_sha_spread W0 S bs) := ⟨List.forall_mem_cons.2 ⟨ok3, List.forall_mem_cons.2 ⟨ok5, List.forall_mem_cons.2 ⟨ok22, List.forall_mem_cons.2 ⟨ok23, List.forall_mem_cons.2 ⟨ok251, (fun _ h => by cases h)⟩⟩⟩⟩⟩, List.forall_mem_cons.2 ⟨by kernel_rfl, List.forall_mem_cons.2 ⟨by kernel_rfl, (fun _ h => by cases h)⟩⟩, mixed⟩
/-- math/bits.RotateLeft32 -/
noncomputable def cx_math_bits_RotateLeft32 (W0 : World) (S : Nat → Prop) (bs : List Nat := []) : Cx := ⟨Tryz.prog, W0, S, 17, [(3, ti3), (22, ti22), (196, ti196)], [], bs, none, []⟩
abbrev n_math_bits_RotateLeft32 : FuncId := 193
theorem b_math_bits_RotateLeft32 : Tryz.prog.funcs[n_math_bits_RotateLeft32]? = some Tryz.f193 := Tryz.func193
theorem good_math_bits_RotateLeft32 (W0 : World) (S : Nat → Prop) (bs : List Nat := []) : Good (cx_math_bits_RotateLeft32 W0 S bs) := ⟨List.forall_mem_cons.2 ⟨ok3, List.forall_mem_cons.2 ⟨ok22, List.forall_mem_cons.2 ⟨ok196, (fun _ h => by cases h)⟩⟩⟩, (fun _ h => by cases h), mixed⟩
/-- ostiary/hmac.pieces$1 -/
noncomputable def cx_hmac_pieces_1 (W0 : World) (S : Nat → Prop) (bs : List Nat := []) : Cx := ⟨Tryz.prog, W0, S, 38, [(3, ti3), (5, ti5), (23, ti23), (58, ti58), (254, ti254)], [140, 195, 196, 200], bs, none, []⟩
abbrev n_hmac_pieces_1 : FuncId := 194
theorem b_hmac_pieces_1 : Tryz.prog.funcs[n_hmac_pieces_1]? = some Tryz.f194 := Tryz.func194
def p_hmac_pieces_1_4 : Plan := .take 0 (.take 1 (.take 2 (.exec 3 (.exec 4 (.exec 5 (.take 6 (.done)))))))
theorem good_hmac_pieces_1 (W0 : World) (S : Nat → Prop) (bs : List Nat := []) : Good (cx_hmac_pieces_1 W0 S bs) := ⟨List.forall_mem_cons.2 ⟨ok3, List.forall_mem_cons.2 ⟨ok5, List.forall_mem_cons.2 ⟨ok23, List.forall_mem_cons.2 ⟨ok58, List.forall_mem_cons.2 ⟨ok254, (fun _ h => by cases h)⟩⟩⟩⟩⟩, List.forall_mem_cons.2 ⟨by kernel_rfl, List.forall_mem_cons.2 ⟨by kernel_rfl, List.forall_mem_cons.2 ⟨by kernel_rfl, List.forall_mem_cons.2 ⟨by kernel_rfl, (fun _ h => by cases h)⟩⟩⟩⟩, mixed⟩
/-- ostiary/hmac.New -/
noncomputable def cx_hmac_New (W0 : World) (S : Nat → Prop) (bs : List Nat := []) : Cx := ⟨Tryz.prog, W0, S, 15, [(5, ti5), (23, ti23), (254, ti254), (284, ti284), (287, ti287)], [152, 197, 230], bs, none, []⟩
abbrev n_hmac_New : FuncId := 195
theorem b_hmac_New : Tryz.prog.funcs[n_hmac_New]? = some Tryz.f195 := Tryz.func195
theorem good_hmac_New (W0 : World) (S : Nat → Prop) (bs : List Nat := []) : Good (cx_hmac_New W0 S bs) := ⟨List.forall_mem_cons.2 ⟨ok5, List.forall_mem_cons.2 ⟨ok23, List.forall_mem_cons.2 ⟨ok254, List.forall_mem_cons.2 ⟨ok284, List.forall_mem_cons.2 ⟨ok287, (fun _ h => by cases h)⟩⟩⟩⟩⟩, List.forall_mem_cons.2 ⟨by kernel_rfl, List.forall_mem_cons.2 ⟨by kernel_rfl, List.forall_mem_cons.2 ⟨by kernel_rfl, (fun _ h => by cases h)⟩⟩⟩, mixed⟩
/-- ostiary/hmac.pieces$1$1 -/
noncomputable def cx_hmac_pieces_1_1 (W0 : World) (S : Nat → Prop) (bs : List Nat := []) : Cx := ⟨Tryz.prog, W0, S, 20, [(3, ti3), (5, ti5), (23, ti23), (58, ti58), (254, ti254)], [197, 198, 199], bs, none, []⟩
abbrev n_hmac_pieces_1_1 : FuncId := 196
theorem b_hmac_pieces_1_1 : Tryz.prog.funcs[n_hmac_pieces_1_1]? = some Tryz.f196 := Tryz.func196
theorem good_hmac_pieces_1_1 (W0 : World) (S : Nat → Prop) (bs : List Nat := []) : Good (cx_hmac_pieces_1_1 W0 S bs) := ⟨List.forall_mem_cons.2 ⟨ok3, List.forall_mem_cons.2 ⟨ok5, List.forall_mem_cons.2 ⟨ok23, List.forall_mem_cons.2 ⟨ok58, List.forall_mem_cons.2 ⟨ok254, (fun _ h => by cases h)⟩⟩⟩⟩⟩, List.forall_mem_cons.2 ⟨by kernel_rfl, List.forall_mem_cons.2 ⟨by kernel_rfl, List.forall_mem_cons.2 ⟨by kernel_rfl, (fun _ h => by cases h)⟩⟩⟩, mixed⟩
/-- (*ostiary/hmac.Mac).Reset -/
noncomputable def cx_hmac_Mac_Reset (W0 : World) (S : Nat → Prop) (bs : List Nat := []) : Cx := ⟨Tryz.prog, W0, S, 12, [(254, ti254), (284, ti284), (287, ti287)], [231], bs, none, []⟩
abbrev n_hmac_Mac_Reset : FuncId := 197
theorem b_hmac_Mac_Reset : Tryz.prog.funcs[n_hmac_Mac_Reset]? = some Tryz.f197 := Tryz.func197
theorem good_hmac_Mac_Reset (W0 : World) (S : Nat → Prop) (bs : List Nat := []) : Good (cx_hmac_Mac_Reset W0 S bs) := ⟨List.forall_mem_cons.2 ⟨ok254, List.forall_mem_cons.2 ⟨ok284, List.forall_mem_cons.2 ⟨ok287, (fun _ h => by cases h)⟩⟩⟩, List.forall_mem_cons.2 ⟨by kernel_rfl, (fun _ h => by cases h)⟩, mixed⟩
/-- (*ostiary/hmac.Mac).Write -/
noncomputable def cx_hmac_Mac_Write (W0 : World) (S : Nat → Prop) (bs : List Nat := []) : Cx := ⟨Tryz.prog, W0, S, 13, [(5, ti5), (23, ti23), (254, ti254), (284, ti284), (287, ti287)], [232], bs, none, []⟩
abbrev n_hmac_Mac_Write : FuncId := 198
theorem b_hmac_Mac_Write : Tryz.prog.funcs[n_hmac_Mac_Write]? = some Tryz.f198 := Tryz.func198
theorem good_hmac_Mac_Write (W0 : World) (S : Nat → Prop) (bs : List Nat := []) : Good (cx_hmac_Mac_Write W0 S bs) := ⟨List.forall_mem_cons.2 ⟨ok5, List.forall_mem_cons.2 ⟨ok23, List.forall_mem_cons.2 ⟨ok254, List.forall_mem_cons.2 ⟨ok284, List.forall_mem_cons.2 ⟨ok287, (fun _ h => by cases h)⟩⟩⟩⟩⟩, List.forall_mem_cons.2 ⟨by kernel_rfl, (fun _ h => by cases h)⟩, mixed⟩
/-- (*ostiary/hmac.Mac).Sum -/
noncomputable def cx_hmac_Mac_Sum (W0 : World) (S : Nat → Prop) (bs : List Nat := []) : Cx := ⟨Tryz.prog, W0, S, 20, [(5, ti5), (23, ti23), (254, ti254), (284, ti284), (287, ti287)], [231, 232, 233], bs, none, []⟩
abbrev n_hmac_Mac_Sum : FuncId := 199
theorem b_hmac_Mac_Sum : Tryz.prog.funcs[n_hmac_Mac_Sum]? = some Tryz.f199 := Tryz.func199
theorem good_hmac_Mac_Sum (W0 : World) (S : Nat → Prop) (bs : List Nat := []) : Good (cx_hmac_Mac_Sum W0 S bs) := ⟨List.forall_mem_cons.2 ⟨ok5, List.forall_mem_cons.2 ⟨ok23, List.forall_mem_cons.2 ⟨ok254, List.forall_mem_cons.2 ⟨ok284, List.forall_mem_cons.2 ⟨ok287, (fun _ h => by cases h)⟩⟩⟩⟩⟩, List.forall_mem_cons.2 ⟨by kernel_rfl, List.forall_mem_cons.2 ⟨by kernel_rfl, List.forall_mem_cons.2 ⟨by kernel_rfl, (fun _ h => by cases h)⟩⟩⟩, mixed⟩
/-- ostiary/hmac.four -/
noncomputable def cx_hmac_four (W0 : World) (S : Nat → Prop) (bs : List Nat := []) : Cx := ⟨Tryz.prog, W0, S, 15, [(3, ti3), (5, ti5), (23, ti23)], [], bs, none, []⟩
abbrev n_hmac_four : FuncId := 200
theorem b_hmac_four : Tryz.prog.funcs[n_hmac_four]? = some Tryz.f200 := Tryz.func200
theorem good_hmac_four (W0 : World) (S : Nat → Prop) (bs : List Nat := []) : Good (cx_hmac_four W0 S bs) := ⟨List.forall_mem_cons.2 ⟨ok3, List.forall_mem_cons.2 ⟨ok5, List.forall_mem_cons.2 ⟨ok23, (fun _ h => by cases h)⟩⟩⟩, (fun _ h => by cases h), mixed⟩
/-- bytes.Repeat -/
noncomputable def cx_bytes_Repeat (W0 : World) (S : Nat → Prop) (bs : List Nat := []) : Cx := ⟨Tryz.prog, W0, S, 77, [(3, ti3), (5, ti5), (9, ti9), (23, ti23), (196, ti196)], [234], bs, none, []⟩
abbrev n_bytes_Repeat : FuncId := 201
theorem b_bytes_Repeat : Tryz.prog.funcs[n_bytes_Repeat]? = some Tryz.f201 := Tryz.func201
def p_bytes_Repeat_20 : Plan := .take 0 (.take 1 (.take 2 (.take 3 (.take 4 (.take 5 (.take 6 (.exec 7 (.take 8 (.take 9 (.done))))))))))
theorem good_bytes_Repeat (W0 : World) (S : Nat → Prop) (bs : List Nat := []) : Good (cx_bytes_Repeat W0 S bs) := ⟨List.forall_mem_cons.2 ⟨ok3, List.forall_mem_cons.2 ⟨ok5, List.forall_mem_cons.2 ⟨ok9, List.forall_mem_cons.2 ⟨ok23, List.forall_mem_cons.2 ⟨ok196, (fun _ h => by cases h)⟩⟩⟩⟩⟩, List.forall_mem_cons.2 ⟨by kernel_rfl, (fun _ h => by cases h)⟩, mixed⟩
/-- slices.Sort[[]string,string] -/
noncomputable def cx_slices_Sort_string_string (W0 : World) (S : Nat → Prop) (bs : List Nat := []) : Cx := ⟨Tryz.prog, W0, S, 11, [(3, ti3), (9, ti9), (95, ti95), (196, ti196)], [188, 235], bs, none, []⟩
abbrev n_slices_Sort_string_string : FuncId := 202
theorem b_slices_Sort_string_string : Tryz.prog.funcs[n_slices_Sort_string_string]? = some Tryz.f202 := Tryz.func202
theorem good_slices_Sort_string_string (W0 : World) (S : Nat → Prop) (bs : List Nat := []) : Good (cx_slices_Sort_string_string W0 S bs) := ⟨List.forall_mem_cons.2 ⟨ok3, List.forall_mem_cons.2 ⟨ok9, List.forall_mem_cons.2 ⟨ok95, List.forall_mem_cons.2 ⟨ok196, (fun _ h => by cases h)⟩⟩⟩⟩, List.forall_mem_cons.2 ⟨by kernel_rfl, List.forall_mem_cons.2 ⟨by kernel_rfl, (fun _ h => by cases h)⟩⟩, mixed⟩
/-- maps.Keys[map[string]map[string]*ostiary/cred.Cred,string,map[string]*ostiary/cred.Cred]$1 -/
noncomputable def cx_maps_Keys_map_string_map_string_cred_Cred_string_map_string_cred_Cred_1 (W0 : World) (S : Nat → Prop) (bs : List Nat := []) : Cx := ⟨Tryz.prog, W0, S, 14, [(9, ti9), (154, ti154), (179, ti179), (201, ti201)], [], bs, none, []⟩
abbrev n_maps_Keys_map_string_map_string_cred_Cred_string_map_string_cred_Cred_1 : FuncId := 203
theorem b_maps_Keys_map_string_map_string_cred_Cred_string_map_string_cred_Cred_1 : Tryz.prog.funcs[n_maps_Keys_map_string_map_string_cred_Cred_string_map_string_cred_Cred_1]? = some Tryz.f203 := Tryz.func203
theorem good_maps_Keys_map_string_map_string_cred_Cred_string_map_string_cred_Cred_1 (W0 : World) (S : Nat → Prop) (bs : List Nat := []) : Good (cx_maps_Keys_map_string_map_string_cred_Cred_string_map_string_cred_Cred_1 W0 S bs) := ⟨List.forall_mem_cons.2 ⟨ok9, List.forall_mem_cons.2 ⟨ok154, List.forall_mem_cons.2 ⟨ok179, List.forall_mem_cons.2 ⟨ok201, (fun _ h => by cases h)⟩⟩⟩⟩, (fun _ h => by cases h), mixed⟩
/-- maps.Keys[map[string]*ostiary/cred.Cred,string,*ostiary/cred.Cred]$1 -/
noncomputable def cx_maps_Keys_map_string_cred_Cred_string_cred_Cred_1 (W0 : World) (S : Nat → Prop) (bs : List Nat := []) : Cx := ⟨Tryz.prog, W0, S, 14, [(9, ti9), (179, ti179), (201, ti201)], [], bs, none, []⟩
abbrev n_maps_Keys_map_string_cred_Cred_string_cred_Cred_1 : FuncId := 204
theorem b_maps_Keys_map_string_cred_Cred_string_cred_Cred_1 : Tryz.prog.funcs[n_maps_Keys_map_string_cred_Cred_string_cred_Cred_1]? = some Tryz.f204 := Tryz.func204
theorem good_maps_Keys_map_string_cred_Cred_string_cred_Cred_1 (W0 : World) (S : Nat → Prop) (bs : List Nat := []) : Good (cx_maps_Keys_map_string_cred_Cred_string_cred_Cred_1 W0 S bs) := ⟨List.forall_mem_cons.2 ⟨ok9, List.forall_mem_cons.2 ⟨ok179, List.forall_mem_cons.2 ⟨ok201, (fun _ h => by cases h)⟩⟩⟩, (fun _ h => by cases h), mixed⟩
/-- slices.ContainsFunc[[]string,string] -/
noncomputable def cx_slices_ContainsFunc_string_string (W0 : World) (S : Nat → Prop) (bs : List Nat := []) : Cx := ⟨Tryz.prog, W0, S, 9, [(3, ti3), (9, ti9), (95, ti95), (127, ti127)], [236], bs, none, []⟩
abbrev n_slices_ContainsFunc_string_string : FuncId := 205
theorem b_slices_ContainsFunc_string_string : Tryz.prog.funcs[n_slices_ContainsFunc_string_string]? = some Tryz.f205 := Tryz.func205
theorem good_slices_ContainsFunc_string_string (W0 : World) (S : Nat → Prop) (bs : List Nat := []) : Good (cx_slices_ContainsFunc_string_string W0 S bs) := ⟨List.forall_mem_cons.2 ⟨ok3, List.forall_mem_cons.2 ⟨ok9, List.forall_mem_cons.2 ⟨ok95, List.forall_mem_cons.2 ⟨ok127, (fun _ h => by cases h)⟩⟩⟩⟩, List.forall_mem_cons.2 ⟨by kernel_rfl, (fun _ h => by cases h)⟩, mixed⟩
/-- (ostiary/cred.Cred).plain$1 -/
noncomputable def cx_cred_Cred_plain_1 (W0 : World) (S : Nat → Prop) (bs : List Nat := []) : Cx := ⟨Tryz.prog, W0, S, 6, [(9, ti9)], [61], bs, none, []⟩
abbrev n_cred_Cred_plain_1 : FuncId := 206
theorem b_cred_Cred_plain_1 : Tryz.prog.funcs[n_cred_Cred_plain_1]? = some Tryz.f206 := Tryz.func206
theorem good_cred_Cred_plain_1 (W0 : World) (S : Nat → Prop) (bs : List Nat := []) : Good (cx_cred_Cred_plain_1 W0 S bs) := ⟨List.forall_mem_cons.2 ⟨ok9, (fun _ h => by cases h)⟩, List.forall_mem_cons.2 ⟨by kernel_rfl, (fun _ h => by cases h)⟩, mixed⟩
/-- (*strings.Builder).grow -/
noncomputable def cx_strings_Builder_grow (W0 : World) (S : Nat → Prop) (bs : List Nat := []) : Cx := ⟨Tryz.prog, W0, S, 30, [(3, ti3), (5, ti5), (23, ti23), (190, ti190), (192, ti192)], [], bs, none, []⟩
abbrev n_strings_Builder_grow : FuncId := 207
theorem b_strings_Builder_grow : Tryz.prog.funcs[n_strings_Builder_grow]? = some Tryz.f207 := Tryz.func207
def p_strings_Builder_grow_0 : Plan := .take 0 (.take 1 (.take 2 (.take 3 (.take 4 (.take 5 (.take 6 (.take 7 (.take 9 (.take 10 (.take 11 (.take 12 (.take 13 (.exec 8 (.take 14 (.take 15 (.done))))))))))))))))
theorem good_strings_Builder_grow (W0 : World) (S : Nat → Prop) (bs : List Nat := []) : Good (cx_strings_Builder_grow W0 S bs) := ⟨List.forall_mem_cons.2 ⟨ok3, List.forall_mem_cons.2 ⟨ok5, List.forall_mem_cons.2 ⟨ok23, List.forall_mem_cons.2 ⟨ok190, List.forall_mem_cons.2 ⟨ok192, (fun _ h => by cases h)⟩⟩⟩⟩⟩, (fun _ h => by cases h), mixed⟩
/-- ostiary/ostiaryref01.turn -/
noncomputable def cx_ostiaryref01_turn (W0 : World) (S : Nat → Prop) (bs : List Nat := []) : Cx := ⟨Tryz.prog, W0, S, 13, [(22, ti22), (196, ti196)], [], bs, none, []⟩
abbrev n_ostiaryref01_turn : FuncId := 208
theorem b_ostiaryref01_turn : Tryz.prog.funcs[n_ostiaryref01_turn]? = some Tryz.f208 := Tryz.func208
theorem good_ostiaryref01_turn (W0 : World) (S : Nat → Prop) (bs : List Nat := []) : Good (cx_ostiaryref01_turn W0 S bs) := ⟨List.forall_mem_cons.2 ⟨ok22, List.forall_mem_cons.2 ⟨ok196, (fun _ h => by cases h)⟩⟩, (fun _ h => by cases h), mixed⟩
/-- ostiary/name.Valid -/
noncomputable def cx_name_Valid (W0 : World) (S : Nat → Prop) (bs : List Nat := []) : Cx := ⟨Tryz.prog, W0, S, 11, [(4, ti4), (9, ti9), (21, ti21)], [237], bs, none, []⟩
abbrev n_name_Valid : FuncId := 210
theorem b_name_Valid : Tryz.prog.funcs[n_name_Valid]? = some Tryz.f210 := Tryz.func210
theorem good_name_Valid (W0 : World) (S : Nat → Prop) (bs : List Nat := []) : Good (cx_name_Valid W0 S bs) := ⟨List.forall_mem_cons.2 ⟨ok4, List.forall_mem_cons.2 ⟨ok9, List.forall_mem_cons.2 ⟨ok21, (fun _ h => by cases h)⟩⟩⟩, List.forall_mem_cons.2 ⟨by kernel_rfl, (fun _ h => by cases h)⟩, mixed⟩
/-- ostiary/name.prepared -/
noncomputable def cx_name_prepared (W0 : World) (S : Nat → Prop) (bs : List Nat := []) : Cx := ⟨Tryz.prog, W0, S, 4, [(9, ti9)], [238], bs, none, []⟩
abbrev n_name_prepared : FuncId := 211
theorem b_name_prepared : Tryz.prog.funcs[n_name_prepared]? = some Tryz.f211 := Tryz.func211
theorem good_name_prepared (W0 : World) (S : Nat → Prop) (bs : List Nat := []) : Good (cx_name_prepared W0 S bs) := ⟨List.forall_mem_cons.2 ⟨ok9, (fun _ h => by cases h)⟩, List.forall_mem_cons.2 ⟨by kernel_rfl, (fun _ h => by cases h)⟩, mixed⟩
/-- ostiary/name.within -/
noncomputable def cx_name_within (W0 : World) (S : Nat → Prop) (bs : List Nat := []) : Cx := ⟨Tryz.prog, W0, S, 24, [(3, ti3), (21, ti21), (266, ti266), (268, ti268)], [], bs, none, []⟩
abbrev n_name_within : FuncId := 212
theorem b_name_within : Tryz.prog.funcs[n_name_within]? = some Tryz.f212 := Tryz.func212
theorem good_name_within (W0 : World) (S : Nat → Prop) (bs : List Nat := []) : Good (cx_name_within W0 S bs) := ⟨List.forall_mem_cons.2 ⟨ok3, List.forall_mem_cons.2 ⟨ok21, List.forall_mem_cons.2 ⟨ok266, List.forall_mem_cons.2 ⟨ok268, (fun _ h => by cases h)⟩⟩⟩⟩, (fun _ h => by cases h), mixed⟩
/-- ostiary/name.Append -/
noncomputable def cx_name_Append (W0 : World) (S : Nat → Prop) (bs : List Nat := []) : Cx := ⟨Tryz.prog, W0, S, 60, [(3, ti3), (5, ti5), (21, ti21), (23, ti23), (300, ti300), (301, ti301)], [65, 239], bs, none, []⟩
abbrev n_name_Append : FuncId := 213
theorem b_name_Append : Tryz.prog.funcs[n_name_Append]? = some Tryz.f213 := Tryz.func213
theorem good_name_Append (W0 : World) (S : Nat → Prop) (bs : List Nat := []) : Good (cx_name_Append W0 S bs) := ⟨List.forall_mem_cons.2 ⟨ok3, List.forall_mem_cons.2 ⟨ok5, List.forall_mem_cons.2 ⟨ok21, List.forall_mem_cons.2 ⟨ok23, List.forall_mem_cons.2 ⟨ok300, List.forall_mem_cons.2 ⟨ok301, (fun _ h => by cases h)⟩⟩⟩⟩⟩⟩, List.forall_mem_cons.2 ⟨by kernel_rfl, List.forall_mem_cons.2 ⟨by kernel_rfl, (fun _ h => by cases h)⟩⟩, mixed⟩
/-- ostiary/ostiaryref04.first -/
noncomputable def cx_ostiaryref04_first (W0 : World) (S : Nat → Prop) (bs : List Nat := []) : Cx := ⟨Tryz.prog, W0, S, 92, [(3, ti3), (5, ti5), (9, ti9)], [240], bs, none, []⟩
abbrev n_ostiaryref04_first : FuncId := 214
theorem b_ostiaryref04_first : Tryz.prog.funcs[n_ostiaryref04_first]? = some Tryz.f214 := Tryz.func214
theorem good_ostiaryref04_first (W0 : World) (S : Nat → Prop) (bs : List Nat := []) : Good (cx_ostiaryref04_first W0 S bs) := ⟨List.forall_mem_cons.2 ⟨ok3, List.forall_mem_cons.2 ⟨ok5, List.forall_mem_cons.2 ⟨ok9, (fun _ h => by cases h)⟩⟩⟩, List.forall_mem_cons.2 ⟨by kernel_rfl, (fun _ h => by cases h)⟩, mixed⟩
/-- cmp.isNaN[string] -/
noncomputable def cx_cmp_isNaN_string (W0 : World) (S : Nat → Prop) (bs : List Nat := []) : Cx := ⟨Tryz.prog, W0, S, 6, [(9, ti9)], [], bs, none, []⟩
abbrev n_cmp_isNaN_string : FuncId := 215
theorem b_cmp_isNaN_string : Tryz.prog.funcs[n_cmp_isNaN_string]? = some Tryz.f215 := Tryz.func215
theorem good_cmp_isNaN_string (W0 : World) (S : Nat → Prop) (bs : List Nat := []) : Good (cx_cmp_isNaN_string W0 S bs) := ⟨List.forall_mem_cons.2 ⟨ok9, (fun _ h => by cases h)⟩, (fun _ h => by cases h), mixed⟩
/-- slices.rotateLeft[string] -/
noncomputable def cx_slices_rotateLeft_string (W0 : World) (S : Nat → Prop) (bs : List Nat := []) : Cx := ⟨Tryz.prog, W0, S, 14, [(9, ti9), (95, ti95)], [241], bs, none, []⟩
abbrev n_slices_rotateLeft_string : FuncId := 216
theorem b_slices_rotateLeft_string : Tryz.prog.funcs[n_slices_rotateLeft_string]? = some Tryz.f216 := Tryz.func216
theorem good_slices_rotateLeft_string (W0 : World) (S : Nat → Prop) (bs : List Nat := []) : Good (cx_slices_rotateLeft_string W0 S bs) := ⟨List.forall_mem_cons.2 ⟨ok9, List.forall_mem_cons.2 ⟨ok95, (fun _ h => by cases h)⟩⟩, List.forall_mem_cons.2 ⟨by kernel_rfl, (fun _ h => by cases h)⟩, mixed⟩
/-- slices.insertionSortOrdered[int] -/
noncomputable def cx_slices_insertionSortOrdered_int (W0 : World) (S : Nat → Prop) (bs : List Nat := []) : Cx := ⟨Tryz.prog, W0, S, 49, [(3, ti3), (68, ti68)], [223], bs, none, []⟩
abbrev n_slices_insertionSortOrdered_int : FuncId := 217
theorem b_slices_insertionSortOrdered_int : Tryz.prog.funcs[n_slices_insertionSortOrdered_int]? = some Tryz.f217 := Tryz.func217
def p_slices_insertionSortOrdered_int_4 : Plan := .take 0 (.take 1 (.take 2 (.take 3 (.take 4 (.take 5 (.take 6 (.take 7 (.take 8 (.take 9 (.take 10 (.take 11 (.take 12 (.exec 13 (.take 14 (.done)))))))))))))))
def p_slices_insertionSortOrdered_int_6 : Plan := .take 0 (.take 1 (.take 2 (.take 3 (.take 4 (.take 5 (.take 6 (.take 7 (.take 8 (.take 10 (.take 11 (.take 12 (.alt 9 (.exec 13 (.take 14 (.exec 15 (.take 16 (.exec 17 (.done)))))) (.exec 13 (.exec 9 (.take 14 (.exec 15 (.take 16 (.exec 17 (.done)))))))))))))))))))
theorem good_slices_insertionSortOrdered_int (W0 : World) (S : Nat → Prop) (bs : List Nat := []) : Good (cx_slices_insertionSortOrdered_int W0 S bs) := ⟨List.forall_mem_cons.2 ⟨ok3, List.forall_mem_cons.2 ⟨ok68, (fun _ h => by cases h)⟩⟩, List.forall_mem_cons.2 ⟨by kernel_rfl, (fun _ h => by cases h)⟩, mixed⟩
/-- slices.heapSortOrdered[int] -/
noncomputable def cx_slices_heapSortOrdered_int (W0 : World) (S : Nat → Prop) (bs : List Nat := []) : Cx := ⟨Tryz.prog, W0, S, 56, [(3, ti3), (68, ti68)], [242], bs, none, []⟩
abbrev n_slices_heapSortOrdered_int : FuncId := 218
theorem b_slices_heapSortOrdered_int : Tryz.prog.funcs[n_slices_heapSortOrdered_int]? = some Tryz.f218 := Tryz.func218
def p_slices_heapSortOrdered_int_10 : Plan := .take 0 (.take 1 (.take 2 (.take 3 (.take 4 (.take 5 (.take 6 (.take 7 (.take 8 (.take 9 (.take 10 (.take 12 (.take 13 (.take 14 (.alt 11 (.exec 15 (.take 16 (.exec 17 (.take 18 (.exec 19 (.done)))))) (.exec 15 (.exec 11 (.take 16 (.exec 17 (.take 18 (.exec 19 (.done)))))))))))))))))))))
theorem good_slices_heapSortOrdered_int (W0 : World) (S : Nat → Prop) (bs : List Nat := []) : Good (cx_slices_heapSortOrdered_int W0 S bs) := ⟨List.forall_mem_cons.2 ⟨ok3, List.forall_mem_cons.2 ⟨ok68, (fun _ h => by cases h)⟩⟩, List.forall_mem_cons.2 ⟨by kernel_rfl, (fun _ h => by cases h)⟩, mixed⟩
/-- slices.breakPatternsOrdered[int] -/
noncomputable def cx_slices_breakPatternsOrdered_int (W0 : World) (S : Nat → Prop) (bs : List Nat := []) : Cx := ⟨Tryz.prog, W0, S, 65, [(3, ti3), (68, ti68), (196, ti196), (303, ti303)], [243, 244], bs, none, []⟩
abbrev n_slices_breakPatternsOrdered_int : FuncId := 219
theorem b_slices_breakPatternsOrdered_int : Tryz.prog.funcs[n_slices_breakPatternsOrdered_int]? = some Tryz.f219 := Tryz.func219
def p_slices_breakPatternsOrdered_int_10 : Plan := .take 0 (.take 1 (.take 2 (.take 3 (.take 4 (.take 5 (.take 6 (.take 7 (.take 8 (.take 9 (.take 10 (.take 12 (.take 13 (.take 14 (.alt 11 (.exec 15 (.take 16 (.exec 17 (.take 18 (.exec 19 (.done)))))) (.exec 15 (.exec 11 (.take 16 (.exec 17 (.take 18 (.exec 19 (.done)))))))))))))))))))))
theorem good_slices_breakPatternsOrdered_int (W0 : World) (S : Nat → Prop) (bs : List Nat := []) : Good (cx_slices_breakPatternsOrdered_int W0 S bs) := ⟨List.forall_mem_cons.2 ⟨ok3, List.forall_mem_cons.2 ⟨ok68, List.forall_mem_cons.2 ⟨ok196, List.forall_mem_cons.2 ⟨ok303, (fun _ h => by cases h)⟩⟩⟩⟩, List.forall_mem_cons.2 ⟨by kernel_rfl, List.forall_mem_cons.2 ⟨by kernel_rfl, (fun _ h => by cases h)⟩⟩, mixed⟩
/-- slices.choosePivotOrdered[int] -/
noncomputable def cx_slices_choosePivotOrdered_int (W0 : World) (S : Nat → Prop) (bs : List Nat := []) : Cx := ⟨Tryz.prog, W0, S, 57, [(3, ti3), (68, ti68), (306, ti306)], [245, 246], bs, none, []⟩
abbrev n_slices_choosePivotOrdered_int : FuncId := 220
theorem b_slices_choosePivotOrdered_int : Tryz.prog.funcs[n_slices_choosePivotOrdered_int]? = some Tryz.f220 := Tryz.func220
theorem good_slices_choosePivotOrdered_int (W0 : World) (S : Nat → Prop) (bs : List Nat := []) : Good (cx_slices_choosePivotOrdered_int W0 S bs) := ⟨List.forall_mem_cons.2 ⟨ok3, List.forall_mem_cons.2 ⟨ok68, List.forall_mem_cons.2 ⟨ok306, (fun _ h => by cases h)⟩⟩⟩, List.forall_mem_cons.2 ⟨by kernel_rfl, List.forall_mem_cons.2 ⟨by kernel_rfl, (fun _ h => by cases h)⟩⟩, mixed⟩
/-- slices.reverseRangeOrdered[int] -/
noncomputable def cx_slices_reverseRangeOrdered_int (W0 : World) (S : Nat → Prop) (bs : List Nat := []) : Cx := ⟨Tryz.prog, W0, S, 32, [(3, ti3), (68, ti68)], [], bs, none, []⟩
abbrev n_slices_reverseRangeOrdered_int : FuncId := 221
theorem b_slices_reverseRangeOrdered_int : Tryz.prog.funcs[n_slices_reverseRangeOrdered_int]? = some Tryz.f221 := Tryz.func221
def p_slices_reverseRangeOrdered_int_3 : Plan := .take 0 (.take 1 (.take 2 (.take 3 (.take 4 (.take 5 (.take 6 (.take 8 (.take 9 (.take 10 (.alt 7 (.exec 11 (.take 12 (.exec 13 (.take 14 (.exec 15 (.done)))))) (.exec 11 (.exec 7 (.take 12 (.exec 13 (.take 14 (.exec 15 (.done)))))))))))))))))
theorem good_slices_reverseRangeOrdered_int (W0 : World) (S : Nat → Prop) (bs : List Nat := []) : Good (cx_slices_reverseRangeOrdered_int W0 S bs) := ⟨List.forall_mem_cons.2 ⟨ok3, List.forall_mem_cons.2 ⟨ok68, (fun _ h => by cases h)⟩⟩, (fun _ h => by cases h), mixed⟩
/-- slices.partialInsertionSortOrdered[int] -/
noncomputable def cx_slices_partialInsertionSortOrdered_int (W0 : World) (S : Nat → Prop) (bs : List Nat := []) : Cx := ⟨Tryz.prog, W0, S, 133, [(3, ti3), (68, ti68)], [223], bs, none, []⟩
abbrev n_slices_partialInsertionSortOrdered_int : FuncId := 222
theorem b_slices_partialInsertionSortOrdered_int : Tryz.prog.funcs[n_slices_partialInsertionSortOrdered_int]? = some Tryz.f222 := Tryz.func222
def p_slices_partialInsertionSortOrdered_int_5 : Plan := .take 0 (.take 1 (.take 2 (.take 3 (.take 4 (.take 5 (.take 6 (.take 7 (.take 8 (.take 9 (.take 10 (.take 11 (.take 12 (.exec 13 (.take 14 (.take 15 (.done))))))))))))))))
def p_slices_partialInsertionSortOrdered_int_11 : Plan := .take 0 (.take 1 (.take 2 (.take 3 (.take 4 (.take 5 (.take 6 (.take 7 (.take 8 (.take 10 (.take 11 (.take 12 (.alt 9 (.exec 13 (.take 14 (.exec 15 (.take 16 (.exec 17 (.done)))))) (.exec 13 (.exec 9 (.take 14 (.exec 15 (.take 16 (.exec 17 (.done)))))))))))))))))))
def p_slices_partialInsertionSortOrdered_int_16 : Plan := .take 0 (.take 1 (.take 2 (.take 3 (.take 4 (.take 5 (.take 6 (.take 7 (.take 8 (.exec 9 (.take 10 (.done)))))))))))
def p_slices_partialInsertionSortOrdered_int_17 : Plan := .take 0 (.take 1 (.take 2 (.take 3 (.take 4 (.take 5 (.take 6 (.take 7 (.take 8 (.take 10 (.take 11 (.take 12 (.alt 9 (.exec 13 (.take 14 (.exec 15 (.take 16 (.exec 17 (.done)))))) (.exec 13 (.exec 9 (.take 14 (.exec 15 (.take 16 (.exec 17 (.done)))))))))))))))))))
def p_slices_partialInsertionSortOrdered_int_22 : Plan := .take 0 (.take 1 (.take 2 (.take 3 (.take 4 (.take 5 (.take 6 (.take 7 (.take 8 (.exec 9 (.take 10 (.done)))))))))))
def p_slices_partialInsertionSortOrdered_int_23 : Plan := .take 0 (.take 1 (.take 2 (.take 3 (.take 4 (.take 5 (.take 6 (.take 7 (.take 8 (.take 10 (.take 11 (.take 12 (.alt 9 (.exec 13 (.take 14 (.exec 15 (.take 16 (.exec 17 (.done)))))) (.exec 13 (.exec 9 (.take 14 (.exec 15 (.take 16 (.exec 17 (.done)))))))))))))))))))
theorem good_slices_partialInsertionSortOrdered_int (W0 : World) (S : Nat → Prop) (bs : List Nat := []) : Good (cx_slices_partialInsertionSortOrdered_int W0 S bs) := ⟨List.forall_mem_cons.2 ⟨ok3, List.forall_mem_cons.2 ⟨ok68, (fun _ h => by cases h)⟩⟩, List.forall_mem_cons.2 ⟨by kernel_rfl, (fun _ h => by cases h)⟩, mixed⟩
/-- cmp.Less[int] -/
noncomputable def cx_cmp_Less_int (W0 : World) (S : Nat → Prop) (bs : List Nat := []) : Cx := ⟨Tryz.prog, W0, S, 17, [(3, ti3)], [247], bs, none, []⟩
abbrev n_cmp_Less_int : FuncId := 223
theorem b_cmp_Less_int : Tryz.prog.funcs[n_cmp_Less_int]? = some Tryz.f223 := Tryz.func223
theorem good_cmp_Less_int (W0 : World) (S : Nat → Prop) (bs : List Nat := []) : Good (cx_cmp_Less_int W0 S bs) := ⟨List.forall_mem_cons.2 ⟨ok3, (fun _ h => by cases h)⟩, List.forall_mem_cons.2 ⟨by kernel_rfl, (fun _ h => by cases h)⟩, mixed⟩
/-- slices.partitionEqualOrdered[int] -/
noncomputable def cx_slices_partitionEqualOrdered_int (W0 : World) (S : Nat → Prop) (bs : List Nat := []) : Cx := ⟨Tryz.prog, W0, S, 84, [(3, ti3), (68, ti68)], [223], bs, none, []⟩
abbrev n_slices_partitionEqualOrdered_int : FuncId := 224
theorem b_slices_partitionEqualOrdered_int : Tryz.prog.funcs[n_slices_partitionEqualOrdered_int]? = some Tryz.f224 := Tryz.func224
def p_slices_partitionEqualOrdered_int_1 : Plan := .take 0 (.take 1 (.take 2 (.take 3 (.take 4 (.take 5 (.take 6 (.take 8 (.take 9 (.take 10 (.alt 7 (.exec 11 (.take 12 (.exec 13 (.take 14 (.exec 15 (.done)))))) (.exec 11 (.exec 7 (.take 12 (.exec 13 (.take 14 (.exec 15 (.done)))))))))))))))))
def p_slices_partitionEqualOrdered_int_3 : Plan := .take 0 (.take 1 (.take 2 (.take 3 (.take 4 (.take 5 (.take 6 (.take 7 (.take 8 (.take 9 (.take 10 (.take 11 (.exec 12 (.take 13 (.take 14 (.done)))))))))))))))
def p_slices_partitionEqualOrdered_int_5 : Plan := .take 0 (.take 1 (.take 2 (.take 3 (.take 4 (.take 5 (.take 6 (.take 7 (.take 8 (.take 9 (.take 10 (.take 11 (.exec 12 (.take 13 (.done))))))))))))))
def p_slices_partitionEqualOrdered_int_8 : Plan := .take 0 (.take 1 (.take 2 (.take 3 (.take 4 (.take 5 (.take 6 (.take 8 (.take 9 (.take 10 (.alt 7 (.exec 11 (.take 12 (.exec 13 (.take 14 (.exec 15 (.done)))))) (.exec 11 (.exec 7 (.take 12 (.exec 13 (.take 14 (.exec 15 (.done)))))))))))))))))
theorem good_slices_partitionEqualOrdered_int (W0 : World) (S : Nat → Prop) (bs : List Nat := []) : Good (cx_slices_partitionEqualOrdered_int W0 S bs) := ⟨List.forall_mem_cons.2 ⟨ok3, List.forall_mem_cons.2 ⟨ok68, (fun _ h => by cases h)⟩⟩, List.forall_mem_cons.2 ⟨by kernel_rfl, (fun _ h => by cases h)⟩, mixed⟩
/-- slices.partitionOrdered[int] -/
noncomputable def cx_slices_partitionOrdered_int (W0 : World) (S : Nat → Prop) (bs : List Nat := []) : Cx := ⟨Tryz.prog, W0, S, 168, [(3, ti3), (68, ti68)], [223], bs, none, []⟩
abbrev n_slices_partitionOrdered_int : FuncId := 225
theorem b_slices_partitionOrdered_int : Tryz.prog.funcs[n_slices_partitionOrdered_int]? = some Tryz.f225 := Tryz.func225
def p_slices_partitionOrdered_int_1 : Plan := .take 0 (.take 1 (.take 2 (.take 3 (.take 4 (.take 5 (.take 6 (.take 8 (.take 9 (.take 10 (.alt 7 (.exec 11 (.take 12 (.exec 13 (.take 14 (.exec 15 (.done)))))) (.exec 11 (.exec 7 (.take 12 (.exec 13 (.take 14 (.exec 15 (.done)))))))))))))))))
def p_slices_partitionOrdered_int_3 : Plan := .take 0 (.take 1 (.take 2 (.take 3 (.take 4 (.take 5 (.take 6 (.take 7 (.take 8 (.take 9 (.take 10 (.take 11 (.exec 12 (.take 13 (.done))))))))))))))
def p_slices_partitionOrdered_int_5 : Plan := .take 0 (.take 1 (.take 2 (.take 3 (.take 4 (.take 5 (.take 6 (.take 7 (.take 8 (.take 9 (.take 10 (.take 11 (.exec 12 (.take 13 (.take 14 (.done)))))))))))))))
def p_slices_partitionOrdered_int_8 : Plan := .take 0 (.take 1 (.take 2 (.take 3 (.take 4 (.take 5 (.take 6 (.take 8 (.take 9 (.take 10 (.alt 7 (.exec 11 (.take 12 (.exec 13 (.take 14 (.exec 15 (.done)))))) (.exec 11 (.exec 7 (.take 12 (.exec 13 (.take 14 (.exec 15 (.done)))))))))))))))))
def p_slices_partitionOrdered_int_10 : Plan := .take 0 (.take 1 (.take 2 (.take 3 (.take 4 (.take 5 (.take 6 (.take 8 (.take 9 (.take 10 (.alt 7 (.exec 11 (.take 12 (.exec 13 (.take 14 (.exec 15 (.done)))))) (.exec 11 (.exec 7 (.take 12 (.exec 13 (.take 14 (.exec 15 (.done)))))))))))))))))
def p_slices_partitionOrdered_int_13 : Plan := .take 0 (.take 1 (.take 2 (.take 3 (.take 4 (.take 5 (.take 6 (.take 7 (.take 8 (.take 9 (.take 10 (.take 11 (.exec 12 (.take 13 (.done))))))))))))))
def p_slices_partitionOrdered_int_15 : Plan := .take 0 (.take 1 (.take 2 (.take 3 (.take 4 (.take 5 (.take 6 (.take 7 (.take 8 (.take 9 (.take 10 (.take 11 (.exec 12 (.take 13 (.take 14 (.done)))))))))))))))
def p_slices_partitionOrdered_int_18 : Plan := .take 0 (.take 1 (.take 2 (.take 3 (.take 4 (.take 5 (.take 6 (.take 8 (.take 9 (.take 10 (.alt 7 (.exec 11 (.take 12 (.exec 13 (.take 14 (.exec 15 (.done)))))) (.exec 11 (.exec 7 (.take 12 (.exec 13 (.take 14 (.exec 15 (.done)))))))))))))))))
def p_slices_partitionOrdered_int_21 : Plan := .take 0 (.take 1 (.take 2 (.take 3 (.take 4 (.take 5 (.take 6 (.take 8 (.take 9 (.take 10 (.alt 7 (.exec 11 (.take 12 (.exec 13 (.take 14 (.exec 15 (.done)))))) (.exec 11 (.exec 7 (.take 12 (.exec 13 (.take 14 (.exec 15 (.done)))))))))))))))))
theorem good_slices_partitionOrdered_int (W0 : World) (S : Nat → Prop) (bs : List Nat := []) : Good (cx_slices_partitionOrdered_int W0 S bs) := ⟨List.forall_mem_cons.2 ⟨ok3, List.forall_mem_cons.2 ⟨ok68, (fun _ h => by cases h)⟩⟩, List.forall_mem_cons.2 ⟨by kernel_rfl, (fun _ h => by cases h)⟩, mixed⟩
/-- math/bits.Len32 -/
noncomputable def cx_math_bits_Len32 (W0 : World) (S : Nat → Prop) (bs : List Nat := []) : Cx := ⟨Tryz.prog, W0, S, 19, [(3, ti3), (5, ti5), (9, ti9), (22, ti22)], [], bs, none, []⟩
abbrev n_math_bits_Len32 : FuncId := 226
theorem b_math_bits_Len32 : Tryz.prog.funcs[n_math_bits_Len32]? = some Tryz.f226 := Tryz.func226
theorem good_math_bits_Len32 (W0 : World) (S : Nat → Prop) (bs : List Nat := []) : Good (cx_math_bits_Len32 W0 S bs) := ⟨List.forall_mem_cons.2 ⟨ok3, List.forall_mem_cons.2 ⟨ok5, List.forall_mem_cons.2 ⟨ok9, List.forall_mem_cons.2 ⟨ok22, (fun _ h => by cases h)⟩⟩⟩⟩, (fun _ h => by cases h), mixed⟩
/-- math/bits.Len64 -/
noncomputable def cx_math_bits_Len64 (W0 : World) (S : Nat → Prop) (bs : List Nat := []) : Cx := ⟨Tryz.prog, W0, S, 25, [(3, ti3), (5, ti5), (9, ti9), (97, ti97)], [], bs, none, []⟩
abbrev n_math_bits_Len64 : FuncId := 227
theorem b_math_bits_Len64 : Tryz.prog.funcs[n_math_bits_Len64]? = some Tryz.f227 := Tryz.func227
theorem good_math_bits_Len64 (W0 : World) (S : Nat → Prop) (bs : List Nat := []) : Good (cx_math_bits_Len64 W0 S bs) := ⟨List.forall_mem_cons.2 ⟨ok3, List.forall_mem_cons.2 ⟨ok5, List.forall_mem_cons.2 ⟨ok9, List.forall_mem_cons.2 ⟨ok97, (fun _ h => by cases h)⟩⟩⟩⟩, (fun _ h => by cases h), mixed⟩
/-- ostiary/sha.long -/
noncomputable def cx_sha_long (W0 : World) (S : Nat → Prop) (bs : List Nat := []) : Cx := ⟨Tryz.prog, W0, S, 19, [(3, ti3), (5, ti5), (23, ti23), (97, ti97)], [], bs, none, []⟩
abbrev n_sha_long : FuncId := 228
theorem b_sha_long : Tryz.prog.funcs[n_sha_long]? = some Tryz.f228 := Tryz.func228
theorem good_sha_long (W0 : World) (S : Nat → Prop) (bs : List Nat := []) : Good (cx_sha_long W0 S bs) := ⟨List.forall_mem_cons.2 ⟨ok3, List.forall_mem_cons.2 ⟨ok5, List.forall_mem_cons.2 ⟨ok23, List.forall_mem_cons.2 ⟨ok97, (fun _ h => by cases h)⟩⟩⟩⟩, (fun _ h => by cases h), mixed⟩
/-- ostiary/sha.word -/
noncomputable def cx_sha_word (W0 : World) (S : Nat → Prop) (bs : List Nat := []) : Cx := ⟨Tryz.prog, W0, S, 25, [(5, ti5), (22, ti22), (23, ti23)], [], bs, none, []⟩
abbrev n_sha_word : FuncId := 229
theorem b_sha_word : Tryz.prog.funcs[n_sha_word]? = some Tryz.f229 := Tryz.func229
def p_sha_word_1 : Plan := .take 0 (.take 1 (.take 2 (.take 3 (.take 4 (.take 5 (.take 6 (.take 7 (.take 8 (.take 9 (.take 10 (.take 11 (.take 12 (.take 13 (.take 14 (.take 15 (.take 16 (.take 17 (.take 18 (.take 19 (.take 20 (.take 21 (.take 22 (.done)))))))))))))))))))))))
theorem good_sha_word (W0 : World) (S : Nat → Prop) (bs : List Nat := []) : Good (cx_sha_word W0 S bs) := ⟨List.forall_mem_cons.2 ⟨ok5, List.forall_mem_cons.2 ⟨ok22, List.forall_mem_cons.2 ⟨ok23, (fun _ h => by cases h)⟩⟩⟩, (fun _ h => by cases h), mixed⟩
/-- ostiary/hmac.begun -/
noncomputable def cx_hmac_begun (W0 : World) (S : Nat → Prop) (bs : List Nat := []) : Cx := ⟨Tryz.prog, W0, S, 9, [(5, ti5), (23, ti23), (284, ti284)], [232, 248], bs, none, []⟩
abbrev n_hmac_begun : FuncId := 230
theorem b_hmac_begun : Tryz.prog.funcs[n_hmac_begun]? = some Tryz.f230 := Tryz.func230
theorem good_hmac_begun (W0 : World) (S : Nat → Prop) (bs : List Nat := []) : Good (cx_hmac_begun W0 S bs) := ⟨List.forall_mem_cons.2 ⟨ok5, List.forall_mem_cons.2 ⟨ok23, List.forall_mem_cons.2 ⟨ok284, (fun _ h => by cases h)⟩⟩⟩, List.forall_mem_cons.2 ⟨by kernel_rfl, List.forall_mem_cons.2 ⟨by kernel_rfl, (fun _ h => by cases h)⟩⟩, mixed⟩
/-- (*ostiary/sha.Hash).Copy -/
noncomputable def cx_sha_Hash_Copy (W0 : World) (S : Nat → Prop) (bs : List Nat := []) : Cx := ⟨Tryz.prog, W0, S, 15, [(5, ti5), (22, ti22), (23, ti23), (97, ti97), (212, ti212), (284, ti284), (309, ti309)], [65], bs, none, []⟩
abbrev n_sha_Hash_Copy : FuncId := 231
theorem b_sha_Hash_Copy : Tryz.prog.funcs[n_sha_Hash_Copy]? = some Tryz.f231 := Tryz.func231
theorem good_sha_Hash_Copy (W0 : World) (S : Nat → Prop) (bs : List Nat := []) : Good (cx_sha_Hash_Copy W0 S bs) := ⟨List.forall_mem_cons.2 ⟨ok5, List.forall_mem_cons.2 ⟨ok22, List.forall_mem_cons.2 ⟨ok23, List.forall_mem_cons.2 ⟨ok97, List.forall_mem_cons.2 ⟨ok212, List.forall_mem_cons.2 ⟨ok284, List.forall_mem_cons.2 ⟨ok309, (fun _ h => by cases h)⟩⟩⟩⟩⟩⟩⟩, List.forall_mem_cons.2 ⟨by kernel_rfl, (fun _ h => by cases h)⟩, mixed⟩
/-- (*ostiary/sha.Hash).Write -/
noncomputable def cx_sha_Hash_Write (W0 : World) (S : Nat → Prop) (bs : List Nat := []) : Cx := ⟨Tryz.prog, W0, S, 59, [(3, ti3), (5, ti5), (22, ti22), (23, ti23), (97, ti97), (212, ti212), (284, ti284), (309, ti309)], [65, 146], bs, none, []⟩
abbrev n_sha_Hash_Write : FuncId := 232
theorem b_sha_Hash_Write : Tryz.prog.funcs[n_sha_Hash_Write]? = some Tryz.f232 := Tryz.func232
def p_sha_Hash_Write_6 : Plan := .take 0 (.take 1 (.take 2 (.take 3 (.take 4 (.take 5 (.take 6 (.take 7 (.exec 8 (.done)))))))))
theorem good_sha_Hash_Write (W0 : World) (S : Nat → Prop) (bs : List Nat := []) : Good (cx_sha_Hash_Write W0 S bs) := ⟨List.forall_mem_cons.2 ⟨ok3, List.forall_mem_cons.2 ⟨ok5, List.forall_mem_cons.2 ⟨ok22, List.forall_mem_cons.2 ⟨ok23, List.forall_mem_cons.2 ⟨ok97, List.forall_mem_cons.2 ⟨ok212, List.forall_mem_cons.2 ⟨ok284, List.forall_mem_cons.2 ⟨ok309, (fun _ h => by cases h)⟩⟩⟩⟩⟩⟩⟩⟩, List.forall_mem_cons.2 ⟨by kernel_rfl, List.forall_mem_cons.2 ⟨by kernel_rfl, (fun _ h => by cases h)⟩⟩, mixed⟩
/-- (*ostiary/sha.Hash).Sum -/
noncomputable def cx_sha_Hash_Sum (W0 : World) (S : Nat → Prop) (bs : List Nat := []) : Cx := ⟨Tryz.prog, W0, S, 31, [(3, ti3), (5, ti5), (22, ti22), (23, ti23), (97, ti97), (212, ti212), (284, ti284), (309, ti309)], [65, 146, 147, 191], bs, none, []⟩
abbrev n_sha_Hash_Sum : FuncId := 233
theorem b_sha_Hash_Sum : Tryz.prog.funcs[n_sha_Hash_Sum]? = some Tryz.f233 := Tryz.func233
def p_sha_Hash_Sum_4 : Plan := .take 0 (.take 1 (.take 2 (.take 3 (.take 5 (.take 6 (.take 7 (.take 8 (.exec 4 (.exec 9 (.exec 10 (.take 11 (.done))))))))))))
theorem good_sha_Hash_Sum (W0 : World) (S : Nat → Prop) (bs : List Nat := []) : Good (cx_sha_Hash_Sum W0 S bs) := ⟨List.forall_mem_cons.2 ⟨ok3, List.forall_mem_cons.2 ⟨ok5, List.forall_mem_cons.2 ⟨ok22, List.forall_mem_cons.2 ⟨ok23, List.forall_mem_cons.2 ⟨ok97, List.forall_mem_cons.2 ⟨ok212, List.forall_mem_cons.2 ⟨ok284, List.forall_mem_cons.2 ⟨ok309, (fun _ h => by cases h)⟩⟩⟩⟩⟩⟩⟩⟩, List.forall_mem_cons.2 ⟨by kernel_rfl, List.forall_mem_cons.2 ⟨by kernel_rfl, List.forall_mem_cons.2 ⟨by kernel_rfl, List.forall_mem_cons.2 ⟨by kernel_rfl, (fun _ h => by cases h)⟩⟩⟩⟩, mixed⟩
/-- math/bits.Mul -/
noncomputable def cx_math_bits_Mul (W0 : World) (S : Nat → Prop) (bs : List Nat := []) : Cx := ⟨Tryz.prog, W0, S, 30, [(22, ti22), (97, ti97), (196, ti196)], [249, 250], bs, none, []⟩
abbrev n_math_bits_Mul : FuncId := 234
theorem b_math_bits_Mul : Tryz.prog.funcs[n_math_bits_Mul]? = some Tryz.f234 := Tryz.func234
theorem good_math_bits_Mul (W0 : World) (S : Nat → Prop) (bs : List Nat := []) : Good (cx_math_bits_Mul W0 S bs) := ⟨List.forall_mem_cons.2 ⟨ok22, List.forall_mem_cons.2 ⟨ok97, List.forall_mem_cons.2 ⟨ok196, (fun _ h => by cases h)⟩⟩⟩, List.forall_mem_cons.2 ⟨by kernel_rfl, List.forall_mem_cons.2 ⟨by kernel_rfl, (fun _ h => by cases h)⟩⟩, mixed⟩
/-- slices.pdqsortOrdered[string] -/
noncomputable def cx_slices_pdqsortOrdered_string (W0 : World) (S : Nat → Prop) (bs : List Nat := []) : Cx := ⟨Tryz.prog, W0, S, 134, [(3, ti3), (9, ti9), (95, ti95), (274, ti274)], [181, 235, 251, 252, 253, 254, 255, 256, 257, 258], bs, none, []⟩
abbrev n_slices_pdqsortOrdered_string : FuncId := 235
theorem b_slices_pdqsortOrdered_string : Tryz.prog.funcs[n_slices_pdqsortOrdered_string]? = some Tryz.f235 := Tryz.func235
def p_slices_pdqsortOrdered_string_17 : Plan := .take 0 (.take 1 (.take 2 (.take 3 (.take 4 (.take 5 (.take 6 (.take 7 (.take 8 (.take 9 (.take 10 (.take 11 (.exec 12 (.take 13 (.take 14 (.done)))))))))))))))
theorem good_slices_pdqsortOrdered_string (W0 : World) (S : Nat → Prop) (bs : List Nat := []) : Good (cx_slices_pdqsortOrdered_string W0 S bs) := ⟨List.forall_mem_cons.2 ⟨ok3, List.forall_mem_cons.2 ⟨ok9, List.forall_mem_cons.2 ⟨ok95, List.forall_mem_cons.2 ⟨ok274, (fun _ h => by cases h)⟩⟩⟩⟩, List.forall_mem_cons.2 ⟨by kernel_rfl, List.forall_mem_cons.2 ⟨by kernel_rfl, List.forall_mem_cons.2 ⟨by kernel_rfl, List.forall_mem_cons.2 ⟨by kernel_rfl, List.forall_mem_cons.2 ⟨by kernel_rfl, List.forall_mem_cons.2 ⟨by kernel_rfl, List.forall_mem_cons.2 ⟨by kernel_rfl, List.forall_mem_cons.2 ⟨by kernel_rfl, List.forall_mem_cons.2 ⟨by kernel_rfl, List.forall_mem_cons.2 ⟨by kernel_rfl, (fun _ h => by cases h)⟩⟩⟩⟩⟩⟩⟩⟩⟩⟩, mixed⟩
/-- slices.IndexFunc[[]string,string] -/
noncomputable def cx_slices_IndexFunc_string_string (W0 : World) (S : Nat → Prop) (bs : List Nat := []) : Cx := ⟨Tryz.prog, W0, S, 19, [(3, ti3), (9, ti9), (95, ti95)], [], bs, none, []⟩
abbrev n_slices_IndexFunc_string_string : FuncId := 236
theorem b_slices_IndexFunc_string_string : Tryz.prog.funcs[n_slices_IndexFunc_string_string]? = some Tryz.f236 := Tryz.func236
theorem good_slices_IndexFunc_string_string (W0 : World) (S : Nat → Prop) (bs : List Nat := []) : Good (cx_slices_IndexFunc_string_string W0 S bs) := ⟨List.forall_mem_cons.2 ⟨ok3, List.forall_mem_cons.2 ⟨ok9, List.forall_mem_cons.2 ⟨ok95, (fun _ h => by cases h)⟩⟩⟩, (fun _ h => by cases h), mixed⟩
/-- ostiary/name.Runes -/
noncomputable def cx_name_Runes (W0 : World) (S : Nat → Prop) (bs : List Nat := []) : Cx := ⟨Tryz.prog, W0, S, 4, [(9, ti9)], [259], bs, none, []⟩
abbrev n_name_Runes : FuncId := 237
theorem b_name_Runes : Tryz.prog.funcs[n_name_Runes]? = some Tryz.f237 := Tryz.func237
theorem good_name_Runes (W0 : World) (S : Nat → Prop) (bs : List Nat := []) : Good (cx_name_Runes W0 S bs) := ⟨List.forall_mem_cons.2 ⟨ok9, (fun _ h => by cases h)⟩, List.forall_mem_cons.2 ⟨by kernel_rfl, (fun _ h => by cases h)⟩, mixed⟩
/-- ostiary/name.prepared$1 -/
noncomputable def cx_name_prepared_1 (W0 : World) (S : Nat → Prop) (bs : List Nat := []) : Cx := ⟨Tryz.prog, W0, S, 21, [(9, ti9), (21, ti21), (266, ti266), (268, ti268), (296, ti296), (297, ti297), (298, ti298)], [212, 237], bs, none, []⟩
abbrev n_name_prepared_1 : FuncId := 238
theorem b_name_prepared_1 : Tryz.prog.funcs[n_name_prepared_1]? = some Tryz.f238 := Tryz.func238
theorem good_name_prepared_1 (W0 : World) (S : Nat → Prop) (bs : List Nat := []) : Good (cx_name_prepared_1 W0 S bs) := ⟨List.forall_mem_cons.2 ⟨ok9, List.forall_mem_cons.2 ⟨ok21, List.forall_mem_cons.2 ⟨ok266, List.forall_mem_cons.2 ⟨ok268, List.forall_mem_cons.2 ⟨ok296, List.forall_mem_cons.2 ⟨ok297, List.forall_mem_cons.2 ⟨ok298, (fun _ h => by cases h)⟩⟩⟩⟩⟩⟩⟩, List.forall_mem_cons.2 ⟨by kernel_rfl, List.forall_mem_cons.2 ⟨by kernel_rfl, (fun _ h => by cases h)⟩⟩, mixed⟩
/-- ostiary/name.sign -/
noncomputable def cx_name_sign (W0 : World) (S : Nat → Prop) (bs : List Nat := []) : Cx := ⟨Tryz.prog, W0, S, 17, [(21, ti21)], [], bs, none, []⟩
abbrev n_name_sign : FuncId := 239
theorem b_name_sign : Tryz.prog.funcs[n_name_sign]? = some Tryz.f239 := Tryz.func239
theorem good_name_sign (W0 : World) (S : Nat → Prop) (bs : List Nat := []) : Good (cx_name_sign W0 S bs) := ⟨List.forall_mem_cons.2 ⟨ok21, (fun _ h => by cases h)⟩, (fun _ h => by cases h), mixed⟩
/-- ostiary/ostiaryref04.tail -/
noncomputable def cx_ostiaryref04_tail (W0 : World) (S : Nat → Prop) (bs : List Nat := []) : Cx := ⟨Tryz.prog, W0, S, 9, [(5, ti5)], [], bs, none, []⟩
abbrev n_ostiaryref04_tail : FuncId := 240
theorem b_ostiaryref04_tail : Tryz.prog.funcs[n_ostiaryref04_tail]? = some Tryz.f240 := Tryz.func240
theorem good_ostiaryref04_tail (W0 : World) (S : Nat → Prop) (bs : List Nat := []) : Good (cx_ostiaryref04_tail W0 S bs) := ⟨List.forall_mem_cons.2 ⟨ok5, (fun _ h => by cases h)⟩, (fun _ h => by cases h), mixed⟩
/-- slices.Reverse[[]string,string] -/
noncomputable def cx_slices_Reverse_string_string (W0 : World) (S : Nat → Prop) (bs : List Nat := []) : Cx := ⟨Tryz.prog, W0, S, 28, [(3, ti3), (9, ti9), (95, ti95)], [], bs, none, []⟩
abbrev n_slices_Reverse_string_string : FuncId := 241
theorem b_slices_Reverse_string_string : Tryz.prog.funcs[n_slices_Reverse_string_string]? = some Tryz.f241 := Tryz.func241
def p_slices_Reverse_string_string_3 : Plan := .take 0 (.take 1 (.take 2 (.take 3 (.take 4 (.take 5 (.take 6 (.take 8 (.take 9 (.take 10 (.alt 7 (.exec 11 (.take 12 (.exec 13 (.take 14 (.exec 15 (.done)))))) (.exec 11 (.exec 7 (.take 12 (.exec 13 (.take 14 (.exec 15 (.done)))))))))))))))))
theorem good_slices_Reverse_string_string (W0 : World) (S : Nat → Prop) (bs : List Nat := []) : Good (cx_slices_Reverse_string_string W0 S bs) := ⟨List.forall_mem_cons.2 ⟨ok3, List.forall_mem_cons.2 ⟨ok9, List.forall_mem_cons.2 ⟨ok95, (fun _ h => by cases h)⟩⟩⟩, (fun _ h => by cases h), mixed⟩
/-- slices.siftDownOrdered[int] -/
noncomputable def cx_slices_siftDownOrdered_int (W0 : World) (S : Nat → Prop) (bs : List Nat := []) : Cx := ⟨Tryz.prog, W0, S, 76, [(3, ti3), (68, ti68)], [223], bs, none, []⟩
abbrev n_slices_siftDownOrdered_int : FuncId := 242
theorem b_slices_siftDownOrdered_int : Tryz.prog.funcs[n_slices_siftDownOrdered_int]? = some Tryz.f242 := Tryz.func242
def p_slices_siftDownOrdered_int_3 : Plan := .take 0 (.take 1 (.take 2 (.take 3 (.take 4 (.take 5 (.take 6 (.take 7 (.take 8 (.take 9 (.take 10 (.take 11 (.take 12 (.take 13 (.take 14 (.take 15 (.take 16 (.take 17 (.exec 18 (.take 19 (.done))))))))))))))))))))
def p_slices_siftDownOrdered_int_5 : Plan := .take 0 (.take 1 (.take 2 (.take 3 (.take 4 (.take 5 (.take 6 (.take 7 (.take 8 (.take 9 (.take 10 (.take 11 (.exec 12 (.take 13 (.done))))))))))))))
def p_slices_siftDownOrdered_int_6 : Plan := .take 0 (.take 1 (.take 2 (.take 3 (.take 4 (.take 5 (.take 6 (.take 7 (.take 8 (.take 9 (.take 10 (.take 11 (.take 12 (.take 14 (.take 15 (.take 16 (.take 17 (.take 18 (.alt 13 (.exec 19 (.take 20 (.exec 21 (.take 22 (.exec 23 (.done)))))) (.exec 19 (.exec 13 (.take 20 (.exec 21 (.take 22 (.exec 23 (.done)))))))))))))))))))))))))
theorem good_slices_siftDownOrdered_int (W0 : World) (S : Nat → Prop) (bs : List Nat := []) : Good (cx_slices_siftDownOrdered_int W0 S bs) := ⟨List.forall_mem_cons.2 ⟨ok3, List.forall_mem_cons.2 ⟨ok68, (fun _ h => by cases h)⟩⟩, List.forall_mem_cons.2 ⟨by kernel_rfl, (fun _ h => by cases h)⟩, mixed⟩
/-- slices.nextPowerOfTwo -/
noncomputable def cx_slices_nextPowerOfTwo (W0 : World) (S : Nat → Prop) (bs : List Nat := []) : Cx := ⟨Tryz.prog, W0, S, 7, [(3, ti3), (196, ti196)], [188], bs, none, []⟩
abbrev n_slices_nextPowerOfTwo : FuncId := 243
theorem b_slices_nextPowerOfTwo : Tryz.prog.funcs[n_slices_nextPowerOfTwo]? = some Tryz.f243 := Tryz.func243
theorem good_slices_nextPowerOfTwo (W0 : World) (S : Nat → Prop) (bs : List Nat := []) : Good (cx_slices_nextPowerOfTwo W0 S bs) := ⟨List.forall_mem_cons.2 ⟨ok3, List.forall_mem_cons.2 ⟨ok196, (fun _ h => by cases h)⟩⟩, List.forall_mem_cons.2 ⟨by kernel_rfl, (fun _ h => by cases h)⟩, mixed⟩
/-- (*slices.xorshift).Next -/
noncomputable def cx_slices_xorshift_Next (W0 : World) (S : Nat → Prop) (bs : List Nat := []) : Cx := ⟨Tryz.prog, W0, S, 33, [(303, ti303)], [], bs, none, []⟩
abbrev n_slices_xorshift_Next : FuncId := 244
theorem b_slices_xorshift_Next : Tryz.prog.funcs[n_slices_xorshift_Next]? = some Tryz.f244 := Tryz.func244
def p_slices_xorshift_Next_1 : Plan := .take 0 (.take 1 (.take 2 (.take 3 (.take 4 (.take 5 (.take 6 (.take 7 (.take 8 (.brk 9 (.done))))))))))
def p_slices_xorshift_Next_2 : Plan := .take 0 (.take 1 (.take 2 (.take 3 (.take 4 (.take 5 (.take 6 (.take 7 (.take 8 (.brk 9 (.done))))))))))
def p_slices_xorshift_Next_3 : Plan := .take 0 (.take 1 (.take 2 (.take 3 (.take 4 (.take 5 (.take 6 (.take 7 (.take 8 (.brk 9 (.done))))))))))
theorem good_slices_xorshift_Next (W0 : World) (S : Nat → Prop) (bs : List Nat := []) : Good (cx_slices_xorshift_Next W0 S bs) := ⟨List.forall_mem_cons.2 ⟨ok303, (fun _ h => by cases h)⟩, (fun _ h => by cases h), mixed⟩
/-- slices.medianAdjacentOrdered[int] -/
noncomputable def cx_slices_medianAdjacentOrdered_int (W0 : World) (S : Nat → Prop) (bs : List Nat := []) : Cx := ⟨Tryz.prog, W0, S, 15, [(3, ti3), (68, ti68), (306, ti306)], [246], bs, none, []⟩
abbrev n_slices_medianAdjacentOrdered_int : FuncId := 245
theorem b_slices_medianAdjacentOrdered_int : Tryz.prog.funcs[n_slices_medianAdjacentOrdered_int]? = some Tryz.f245 := Tryz.func245
theorem good_slices_medianAdjacentOrdered_int (W0 : World) (S : Nat → Prop) (bs : List Nat := []) : Good (cx_slices_medianAdjacentOrdered_int W0 S bs) := ⟨List.forall_mem_cons.2 ⟨ok3, List.forall_mem_cons.2 ⟨ok68, List.forall_mem_cons.2 ⟨ok306, (fun _ h => by cases h)⟩⟩⟩, List.forall_mem_cons.2 ⟨by kernel_rfl, (fun _ h => by cases h)⟩, mixed⟩
/-- slices.medianOrdered[int] -/
noncomputable def cx_slices_medianOrdered_int (W0 : World) (S : Nat → Prop) (bs : List Nat := []) : Cx := ⟨Tryz.prog, W0, S, 36, [(3, ti3), (68, ti68), (306, ti306)], [261], bs, none, []⟩
abbrev n_slices_medianOrdered_int : FuncId := 246
theorem b_slices_medianOrdered_int : Tryz.prog.funcs[n_slices_medianOrdered_int]? = some Tryz.f246 := Tryz.func246
theorem good_slices_medianOrdered_int (W0 : World) (S : Nat → Prop) (bs : List Nat := []) : Good (cx_slices_medianOrdered_int W0 S bs) := ⟨List.forall_mem_cons.2 ⟨ok3, List.forall_mem_cons.2 ⟨ok68, List.forall_mem_cons.2 ⟨ok306, (fun _ h => by cases h)⟩⟩⟩, List.forall_mem_cons.2 ⟨by kernel_rfl, (fun _ h => by cases h)⟩, mixed⟩
/-- cmp.isNaN[int] -/
noncomputable def cx_cmp_isNaN_int (W0 : World) (S : Nat → Prop) (bs : List Nat := []) : Cx := ⟨Tryz.prog, W0, S, 6, [(3, ti3)], [], bs, none, []⟩
abbrev n_cmp_isNaN_int : FuncId := 247
theorem b_cmp_isNaN_int : Tryz.prog.funcs[n_cmp_isNaN_int]? = some Tryz.f247 := Tryz.func247
theorem good_cmp_isNaN_int (W0 : World) (S : Nat → Prop) (bs : List Nat := []) : Good (cx_cmp_isNaN_int W0 S bs) := ⟨List.forall_mem_cons.2 ⟨ok3, (fun _ h => by cases h)⟩, (fun _ h => by cases h), mixed⟩
/-- ostiary/sha.New -/
noncomputable def cx_sha_New (W0 : World) (S : Nat → Prop) (bs : List Nat := []) : Cx := ⟨Tryz.prog, W0, S, 4, [(5, ti5), (22, ti22), (23, ti23), (97, ti97), (183, ti183), (212, ti212), (309, ti309)], [], bs, none, []⟩
abbrev n_sha_New : FuncId := 248
theorem b_sha_New : Tryz.prog.funcs[n_sha_New]? = some Tryz.f248 := Tryz.func248
theorem good_sha_New (W0 : World) (S : Nat → Prop) (bs : List Nat := []) : Good (cx_sha_New W0 S bs) := ⟨List.forall_mem_cons.2 ⟨ok5, List.forall_mem_cons.2 ⟨ok22, List.forall_mem_cons.2 ⟨ok23, List.forall_mem_cons.2 ⟨ok97, List.forall_mem_cons.2 ⟨ok183, List.forall_mem_cons.2 ⟨ok212, List.forall_mem_cons.2 ⟨ok309, (fun _ h => by cases h)⟩⟩⟩⟩⟩⟩⟩, (fun _ h => by cases h), mixed⟩
/-- math/bits.Mul32 -/
noncomputable def cx_math_bits_Mul32 (W0 : World) (S : Nat → Prop) (bs : List Nat := []) : Cx := ⟨Tryz.prog, W0, S, 17, [(22, ti22), (97, ti97)], [], bs, none, []⟩
abbrev n_math_bits_Mul32 : FuncId := 249
theorem b_math_bits_Mul32 : Tryz.prog.funcs[n_math_bits_Mul32]? = some Tryz.f249 := Tryz.func249
theorem good_math_bits_Mul32 (W0 : World) (S : Nat → Prop) (bs : List Nat := []) : Good (cx_math_bits_Mul32 W0 S bs) := ⟨List.forall_mem_cons.2 ⟨ok22, List.forall_mem_cons.2 ⟨ok97, (fun _ h => by cases h)⟩⟩, (fun _ h => by cases h), mixed⟩
/-- math/bits.Mul64 -/
noncomputable def cx_math_bits_Mul64 (W0 : World) (S : Nat → Prop) (bs : List Nat := []) : Cx := ⟨Tryz.prog, W0, S, 51, [(97, ti97)], [], bs, none, []⟩
abbrev n_math_bits_Mul64 : FuncId := 250
theorem b_math_bits_Mul64 : Tryz.prog.funcs[n_math_bits_Mul64]? = some Tryz.f250 := Tryz.func250
theorem good_math_bits_Mul64 (W0 : World) (S : Nat → Prop) (bs : List Nat := []) : Good (cx_math_bits_Mul64 W0 S bs) := ⟨List.forall_mem_cons.2 ⟨ok97, (fun _ h => by cases h)⟩, (fun _ h => by cases h), mixed⟩
/-- slices.insertionSortOrdered[string] -/
noncomputable def cx_slices_insertionSortOrdered_string (W0 : World) (S : Nat → Prop) (bs : List Nat := []) : Cx := ⟨Tryz.prog, W0, S, 49, [(3, ti3), (9, ti9), (95, ti95)], [181], bs, none, []⟩
abbrev n_slices_insertionSortOrdered_string : FuncId := 251
theorem b_slices_insertionSortOrdered_string : Tryz.prog.funcs[n_slices_insertionSortOrdered_string]? = some Tryz.f251 := Tryz.func251
def p_slices_insertionSortOrdered_string_4 : Plan := .take 0 (.take 1 (.take 2 (.take 3 (.take 4 (.take 5 (.take 6 (.take 7 (.take 8 (.take 9 (.take 10 (.take 11 (.take 12 (.exec 13 (.take 14 (.done)))))))))))))))
def p_slices_insertionSortOrdered_string_6 : Plan := .take 0 (.take 1 (.take 2 (.take 3 (.take 4 (.take 5 (.take 6 (.take 7 (.take 8 (.take 10 (.take 11 (.take 12 (.alt 9 (.exec 13 (.take 14 (.exec 15 (.take 16 (.exec 17 (.done)))))) (.exec 13 (.exec 9 (.take 14 (.exec 15 (.take 16 (.exec 17 (.done)))))))))))))))))))
theorem good_slices_insertionSortOrdered_string (W0 : World) (S : Nat → Prop) (bs : List Nat := []) : Good (cx_slices_insertionSortOrdered_string W0 S bs) := ⟨List.forall_mem_cons.2 ⟨ok3, List.forall_mem_cons.2 ⟨ok9, List.forall_mem_cons.2 ⟨ok95, (fun _ h => by cases h)⟩⟩⟩, List.forall_mem_cons.2 ⟨by kernel_rfl, (fun _ h => by cases h)⟩, mixed⟩
/-- slices.heapSortOrdered[string] -/
noncomputable def cx_slices_heapSortOrdered_string (W0 : World) (S : Nat → Prop) (bs : List Nat := []) : Cx := ⟨Tryz.prog, W0, S, 56, [(3, ti3), (9, ti9), (95, ti95)], [262], bs, none, []⟩
abbrev n_slices_heapSortOrdered_string : FuncId := 252
theorem b_slices_heapSortOrdered_string : Tryz.prog.funcs[n_slices_heapSortOrdered_string]? = some Tryz.f252 := Tryz.func252
def p_slices_heapSortOrdered_string_10 : Plan := .take 0 (.take 1 (.take 2 (.take 3 (.take 4 (.take 5 (.take 6 (.take 7 (.take 8 (.take 9 (.take 10 (.take 12 (.take 13 (.take 14 (.alt 11 (.exec 15 (.take 16 (.exec 17 (.take 18 (.exec 19 (.done)))))) (.exec 15 (.exec 11 (.take 16 (.exec 17 (.take 18 (.exec 19 (.done)))))))))))))))))))))
theorem good_slices_heapSortOrdered_string (W0 : World) (S : Nat → Prop) (bs : List Nat := []) : Good (cx_slices_heapSortOrdered_string W0 S bs) := ⟨List.forall_mem_cons.2 ⟨ok3, List.forall_mem_cons.2 ⟨ok9, List.forall_mem_cons.2 ⟨ok95, (fun _ h => by cases h)⟩⟩⟩, List.forall_mem_cons.2 ⟨by kernel_rfl, (fun _ h => by cases h)⟩, mixed⟩
/-- slices.breakPatternsOrdered[string] -/
noncomputable def cx_slices_breakPatternsOrdered_string (W0 : World) (S : Nat → Prop) (bs : List Nat := []) : Cx := ⟨Tryz.prog, W0, S, 65, [(3, ti3), (9, ti9), (95, ti95), (196, ti196), (303, ti303)], [243, 244], bs, none, []⟩
abbrev n_slices_breakPatternsOrdered_string : FuncId := 253
theorem b_slices_breakPatternsOrdered_string : Tryz.prog.funcs[n_slices_breakPatternsOrdered_string]? = some Tryz.f253 := Tryz.func253
def p_slices_breakPatternsOrdered_string_10 : Plan := .take 0 (.take 1 (.take 2 (.take 3 (.take 4 (.take 5 (.take 6 (.take 7 (.take 8 (.take 9 (.take 10 (.take 12 (.take 13 (.take 14 (.alt 11 (.exec 15 (.take 16 (.exec 17 (.take 18 (.exec 19 (.done)))))) (.exec 15 (.exec 11 (.take 16 (.exec 17 (.take 18 (.exec 19 (.done)))))))))))))))))))))
theorem good_slices_breakPatternsOrdered_string (W0 : World) (S : Nat → Prop) (bs : List Nat := []) : Good (cx_slices_breakPatternsOrdered_string W0 S bs) := ⟨List.forall_mem_cons.2 ⟨ok3, List.forall_mem_cons.2 ⟨ok9, List.forall_mem_cons.2 ⟨ok95, List.forall_mem_cons.2 ⟨ok196, List.forall_mem_cons.2 ⟨ok303, (fun _ h => by cases h)⟩⟩⟩⟩⟩, List.forall_mem_cons.2 ⟨by kernel_rfl, List.forall_mem_cons.2 ⟨by kernel_rfl, (fun _ h => by cases h)⟩⟩, mixed⟩
/-- slices.choosePivotOrdered[string] -/
noncomputable def cx_slices_choosePivotOrdered_string (W0 : World) (S : Nat → Prop) (bs : List Nat := []) : Cx := ⟨Tryz.prog, W0, S, 57, [(3, ti3), (9, ti9), (95, ti95), (306, ti306)], [263, 264], bs, none, []⟩
abbrev n_slices_choosePivotOrdered_string : FuncId := 254
theorem b_slices_choosePivotOrdered_string : Tryz.prog.funcs[n_slices_choosePivotOrdered_string]? = some Tryz.f254 := Tryz.func254
theorem good_slices_choosePivotOrdered_string (W0 : World) (S : Nat → Prop) (bs : List Nat := []) : Good (cx_slices_choosePivotOrdered_string W0 S bs) := ⟨List.forall_mem_cons.2 ⟨ok3, List.forall_mem_cons.2 ⟨ok9, List.forall_mem_cons.2 ⟨ok95, List.forall_mem_cons.2 ⟨ok306, (fun _ h => by cases h)⟩⟩⟩⟩, List.forall_mem_cons.2 ⟨by kernel_rfl, List.forall_mem_cons.2 ⟨by kernel_rfl, (fun _ h => by cases h)⟩⟩, mixed⟩
/-- slices.reverseRangeOrdered[string] -/
noncomputable def cx_slices_reverseRangeOrdered_string (W0 : World) (S : Nat → Prop) (bs : List Nat := []) : Cx := ⟨Tryz.prog, W0, S, 32, [(3, ti3), (9, ti9), (95, ti95)], [], bs, none, []⟩
abbrev n_slices_reverseRangeOrdered_string : FuncId := 255
theorem b_slices_reverseRangeOrdered_string : Tryz.prog.funcs[n_slices_reverseRangeOrdered_string]? = some Tryz.f255 := Tryz.func255
def p_slices_reverseRangeOrdered_string_3 : Plan := .take 0 (.take 1 (.take 2 (.take 3 (.take 4 (.take 5 (.take 6 (.take 8 (.take 9 (.take 10 (.alt 7 (.exec 11 (.take 12 (.exec 13 (.take 14 (.exec 15 (.done)))))) (.exec 11 (.exec 7 (.take 12 (.exec 13 (.take 14 (.exec 15 (.done)))))))))))))))))
theorem good_slices_reverseRangeOrdered_string (W0 : World) (S : Nat → Prop) (bs : List Nat := []) : Good (cx_slices_reverseRangeOrdered_string W0 S bs) := ⟨List.forall_mem_cons.2 ⟨ok3, List.forall_mem_cons.2 ⟨ok9, List.forall_mem_cons.2 ⟨ok95, (fun _ h => by cases h)⟩⟩⟩, (fun _ h => by cases h), mixed⟩
/-- slices.partialInsertionSortOrdered[string] -/
noncomputable def cx_slices_partialInsertionSortOrdered_string (W0 : World) (S : Nat → Prop) (bs : List Nat := []) : Cx := ⟨Tryz.prog, W0, S, 133, [(3, ti3), (9, ti9), (95, ti95)], [181], bs, none, []⟩
abbrev n_slices_partialInsertionSortOrdered_string : FuncId := 256
theorem b_slices_partialInsertionSortOrdered_string : Tryz.prog.funcs[n_slices_partialInsertionSortOrdered_string]? = some Tryz.f256 := Tryz.func256
def p_slices_partialInsertionSortOrdered_string_5 : Plan := .take 0 (.take 1 (.take 2 (.take 3 (.take 4 (.take 5 (.take 6 (.take 7 (.take 8 (.take 9 (.take 10 (.take 11 (.take 12 (.exec 13 (.take 14 (.take 15 (.done))))))))))))))))
def p_slices_partialInsertionSortOrdered_string_11 : Plan := .take 0 (.take 1 (.take 2 (.take 3 (.take 4 (.take 5 (.take 6 (.take 7 (.take 8 (.take 10 (.take 11 (.take 12 (.alt 9 (.exec 13 (.take 14 (.exec 15 (.take 16 (.exec 17 (.done)))))) (.exec 13 (.exec 9 (.take 14 (.exec 15 (.take 16 (.exec 17 (.done)))))))))))))))))))
def p_slices_partialInsertionSortOrdered_string_16 : Plan := .take 0 (.take 1 (.take 2 (.take 3 (.take 4 (.take 5 (.take 6 (.take 7 (.take 8 (.exec 9 (.take 10 (.done)))))))))))
def p_slices_partialInsertionSortOrdered_string_17 : Plan := .take 0 (.take 1 (.take 2 (.take 3 (.take 4 (.take 5 (.take 6 (.take 7 (.take 8 (.take 10 (.take 11 (.take 12 (.alt 9 (.exec 13 (.take 14 (.exec 15 (.take 16 (.exec 17 (.done)))))) (.exec 13 (.exec 9 (.take 14 (.exec 15 (.take 16 (.exec 17 (.done)))))))))))))))))))
def p_slices_partialInsertionSortOrdered_string_22 : Plan := .take 0 (.take 1 (.take 2 (.take 3 (.take 4 (.take 5 (.take 6 (.take 7 (.take 8 (.exec 9 (.take 10 (.done)))))))))))
def p_slices_partialInsertionSortOrdered_string_23 : Plan := .take 0 (.take 1 (.take 2 (.take 3 (.take 4 (.take 5 (.take 6 (.take 7 (.take 8 (.take 10 (.take 11 (.take 12 (.alt 9 (.exec 13 (.take 14 (.exec 15 (.take 16 (.exec 17 (.done)))))) (.exec 13 (.exec 9 (.take 14 (.exec 15 (.take 16 (.exec 17 (.done)))))))))))))))))))
theorem good_slices_partialInsertionSortOrdered_string (W0 : World) (S : Nat → Prop) (bs : List Nat := []) : Good (cx_slices_partialInsertionSortOrdered_string W0 S bs) := ⟨List.forall_mem_cons.2 ⟨ok3, List.forall_mem_cons.2 ⟨ok9, List.forall_mem_cons.2 ⟨ok95, (fun _ h => by cases h)⟩⟩⟩, List.forall_mem_cons.2 ⟨by kernel_rfl, (fun _ h => by cases h)⟩, mixed⟩
/-- slices.partitionEqualOrdered[string] -/
noncomputable def cx_slices_partitionEqualOrdered_string (W0 : World) (S : Nat → Prop) (bs : List Nat := []) : Cx := ⟨Tryz.prog, W0, S, 84, [(3, ti3), (9, ti9), (95, ti95)], [181], bs, none, []⟩
abbrev n_slices_partitionEqualOrdered_string : FuncId := 257
theorem b_slices_partitionEqualOrdered_string : Tryz.prog.funcs[n_slices_partitionEqualOrdered_string]? = some Tryz.f257 := Tryz.func257
def p_slices_partitionEqualOrdered_string_1 : Plan := .take 0 (.take 1 (.take 2 (.take 3 (.take 4 (.take 5 (.take 6 (.take 8 (.take 9 (.take 10 (.alt 7 (.exec 11 (.take 12 (.exec 13 (.take 14 (.exec 15 (.done)))))) (.exec 11 (.exec 7 (.take 12 (.exec 13 (.take 14 (.exec 15 (.done)))))))))))))))))
def p_slices_partitionEqualOrdered_string_3 : Plan := .take 0 (.take 1 (.take 2 (.take 3 (.take 4 (.take 5 (.take 6 (.take 7 (.take 8 (.take 9 (.take 10 (.take 11 (.exec 12 (.take 13 (.take 14 (.done)))))))))))))))
def p_slices_partitionEqualOrdered_string_5 : Plan := .take 0 (.take 1 (.take 2 (.take 3 (.take 4 (.take 5 (.take 6 (.take 7 (.take 8 (.take 9 (.take 10 (.take 11 (.exec 12 (.take 13 (.done))))))))))))))
def p_slices_partitionEqualOrdered_string_8 : Plan := .take 0 (.take 1 (.take 2 (.take 3 (.take 4 (.take 5 (.take 6 (.take 8 (.take 9 (.take 10 (.alt 7 (.exec 11 (.take 12 (.exec 13 (.take 14 (.exec 15 (.done)))))) (.exec 11 (.exec 7 (.take 12 (.exec 13 (.take 14 (.exec 15 (.done)))))))))))))))))
theorem good_slices_partitionEqualOrdered_string (W0 : World) (S : Nat → Prop) (bs : List Nat := []) : Good (cx_slices_partitionEqualOrdered_string W0 S bs) := ⟨List.forall_mem_cons.2 ⟨ok3, List.forall_mem_cons.2 ⟨ok9, List.forall_mem_cons.2 ⟨ok95, (fun _ h => by cases h)⟩⟩⟩, List.forall_mem_cons.2 ⟨by kernel_rfl, (fun _ h => by cases h)⟩, mixed⟩
/-- slices.partitionOrdered[string] -/
noncomputable def cx_slices_partitionOrdered_string (W0 : World) (S : Nat → Prop) (bs : List Nat := []) : Cx := ⟨Tryz.prog, W0, S, 168, [(3, ti3), (9, ti9), (95, ti95)], [181], bs, none, []⟩
abbrev n_slices_partitionOrdered_string : FuncId := 258
theorem b_slices_partitionOrdered_string : Tryz.prog.funcs[n_slices_partitionOrdered_string]? = some Tryz.f258 := Tryz.func258
def p_slices_partitionOrdered_string_1 : Plan := .take 0 (.take 1 (.take 2 (.take 3 (.take 4 (.take 5 (.take 6 (.take 8 (.take 9 (.take 10 (.alt 7 (.exec 11 (.take 12 (.exec 13 (.take 14 (.exec 15 (.done)))))) (.exec 11 (.exec 7 (.take 12 (.exec 13 (.take 14 (.exec 15 (.done)))))))))))))))))
def p_slices_partitionOrdered_string_3 : Plan := .take 0 (.take 1 (.take 2 (.take 3 (.take 4 (.take 5 (.take 6 (.take 7 (.take 8 (.take 9 (.take 10 (.take 11 (.exec 12 (.take 13 (.done))))))))))))))
def p_slices_partitionOrdered_string_5 : Plan := .take 0 (.take 1 (.take 2 (.take 3 (.take 4 (.take 5 (.take 6 (.take 7 (.take 8 (.take 9 (.take 10 (.take 11 (.exec 12 (.take 13 (.take 14 (.done)))))))))))))))
def p_slices_partitionOrdered_string_8 : Plan := .take 0 (.take 1 (.take 2 (.take 3 (.take 4 (.take 5 (.take 6 (.take 8 (.take 9 (.take 10 (.alt 7 (.exec 11 (.take 12 (.exec 13 (.take 14 (.exec 15 (.done)))))) (.exec 11 (.exec 7 (.take 12 (.exec 13 (.take 14 (.exec 15 (.done)))))))))))))))))
def p_slices_partitionOrdered_string_10 : Plan := .take 0 (.take 1 (.take 2 (.take 3 (.take 4 (.take 5 (.take 6 (.take 8 (.take 9 (.take 10 (.alt 7 (.exec 11 (.take 12 (.exec 13 (.take 14 (.exec 15 (.done)))))) (.exec 11 (.exec 7 (.take 12 (.exec 13 (.take 14 (.exec 15 (.done)))))))))))))))))
def p_slices_partitionOrdered_string_13 : Plan := .take 0 (.take 1 (.take 2 (.take 3 (.take 4 (.take 5 (.take 6 (.take 7 (.take 8 (.take 9 (.take 10 (.take 11 (.exec 12 (.take 13 (.done))))))))))))))
def p_slices_partitionOrdered_string_15 : Plan := .take 0 (.take 1 (.take 2 (.take 3 (.take 4 (.take 5 (.take 6 (.take 7 (.take 8 (.take 9 (.take 10 (.take 11 (.exec 12 (.take 13 (.take 14 (.done)))))))))))))))
def p_slices_partitionOrdered_string_18 : Plan := .take 0 (.take 1 (.take 2 (.take 3 (.take 4 (.take 5 (.take 6 (.take 8 (.take 9 (.take 10 (.alt 7 (.exec 11 (.take 12 (.exec 13 (.take 14 (.exec 15 (.done)))))) (.exec 11 (.exec 7 (.take 12 (.exec 13 (.take 14 (.exec 15 (.done)))))))))))))))))
def p_slices_partitionOrdered_string_21 : Plan := .take 0 (.take 1 (.take 2 (.take 3 (.take 4 (.take 5 (.take 6 (.take 8 (.take 9 (.take 10 (.alt 7 (.exec 11 (.take 12 (.exec 13 (.take 14 (.exec 15 (.done)))))) (.exec 11 (.exec 7 (.take 12 (.exec 13 (.take 14 (.exec 15 (.done)))))))))))))))))
theorem good_slices_partitionOrdered_string (W0 : World) (S : Nat → Prop) (bs : List Nat := []) : Good (cx_slices_partitionOrdered_string W0 S bs) := ⟨List.forall_mem_cons.2 ⟨ok3, List.forall_mem_cons.2 ⟨ok9, List.forall_mem_cons.2 ⟨ok95, (fun _ h => by cases h)⟩⟩⟩, List.forall_mem_cons.2 ⟨by kernel_rfl, (fun _ h => by cases h)⟩, mixed⟩
/-- ostiary/name.Runes$1 -/
noncomputable def cx_name_Runes_1 (W0 : World) (S : Nat → Prop) (bs : List Nat := []) : Cx := ⟨Tryz.prog, W0, S, 25, [(3, ti3), (9, ti9), (21, ti21)], [260], bs, none, []⟩
abbrev n_name_Runes_1 : FuncId := 259
theorem b_name_Runes_1 : Tryz.prog.funcs[n_name_Runes_1]? = some Tryz.f259 := Tryz.func259
theorem good_name_Runes_1 (W0 : World) (S : Nat → Prop) (bs : List Nat := []) : Good (cx_name_Runes_1 W0 S bs) := ⟨List.forall_mem_cons.2 ⟨ok3, List.forall_mem_cons.2 ⟨ok9, List.forall_mem_cons.2 ⟨ok21, (fun _ h => by cases h)⟩⟩⟩, List.forall_mem_cons.2 ⟨by kernel_rfl, (fun _ h => by cases h)⟩, mixed⟩
/-- ostiary/name.decode -/
noncomputable def cx_name_decode (W0 : World) (S : Nat → Prop) (bs : List Nat := []) : Cx := ⟨Tryz.prog, W0, S, 64, [(3, ti3), (5, ti5), (9, ti9), (21, ti21), (300, ti300), (301, ti301)], [239], bs, none, []⟩
abbrev n_name_decode : FuncId := 260
theorem b_name_decode : Tryz.prog.funcs[n_name_decode]? = some Tryz.f260 := Tryz.func260
def p_name_decode_4 : Plan := .take 0 (.take 1 (.take 2 (.take 3 (.take 4 (.take 5 (.take 6 (.take 7 (.take 8 (.take 9 (.take 10 (.take 11 (.take 12 (.take 13 (.take 14 (.done)))))))))))))))
def p_name_decode_5 : Plan := .take 0 (.take 1 (.take 2 (.take 3 (.take 4 (.take 5 (.take 6 (.done)))))))
def p_name_decode_12 : Plan := .take 0 (.take 1 (.take 2 (.take 3 (.take 4 (.done)))))
theorem good_name_decode (W0 : World) (S : Nat → Prop) (bs : List Nat := []) : Good (cx_name_decode W0 S bs) := ⟨List.forall_mem_cons.2 ⟨ok3, List.forall_mem_cons.2 ⟨ok5, List.forall_mem_cons.2 ⟨ok9, List.forall_mem_cons.2 ⟨ok21, List.forall_mem_cons.2 ⟨ok300, List.forall_mem_cons.2 ⟨ok301, (fun _ h => by cases h)⟩⟩⟩⟩⟩⟩, List.forall_mem_cons.2 ⟨by kernel_rfl, (fun _ h => by cases h)⟩, mixed⟩
/-- slices.order2Ordered[int] -/
noncomputable def cx_slices_order2Ordered_int (W0 : World) (S : Nat → Prop) (bs : List Nat := []) : Cx := ⟨Tryz.prog, W0, S, 28, [(3, ti3), (68, ti68)], [223], bs, none, []⟩
abbrev n_slices_order2Ordered_int : FuncId := 261
theorem b_slices_order2Ordered_int : Tryz.prog.funcs[n_slices_order2Ordered_int]? = some Tryz.f261 := Tryz.func261
def p_slices_order2Ordered_int_1 : Plan := .take 0 (.take 1 (.take 2 (.take 3 (.take 4 (.take 5 (.take 6 (.take 7 (.exec 8 (.done)))))))))
theorem good_slices_order2Ordered_int (W0 : World) (S : Nat → Prop) (bs : List Nat := []) : Good (cx_slices_order2Ordered_int W0 S bs) := ⟨List.forall_mem_cons.2 ⟨ok3, List.forall_mem_cons.2 ⟨ok68, (fun _ h => by cases h)⟩⟩, List.forall_mem_cons.2 ⟨by kernel_rfl, (fun _ h => by cases h)⟩, mixed⟩
/-- slices.siftDownOrdered[string] -/
noncomputable def cx_slices_siftDownOrdered_string (W0 : World) (S : Nat → Prop) (bs : List Nat := []) : Cx := ⟨Tryz.prog, W0, S, 76, [(3, ti3), (9, ti9), (95, ti95)], [181], bs, none, []⟩
abbrev n_slices_siftDownOrdered_string : FuncId := 262
theorem b_slices_siftDownOrdered_string : Tryz.prog.funcs[n_slices_siftDownOrdered_string]? = some Tryz.f262 := Tryz.func262
def p_slices_siftDownOrdered_string_3 : Plan := .take 0 (.take 1 (.take 2 (.take 3 (.take 4 (.take 5 (.take 6 (.take 7 (.take 8 (.take 9 (.take 10 (.take 11 (.take 12 (.take 13 (.take 14 (.take 15 (.take 16 (.take 17 (.exec 18 (.take 19 (.done))))))))))))))))))))
def p_slices_siftDownOrdered_string_5 : Plan := .take 0 (.take 1 (.take 2 (.take 3 (.take 4 (.take 5 (.take 6 (.take 7 (.take 8 (.take 9 (.take 10 (.take 11 (.exec 12 (.take 13 (.done))))))))))))))
def p_slices_siftDownOrdered_string_6 : Plan := .take 0 (.take 1 (.take 2 (.take 3 (.take 4 (.take 5 (.take 6 (.take 7 (.take 8 (.take 9 (.take 10 (.take 11 (.take 12 (.take 14 (.take 15 (.take 16 (.take 17 (.take 18 (.alt 13 (.exec 19 (.take 20 (.exec 21 (.take 22 (.exec 23 (.done)))))) (.exec 19 (.exec 13 (.take 20 (.exec 21 (.take 22 (.exec 23 (.done)))))))))))))))))))))))))
theorem good_slices_siftDownOrdered_string (W0 : World) (S : Nat → Prop) (bs : List Nat := []) : Good (cx_slices_siftDownOrdered_string W0 S bs) := ⟨List.forall_mem_cons.2 ⟨ok3, List.forall_mem_cons.2 ⟨ok9, List.forall_mem_cons.2 ⟨ok95, (fun _ h => by cases h)⟩⟩⟩, List.forall_mem_cons.2 ⟨by kernel_rfl, (fun _ h => by cases h)⟩, mixed⟩
/-- slices.medianAdjacentOrdered[string] -/
noncomputable def cx_slices_medianAdjacentOrdered_string (W0 : World) (S : Nat → Prop) (bs : List Nat := []) : Cx := ⟨Tryz.prog, W0, S, 15, [(3, ti3), (9, ti9), (95, ti95), (306, ti306)], [264], bs, none, []⟩
abbrev n_slices_medianAdjacentOrdered_string : FuncId := 263
theorem b_slices_medianAdjacentOrdered_string : Tryz.prog.funcs[n_slices_medianAdjacentOrdered_string]? = some Tryz.f263 := Tryz.func263
theorem good_slices_medianAdjacentOrdered_string (W0 : World) (S : Nat → Prop) (bs : List Nat := []) : Good (cx_slices_medianAdjacentOrdered_string W0 S bs) := ⟨List.forall_mem_cons.2 ⟨ok3, List.forall_mem_cons.2 ⟨ok9, List.forall_mem_cons.2 ⟨ok95, List.forall_mem_cons.2 ⟨ok306, (fun _ h => by cases h)⟩⟩⟩⟩, List.forall_mem_cons.2 ⟨by kernel_rfl, (fun _ h => by cases h)⟩, mixed⟩
/-- slices.medianOrdered[string] -/
noncomputable def cx_slices_medianOrdered_string (W0 : World) (S : Nat → Prop) (bs : List Nat := []) : Cx := ⟨Tryz.prog, W0, S, 36, [(3, ti3), (9, ti9), (95, ti95), (306, ti306)], [265], bs, none, []⟩
abbrev n_slices_medianOrdered_string : FuncId := 264
theorem b_slices_medianOrdered_string : Tryz.prog.funcs[n_slices_medianOrdered_string]? = some Tryz.f264 := Tryz.func264
theorem good_slices_medianOrdered_string (W0 : World) (S : Nat → Prop) (bs : List Nat := []) : Good (cx_slices_medianOrdered_string W0 S bs) := ⟨List.forall_mem_cons.2 ⟨ok3, List.forall_mem_cons.2 ⟨ok9, List.forall_mem_cons.2 ⟨ok95, List.forall_mem_cons.2 ⟨ok306, (fun _ h => by cases h)⟩⟩⟩⟩, List.forall_mem_cons.2 ⟨by kernel_rfl, (fun _ h => by cases h)⟩, mixed⟩
/-- slices.order2Ordered[string] -/
noncomputable def cx_slices_order2Ordered_string (W0 : World) (S : Nat → Prop) (bs : List Nat := []) : Cx := ⟨Tryz.prog, W0, S, 28, [(3, ti3), (9, ti9), (95, ti95)], [181], bs, none, []⟩
abbrev n_slices_order2Ordered_string : FuncId := 265
theorem b_slices_order2Ordered_string : Tryz.prog.funcs[n_slices_order2Ordered_string]? = some Tryz.f265 := Tryz.func265
def p_slices_order2Ordered_string_1 : Plan := .take 0 (.take 1 (.take 2 (.take 3 (.take 4 (.take 5 (.take 6 (.take 7 (.exec 8 (.done)))))))))
theorem good_slices_order2Ordered_string (W0 : World) (S : Nat → Prop) (bs : List Nat := []) : Good (cx_slices_order2Ordered_string W0 S bs) := ⟨List.forall_mem_cons.2 ⟨ok3, List.forall_mem_cons.2 ⟨ok9, List.forall_mem_cons.2 ⟨ok95, (fun _ h => by cases h)⟩⟩⟩, List.forall_mem_cons.2 ⟨by kernel_rfl, (fun _ h => by cases h)⟩, mixed⟩
end Go.Proofs.YthkjfepbmnabkaaGreatDoor.Sx
