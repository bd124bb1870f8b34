/- Texts joined: Tab, R1, Be, Shelf, Bld, Bl2, U32, ShaL, NamL, BoxL, Bk1, Hex, Sha1, Sha2, Sha3, Sha4. -/
import Derived.Test.YteenjgfbbkdlhaaGreatDoorMOrderBare2
import Derived.Test.YteenjgfbbkdlhaaGreatDoorProg
import Derived.Shelf.Strings.Builder1
import Derived.Shelf.Strings.Builder2
import Derived.Shelf.Strings.OnBuilder
import Derived.Shelf.Small.Bits
import Derived.Shelf.Small.Strs
import Derived.Shelf.Strconv.Atoi
import Derived.Shelf.Strconv.Itoa0
import Derived.Shelf.Strconv.Itoa1
import Derived.Shelf.LaysM
import Derived.Shelf.Strconv.Itoa2
import Derived.Shelf.Strconv.Itoa3
import Derived.Shelf.Strconv.AtoiErrFast
import Derived.Shelf.Strconv.ParseIntEmpty
import Derived.Shelf.Strconv.AtoiFail
import Derived.Shelf.Strconv.Clone
import Derived.Shelf.Strconv.SyntaxError
import Derived.Shelf.LaysC
import Derived.Shelf.Strconv.ToError
import Derived.Shelf.Strconv.AtoiErr
import Derived.Shelf.Strconv.Lower
import Derived.Shelf.Strconv.ParseUint10
import Derived.Shelf.Strconv.ParseUint10Empty
import Derived.Shelf.Strconv.ParseUint10Any
import Derived.Shelf.Strconv.ParseInt10
import Derived.Shelf.Strconv.AtoiLong
import Derived.Shelf.Strconv.AtoiInnerAll
import Derived.Shelf.Strconv.RangeError
import Derived.Shelf.Strconv.ToErrorRange
import Derived.Shelf.Strconv.AtoiAll
import Derived.Shelf.Strconv.ParseUintEmpty
import Derived.Shelf.Strconv.ParseUint10b64
import Derived.Shelf.Strconv.ParseUint10b32
import Derived.Shelf.Strconv.ParseUint10b16
import Derived.Shelf.Strconv.ParseUint10b8
import Derived.Shelf.Strconv.ParseUint10At
import Derived.Shelf.Strings.Search1
import Derived.Shelf.Strings.Search2
import Derived.Shelf.Strings.Search3
import Derived.Shelf.Strings.Cut
import Derived.Shelf.Strings.Count
import Derived.Shelf.Strings.Shaped
import Derived.Shelf.Sort.Plain
import Derived.Shelf.Strings.Prefix
import Derived.Shelf.Strings.Split
import Derived.Shelf.Bits.Mul64
import Derived.Shelf.Unicode.DecodeSlow
import Derived.Ground.Names2Prog
import Derived.Shelf.Slices.ReverseS
import Derived.Shelf.Slices.Clone
import Derived.Shelf.Slices.Delete
import Derived.Shelf.Slices.Cells
import Derived.Ground.SlbCloneProg
import Derived.Shelf.Bytes.SlClone
import Derived.Ground.SlbNamesProg
import Derived.Shelf.Bytes.SlJoin
import Derived.Ground.SlgnProg
import Derived.Shelf.SlicesE.Clone
set_option linter.unusedVariables false
set_option linter.unusedSimpArgs false
namespace Go.Proofs.YteenjgfbbkdlhaaGreatDoor.Sx
open Go
noncomputable def ti3 : TI := { desc := .int .i64, agg := false, size := 1, bytes := 8, zero := [.int .i64 0], fields := [], ftys := [] }
theorem ok3 : TiOk Tryz.prog 3 ti3 := ⟨by kernel_rfl, by kernel_rfl, rfl, by kernel_rfl, by kernel_rfl, by kernel_rfl⟩
noncomputable def ti4 : TI := { desc := .bool, agg := false, size := 1, bytes := 1, zero := [.bool false], fields := [], ftys := [] }
theorem ok4 : TiOk Tryz.prog 4 ti4 := ⟨by kernel_rfl, by kernel_rfl, rfl, by kernel_rfl, by kernel_rfl, by kernel_rfl⟩
noncomputable def ti5 : TI := { desc := .int .u8, agg := false, size := 1, bytes := 1, zero := [.int .u8 0], fields := [], ftys := [] }
theorem ok5 : TiOk Tryz.prog 5 ti5 := ⟨by kernel_rfl, by kernel_rfl, rfl, by kernel_rfl, by kernel_rfl, by kernel_rfl⟩
noncomputable def ti9 : TI := { desc := .string, agg := false, size := 1, bytes := 16, zero := [.string ByteArray.empty], fields := [], ftys := [] }
theorem ok9 : TiOk Tryz.prog 9 ti9 := ⟨by kernel_rfl, by kernel_rfl, rfl, by kernel_rfl, by kernel_rfl, by kernel_rfl⟩
noncomputable def ti21 : TI := { desc := .int .i32, agg := false, size := 1, bytes := 4, zero := [.int .i32 0], fields := [], ftys := [] }
theorem ok21 : TiOk Tryz.prog 21 ti21 := ⟨by kernel_rfl, by kernel_rfl, rfl, by kernel_rfl, by kernel_rfl, by kernel_rfl⟩
noncomputable def ti27 : TI := { desc := .pointer 47, agg := false, size := 1, bytes := 8, zero := [.pointer none], fields := [], ftys := [] }
theorem ok27 : TiOk Tryz.prog 27 ti27 := ⟨by kernel_rfl, by kernel_rfl, rfl, by kernel_rfl, by kernel_rfl, by kernel_rfl⟩
noncomputable def ti28 : TI := { desc := .int .i64, agg := false, size := 1, bytes := 8, zero := [.int .i64 0], fields := [], ftys := [] }
theorem ok28 : TiOk Tryz.prog 28 ti28 := ⟨by kernel_rfl, by kernel_rfl, rfl, by kernel_rfl, by kernel_rfl, by kernel_rfl⟩
noncomputable def ti32 : TI := { desc := .int .u64, agg := false, size := 1, bytes := 8, zero := [.int .u64 0], fields := [], ftys := [] }
theorem ok32 : TiOk Tryz.prog 32 ti32 := ⟨by kernel_rfl, by kernel_rfl, rfl, by kernel_rfl, by kernel_rfl, by kernel_rfl⟩
noncomputable def ti34 : TI := { desc := .slice 9, agg := false, size := 1, bytes := 24, zero := [.slice none 0 0], fields := [], ftys := [] }
theorem ok34 : TiOk Tryz.prog 34 ti34 := ⟨by kernel_rfl, by kernel_rfl, rfl, by kernel_rfl, by kernel_rfl, by kernel_rfl⟩
noncomputable def ti36 : TI := { desc := .struct, agg := true, size := 2, bytes := 40, zero := [.string ByteArray.empty, .slice none 0 0], fields := [(0, 1), (1, 1)], ftys := [9, 34] }
theorem ok36 : TiOk Tryz.prog 36 ti36 := ⟨by kernel_rfl, by kernel_rfl, rfl, by kernel_rfl, by kernel_rfl, by kernel_rfl⟩
noncomputable def ti38 : TI := { desc := .slice 48, agg := false, size := 1, bytes := 24, zero := [.slice none 0 0], fields := [], ftys := [] }
theorem ok38 : TiOk Tryz.prog 38 ti38 := ⟨by kernel_rfl, by kernel_rfl, rfl, by kernel_rfl, by kernel_rfl, by kernel_rfl⟩
noncomputable def ti39 : TI := { desc := .pointer 177, agg := false, size := 1, bytes := 8, zero := [.pointer none], fields := [], ftys := [] }
theorem ok39 : TiOk Tryz.prog 39 ti39 := ⟨by kernel_rfl, by kernel_rfl, rfl, by kernel_rfl, by kernel_rfl, by kernel_rfl⟩
noncomputable def ti40 : TI := { desc := .pointer 180, agg := false, size := 1, bytes := 8, zero := [.pointer none], fields := [], ftys := [] }
theorem ok40 : TiOk Tryz.prog 40 ti40 := ⟨by kernel_rfl, by kernel_rfl, rfl, by kernel_rfl, by kernel_rfl, by kernel_rfl⟩
noncomputable def ti41 : TI := { desc := .pointer 188, agg := false, size := 1, bytes := 8, zero := [.pointer none], fields := [], ftys := [] }
theorem ok41 : TiOk Tryz.prog 41 ti41 := ⟨by kernel_rfl, by kernel_rfl, rfl, by kernel_rfl, by kernel_rfl, by kernel_rfl⟩
noncomputable def ti42 : TI := { desc := .pointer 138, agg := false, size := 1, bytes := 8, zero := [.pointer none], fields := [], ftys := [] }
theorem ok42 : TiOk Tryz.prog 42 ti42 := ⟨by kernel_rfl, by kernel_rfl, rfl, by kernel_rfl, by kernel_rfl, by kernel_rfl⟩
noncomputable def ti43 : TI := { desc := .pointer 118, agg := false, size := 1, bytes := 8, zero := [.pointer none], fields := [], ftys := [] }
theorem ok43 : TiOk Tryz.prog 43 ti43 := ⟨by kernel_rfl, by kernel_rfl, rfl, by kernel_rfl, by kernel_rfl, by kernel_rfl⟩
noncomputable def ti44 : TI := { desc := .pointer 131, agg := false, size := 1, bytes := 8, zero := [.pointer none], fields := [], ftys := [] }
theorem ok44 : TiOk Tryz.prog 44 ti44 := ⟨by kernel_rfl, by kernel_rfl, rfl, by kernel_rfl, by kernel_rfl, by kernel_rfl⟩
noncomputable def ti45 : TI := { desc := .pointer 209, agg := false, size := 1, bytes := 8, zero := [.pointer none], fields := [], ftys := [] }
theorem ok45 : TiOk Tryz.prog 45 ti45 := ⟨by kernel_rfl, by kernel_rfl, rfl, by kernel_rfl, by kernel_rfl, by kernel_rfl⟩
noncomputable def ti47 : TI := { desc := .struct, agg := true, size := 7, bytes := 56, zero := [.pointer none, .pointer none, .pointer none, .pointer none, .pointer none, .pointer none, .pointer none], fields := [(0, 1), (1, 1), (2, 1), (3, 1), (4, 1), (5, 1), (6, 1)], ftys := [39, 40, 41, 42, 43, 44, 45] }
theorem ok47 : TiOk Tryz.prog 47 ti47 := ⟨by kernel_rfl, by kernel_rfl, rfl, by kernel_rfl, by kernel_rfl, by kernel_rfl⟩
noncomputable def ti48 : TI := { desc := .struct, agg := true, size := 2, bytes := 40, zero := [.string ByteArray.empty, .slice none 0 0], fields := [(0, 1), (1, 1)], ftys := [9, 34] }
theorem ok48 : TiOk Tryz.prog 48 ti48 := ⟨by kernel_rfl, by kernel_rfl, rfl, by kernel_rfl, by kernel_rfl, by kernel_rfl⟩
noncomputable def ti67 : TI := { desc := .struct, agg := true, size := 2, bytes := 24, zero := [.string ByteArray.empty, .int .i64 0], fields := [(0, 1), (1, 1)], ftys := [9, 3] }
theorem ok67 : TiOk Tryz.prog 67 ti67 := ⟨by kernel_rfl, by kernel_rfl, rfl, by kernel_rfl, by kernel_rfl, by kernel_rfl⟩
noncomputable def ti68 : TI := { desc := .array 19 67, agg := true, size := 38, bytes := 456, zero := [.string ByteArray.empty, .int .i64 0, .string ByteArray.empty, .int .i64 0, .string ByteArray.empty, .int .i64 0, .string ByteArray.empty, .int .i64 0, .string ByteArray.empty, .int .i64 0, .string ByteArray.empty, .int .i64 0, .string ByteArray.empty, .int .i64 0, .string ByteArray.empty, .int .i64 0, .string ByteArray.empty, .int .i64 0, .string ByteArray.empty, .int .i64 0, .string ByteArray.empty, .int .i64 0, .string ByteArray.empty, .int .i64 0, .string ByteArray.empty, .int .i64 0, .string ByteArray.empty, .int .i64 0, .string ByteArray.empty, .int .i64 0, .string ByteArray.empty, .int .i64 0, .string ByteArray.empty, .int .i64 0, .string ByteArray.empty, .int .i64 0, .string ByteArray.empty, .int .i64 0], fields := [], ftys := [] }
theorem ok68 : TiOk Tryz.prog 68 ti68 := ⟨by kernel_rfl, by kernel_rfl, rfl, by kernel_rfl, by kernel_rfl, by kernel_rfl⟩
noncomputable def ti79 : TI := { desc := .other, agg := false, size := 1, bytes := 8, zero := [.nilFunc], fields := [], ftys := [] }
theorem ok79 : TiOk Tryz.prog 79 ti79 := ⟨by kernel_rfl, by kernel_rfl, rfl, by kernel_rfl, by kernel_rfl, by kernel_rfl⟩
noncomputable def ti95 : TI := { desc := .struct, agg := true, size := 2, bytes := 16, zero := [.int .i64 0, .int .u64 0], fields := [(0, 1), (1, 1)], ftys := [3, 32] }
theorem ok95 : TiOk Tryz.prog 95 ti95 := ⟨by kernel_rfl, by kernel_rfl, rfl, by kernel_rfl, by kernel_rfl, by kernel_rfl⟩
noncomputable def ti99 : TI := { desc := .struct, agg := true, size := 4, bytes := 32, zero := [.int .i64 0, .int .u64 0, .int .u64 0, .int .u64 0], fields := [(0, 1), (1, 1), (2, 1), (3, 1)], ftys := [3, 32, 32, 32] }
theorem ok99 : TiOk Tryz.prog 99 ti99 := ⟨by kernel_rfl, by kernel_rfl, rfl, by kernel_rfl, by kernel_rfl, by kernel_rfl⟩
noncomputable def ti102 : TI := { desc := .slice 5, agg := false, size := 1, bytes := 24, zero := [.slice none 0 0], fields := [], ftys := [] }
theorem ok102 : TiOk Tryz.prog 102 ti102 := ⟨by kernel_rfl, by kernel_rfl, rfl, by kernel_rfl, by kernel_rfl, by kernel_rfl⟩
noncomputable def ti110 : TI := { desc := .struct, agg := true, size := 5, bytes := 104, zero := [.slice none 0 0, .int .i64 0, .slice none 0 0, .slice none 0 0, .slice none 0 0], fields := [(0, 1), (1, 1), (2, 1), (3, 1), (4, 1)], ftys := [102, 3, 102, 102, 102] }
theorem ok110 : TiOk Tryz.prog 110 ti110 := ⟨by kernel_rfl, by kernel_rfl, rfl, by kernel_rfl, by kernel_rfl, by kernel_rfl⟩
noncomputable def ti116 : TI := { desc := .map 32 102, agg := false, size := 1, bytes := 8, zero := [.map none], fields := [], ftys := [] }
theorem ok116 : TiOk Tryz.prog 116 ti116 := ⟨by kernel_rfl, by kernel_rfl, rfl, by kernel_rfl, by kernel_rfl, by kernel_rfl⟩
noncomputable def ti118 : TI := { desc := .struct, agg := true, size := 5, bytes := 56, zero := [.pointer none, .slice none 0 0, .int .i64 0, .map none, .int .u64 0], fields := [(0, 1), (1, 1), (2, 1), (3, 1), (4, 1)], ftys := [39, 102, 3, 116, 32] }
theorem ok118 : TiOk Tryz.prog 118 ti118 := ⟨by kernel_rfl, by kernel_rfl, rfl, by kernel_rfl, by kernel_rfl, by kernel_rfl⟩
noncomputable def ti122 : TI := { desc := .other, agg := false, size := 1, bytes := 8, zero := [.nilFunc], fields := [], ftys := [] }
theorem ok122 : TiOk Tryz.prog 122 ti122 := ⟨by kernel_rfl, by kernel_rfl, rfl, by kernel_rfl, by kernel_rfl, by kernel_rfl⟩
noncomputable def ti128 : TI := { desc := .map 32 32, agg := false, size := 1, bytes := 8, zero := [.map none], fields := [], ftys := [] }
theorem ok128 : TiOk Tryz.prog 128 ti128 := ⟨by kernel_rfl, by kernel_rfl, rfl, by kernel_rfl, by kernel_rfl, by kernel_rfl⟩
noncomputable def ti129 : TI := { desc := .map 32 4, agg := false, size := 1, bytes := 8, zero := [.map none], fields := [], ftys := [] }
theorem ok129 : TiOk Tryz.prog 129 ti129 := ⟨by kernel_rfl, by kernel_rfl, rfl, by kernel_rfl, by kernel_rfl, by kernel_rfl⟩
noncomputable def ti131 : TI := { desc := .struct, agg := true, size := 5, bytes := 40, zero := [.pointer none, .int .u64 0, .int .u64 0, .map none, .map none], fields := [(0, 1), (1, 1), (2, 1), (3, 1), (4, 1)], ftys := [43, 32, 32, 128, 129] }
theorem ok131 : TiOk Tryz.prog 131 ti131 := ⟨by kernel_rfl, by kernel_rfl, rfl, by kernel_rfl, by kernel_rfl, by kernel_rfl⟩
noncomputable def ti133 : TI := { desc := .struct, agg := true, size := 4, bytes := 40, zero := [.string ByteArray.empty, .int .i64 0, .int .u64 0, .int .u64 0], fields := [(0, 1), (1, 1), (2, 1), (3, 1)], ftys := [9, 3, 32, 32] }
theorem ok133 : TiOk Tryz.prog 133 ti133 := ⟨by kernel_rfl, by kernel_rfl, rfl, by kernel_rfl, by kernel_rfl, by kernel_rfl⟩
noncomputable def ti136 : TI := { desc := .pointer 233, agg := false, size := 1, bytes := 8, zero := [.pointer none], fields := [], ftys := [] }
theorem ok136 : TiOk Tryz.prog 136 ti136 := ⟨by kernel_rfl, by kernel_rfl, rfl, by kernel_rfl, by kernel_rfl, by kernel_rfl⟩
noncomputable def ti138 : TI := { desc := .struct, agg := true, size := 5, bytes := 40, zero := [.int .i64 0, .int .u64 0, .int .u64 0, .int .u64 0, .pointer none], fields := [(0, 4), (4, 1)], ftys := [99, 136] }
theorem ok138 : TiOk Tryz.prog 138 ti138 := ⟨by kernel_rfl, by kernel_rfl, rfl, by kernel_rfl, by kernel_rfl, by kernel_rfl⟩
noncomputable def ti140 : TI := { desc := .slice 3, agg := false, size := 1, bytes := 24, zero := [.slice none 0 0], fields := [], ftys := [] }
theorem ok140 : TiOk Tryz.prog 140 ti140 := ⟨by kernel_rfl, by kernel_rfl, rfl, by kernel_rfl, by kernel_rfl, by kernel_rfl⟩
noncomputable def ti143 : TI := { desc := .struct, agg := true, size := 10, bytes := 176, zero := [.string ByteArray.empty, .string ByteArray.empty, .slice none 0 0, .int .i64 0, .slice none 0 0, .slice none 0 0, .slice none 0 0, .int .u64 0, .slice none 0 0, .bool false], fields := [(0, 1), (1, 1), (2, 5), (7, 1), (8, 1), (9, 1)], ftys := [9, 9, 110, 32, 34, 4] }
theorem ok143 : TiOk Tryz.prog 143 ti143 := ⟨by kernel_rfl, by kernel_rfl, rfl, by kernel_rfl, by kernel_rfl, by kernel_rfl⟩
noncomputable def ti146 : TI := { desc := .pointer 148, agg := false, size := 1, bytes := 8, zero := [.pointer none], fields := [], ftys := [] }
theorem ok146 : TiOk Tryz.prog 146 ti146 := ⟨by kernel_rfl, by kernel_rfl, rfl, by kernel_rfl, by kernel_rfl, by kernel_rfl⟩
noncomputable def ti148 : TI := { desc := .struct, agg := true, size := 2, bytes := 32, zero := [.pointer none, .slice none 0 0], fields := [(0, 1), (1, 1)], ftys := [146, 102] }
theorem ok148 : TiOk Tryz.prog 148 ti148 := ⟨by kernel_rfl, by kernel_rfl, rfl, by kernel_rfl, by kernel_rfl, by kernel_rfl⟩
noncomputable def ti153 : TI := { desc := .struct, agg := true, size := 6, bytes := 72, zero := [.bool false, .string ByteArray.empty, .string ByteArray.empty, .string ByteArray.empty, .int .i64 0, .int .i64 0], fields := [(0, 1), (1, 1), (2, 1), (3, 1), (4, 1), (5, 1)], ftys := [4, 9, 9, 9, 3, 3] }
theorem ok153 : TiOk Tryz.prog 153 ti153 := ⟨by kernel_rfl, by kernel_rfl, rfl, by kernel_rfl, by kernel_rfl, by kernel_rfl⟩
noncomputable def ti155 : TI := { desc := .other, agg := false, size := 1, bytes := 16, zero := [.nilIface], fields := [], ftys := [] }
theorem ok155 : TiOk Tryz.prog 155 ti155 := ⟨by kernel_rfl, by kernel_rfl, rfl, by kernel_rfl, by kernel_rfl, by kernel_rfl⟩
noncomputable def ti159 : TI := { desc := .other, agg := false, size := 1, bytes := 8, zero := [.nilFunc], fields := [], ftys := [] }
theorem ok159 : TiOk Tryz.prog 159 ti159 := ⟨by kernel_rfl, by kernel_rfl, rfl, by kernel_rfl, by kernel_rfl, by kernel_rfl⟩
noncomputable def ti161 : TI := { desc := .slice 143, agg := false, size := 1, bytes := 24, zero := [.slice none 0 0], fields := [], ftys := [] }
theorem ok161 : TiOk Tryz.prog 161 ti161 := ⟨by kernel_rfl, by kernel_rfl, rfl, by kernel_rfl, by kernel_rfl, by kernel_rfl⟩
noncomputable def ti164 : TI := { desc := .other, agg := false, size := 1, bytes := 8, zero := [.nilFunc], fields := [], ftys := [] }
theorem ok164 : TiOk Tryz.prog 164 ti164 := ⟨by kernel_rfl, by kernel_rfl, rfl, by kernel_rfl, by kernel_rfl, by kernel_rfl⟩
noncomputable def ti174 : TI := { desc := .map 9 3, agg := false, size := 1, bytes := 8, zero := [.map none], fields := [], ftys := [] }
theorem ok174 : TiOk Tryz.prog 174 ti174 := ⟨by kernel_rfl, by kernel_rfl, rfl, by kernel_rfl, by kernel_rfl, by kernel_rfl⟩
noncomputable def ti175 : TI := { desc := .slice 219, agg := false, size := 1, bytes := 24, zero := [.slice none 0 0], fields := [], ftys := [] }
theorem ok175 : TiOk Tryz.prog 175 ti175 := ⟨by kernel_rfl, by kernel_rfl, rfl, by kernel_rfl, by kernel_rfl, by kernel_rfl⟩
noncomputable def ti177 : TI := { desc := .struct, agg := true, size := 4, bytes := 40, zero := [.bool false, .bool false, .slice none 0 0, .map none], fields := [(0, 1), (1, 1), (2, 1), (3, 1)], ftys := [4, 4, 175, 174] }
theorem ok177 : TiOk Tryz.prog 177 ti177 := ⟨by kernel_rfl, by kernel_rfl, rfl, by kernel_rfl, by kernel_rfl, by kernel_rfl⟩
noncomputable def ti178 : TI := { desc := .map 9 194, agg := false, size := 1, bytes := 8, zero := [.map none], fields := [], ftys := [] }
theorem ok178 : TiOk Tryz.prog 178 ti178 := ⟨by kernel_rfl, by kernel_rfl, rfl, by kernel_rfl, by kernel_rfl, by kernel_rfl⟩
noncomputable def ti180 : TI := { desc := .struct, agg := true, size := 3, bytes := 24, zero := [.map none, .int .u64 0, .int .u64 0], fields := [(0, 1), (1, 1), (2, 1)], ftys := [178, 32, 32] }
theorem ok180 : TiOk Tryz.prog 180 ti180 := ⟨by kernel_rfl, by kernel_rfl, rfl, by kernel_rfl, by kernel_rfl, by kernel_rfl⟩
noncomputable def ti181 : TI := { desc := .pointer 251, agg := false, size := 1, bytes := 8, zero := [.pointer none], fields := [], ftys := [] }
theorem ok181 : TiOk Tryz.prog 181 ti181 := ⟨by kernel_rfl, by kernel_rfl, rfl, by kernel_rfl, by kernel_rfl, by kernel_rfl⟩
noncomputable def ti184 : TI := { desc := .int .u32, agg := false, size := 1, bytes := 4, zero := [.int .u32 0], fields := [], ftys := [] }
theorem ok184 : TiOk Tryz.prog 184 ti184 := ⟨by kernel_rfl, by kernel_rfl, rfl, by kernel_rfl, by kernel_rfl, by kernel_rfl⟩
noncomputable def ti186 : TI := { desc := .struct, agg := true, size := 4, bytes := 32, zero := [.string ByteArray.empty, .int .u64 0, .bool false, .int .u32 0], fields := [(0, 1), (1, 1), (2, 1), (3, 1)], ftys := [9, 32, 4, 184] }
theorem ok186 : TiOk Tryz.prog 186 ti186 := ⟨by kernel_rfl, by kernel_rfl, rfl, by kernel_rfl, by kernel_rfl, by kernel_rfl⟩
noncomputable def ti188 : TI := { desc := .struct, agg := true, size := 7, bytes := 56, zero := [.int .i64 0, .int .u64 0, .pointer none, .int .u64 0, .int .u64 0, .int .u64 0, .bool false], fields := [(0, 2), (2, 1), (3, 1), (4, 1), (5, 1), (6, 1)], ftys := [95, 181, 32, 32, 32, 4] }
theorem ok188 : TiOk Tryz.prog 188 ti188 := ⟨by kernel_rfl, by kernel_rfl, rfl, by kernel_rfl, by kernel_rfl, by kernel_rfl⟩
noncomputable def ti194 : TI := { desc := .map 9 196, agg := false, size := 1, bytes := 8, zero := [.map none], fields := [], ftys := [] }
theorem ok194 : TiOk Tryz.prog 194 ti194 := ⟨by kernel_rfl, by kernel_rfl, rfl, by kernel_rfl, by kernel_rfl, by kernel_rfl⟩
noncomputable def ti196 : TI := { desc := .pointer 143, agg := false, size := 1, bytes := 8, zero := [.pointer none], fields := [], ftys := [] }
theorem ok196 : TiOk Tryz.prog 196 ti196 := ⟨by kernel_rfl, by kernel_rfl, rfl, by kernel_rfl, by kernel_rfl, by kernel_rfl⟩
noncomputable def ti207 : TI := { desc := .slice 153, agg := false, size := 1, bytes := 24, zero := [.slice none 0 0], fields := [], ftys := [] }
theorem ok207 : TiOk Tryz.prog 207 ti207 := ⟨by kernel_rfl, by kernel_rfl, rfl, by kernel_rfl, by kernel_rfl, by kernel_rfl⟩
noncomputable def ti209 : TI := { desc := .struct, agg := true, size := 1, bytes := 24, zero := [.slice none 0 0], fields := [(0, 1)], ftys := [207] }
theorem ok209 : TiOk Tryz.prog 209 ti209 := ⟨by kernel_rfl, by kernel_rfl, rfl, by kernel_rfl, by kernel_rfl, by kernel_rfl⟩
noncomputable def ti215 : TI := { desc := .slice 102, agg := false, size := 1, bytes := 24, zero := [.slice none 0 0], fields := [], ftys := [] }
theorem ok215 : TiOk Tryz.prog 215 ti215 := ⟨by kernel_rfl, by kernel_rfl, rfl, by kernel_rfl, by kernel_rfl, by kernel_rfl⟩
noncomputable def ti219 : TI := { desc := .struct, agg := true, size := 6, bytes := 112, zero := [.int .i64 0, .slice none 0 0, .slice none 0 0, .int .i64 0, .slice none 0 0, .slice none 0 0], fields := [(0, 1), (1, 1), (2, 1), (3, 1), (4, 1), (5, 1)], ftys := [3, 102, 102, 3, 140, 102] }
theorem ok219 : TiOk Tryz.prog 219 ti219 := ⟨by kernel_rfl, by kernel_rfl, rfl, by kernel_rfl, by kernel_rfl, by kernel_rfl⟩
noncomputable def ti221 : TI := { desc := .slice 32, agg := false, size := 1, bytes := 24, zero := [.slice none 0 0], fields := [], ftys := [] }
theorem ok221 : TiOk Tryz.prog 221 ti221 := ⟨by kernel_rfl, by kernel_rfl, rfl, by kernel_rfl, by kernel_rfl, by kernel_rfl⟩
noncomputable def ti230 : TI := { desc := .struct, agg := true, size := 7, bytes := 72, zero := [.string ByteArray.empty, .string ByteArray.empty, .int .i64 0, .int .u64 0, .int .u64 0, .int .i64 0, .int .i64 0], fields := [(0, 1), (1, 4), (5, 1), (6, 1)], ftys := [9, 133, 3, 3] }
theorem ok230 : TiOk Tryz.prog 230 ti230 := ⟨by kernel_rfl, by kernel_rfl, rfl, by kernel_rfl, by kernel_rfl, by kernel_rfl⟩
noncomputable def ti231 : TI := { desc := .slice 230, agg := false, size := 1, bytes := 24, zero := [.slice none 0 0], fields := [], ftys := [] }
theorem ok231 : TiOk Tryz.prog 231 ti231 := ⟨by kernel_rfl, by kernel_rfl, rfl, by kernel_rfl, by kernel_rfl, by kernel_rfl⟩
noncomputable def ti233 : TI := { desc := .struct, agg := true, size := 6, bytes := 80, zero := [.int .i64 0, .slice none 0 0, .slice none 0 0, .map none, .int .i64 0, .int .i64 0], fields := [(0, 1), (1, 1), (2, 1), (3, 1), (4, 1), (5, 1)], ftys := [3, 231, 140, 174, 3, 3] }
theorem ok233 : TiOk Tryz.prog 233 ti233 := ⟨by kernel_rfl, by kernel_rfl, rfl, by kernel_rfl, by kernel_rfl, by kernel_rfl⟩
noncomputable def ti236 : TI := { desc := .other, agg := false, size := 1, bytes := 8, zero := [.nilFunc], fields := [], ftys := [] }
theorem ok236 : TiOk Tryz.prog 236 ti236 := ⟨by kernel_rfl, by kernel_rfl, rfl, by kernel_rfl, by kernel_rfl, by kernel_rfl⟩
noncomputable def ti239 : TI := { desc := .other, agg := false, size := 1, bytes := 8, zero := [.nilFunc], fields := [], ftys := [] }
theorem ok239 : TiOk Tryz.prog 239 ti239 := ⟨by kernel_rfl, by kernel_rfl, rfl, by kernel_rfl, by kernel_rfl, by kernel_rfl⟩
noncomputable def ti243 : TI := { desc := .pointer 5, agg := false, size := 1, bytes := 8, zero := [.pointer none], fields := [], ftys := [] }
theorem ok243 : TiOk Tryz.prog 243 ti243 := ⟨by kernel_rfl, by kernel_rfl, rfl, by kernel_rfl, by kernel_rfl, by kernel_rfl⟩
noncomputable def ti249 : TI := { desc := .slice 312, agg := false, size := 1, bytes := 24, zero := [.slice none 0 0], fields := [], ftys := [] }
theorem ok249 : TiOk Tryz.prog 249 ti249 := ⟨by kernel_rfl, by kernel_rfl, rfl, by kernel_rfl, by kernel_rfl, by kernel_rfl⟩
noncomputable def ti251 : TI := { desc := .struct, agg := true, size := 6, bytes := 80, zero := [.int .i64 0, .slice none 0 0, .slice none 0 0, .map none, .int .i64 0, .int .i64 0], fields := [(0, 1), (1, 1), (2, 1), (3, 1), (4, 1), (5, 1)], ftys := [3, 249, 140, 174, 3, 3] }
theorem ok251 : TiOk Tryz.prog 251 ti251 := ⟨by kernel_rfl, by kernel_rfl, rfl, by kernel_rfl, by kernel_rfl, by kernel_rfl⟩
noncomputable def ti252 : TI := { desc := .int .u64, agg := false, size := 1, bytes := 8, zero := [.int .u64 0], fields := [], ftys := [] }
theorem ok252 : TiOk Tryz.prog 252 ti252 := ⟨by kernel_rfl, by kernel_rfl, rfl, by kernel_rfl, by kernel_rfl, by kernel_rfl⟩
noncomputable def ti268 : TI := { desc := .array 24 5, agg := true, size := 24, bytes := 24, zero := [.int .u8 0, .int .u8 0, .int .u8 0, .int .u8 0, .int .u8 0, .int .u8 0, .int .u8 0, .int .u8 0, .int .u8 0, .int .u8 0, .int .u8 0, .int .u8 0, .int .u8 0, .int .u8 0, .int .u8 0, .int .u8 0, .int .u8 0, .int .u8 0, .int .u8 0, .int .u8 0, .int .u8 0, .int .u8 0, .int .u8 0, .int .u8 0], fields := [], ftys := [] }
theorem ok268 : TiOk Tryz.prog 268 ti268 := ⟨by kernel_rfl, by kernel_rfl, rfl, by kernel_rfl, by kernel_rfl, by kernel_rfl⟩
noncomputable def ti290 : TI := { desc := .array 8 184, agg := true, size := 8, bytes := 32, zero := [.int .u32 0, .int .u32 0, .int .u32 0, .int .u32 0, .int .u32 0, .int .u32 0, .int .u32 0, .int .u32 0], fields := [], ftys := [] }
theorem ok290 : TiOk Tryz.prog 290 ti290 := ⟨by kernel_rfl, by kernel_rfl, rfl, by kernel_rfl, by kernel_rfl, by kernel_rfl⟩
noncomputable def ti291 : TI := { desc := .array 8 184, agg := true, size := 8, bytes := 32, zero := [.int .u32 0, .int .u32 0, .int .u32 0, .int .u32 0, .int .u32 0, .int .u32 0, .int .u32 0, .int .u32 0], fields := [], ftys := [] }
theorem ok291 : TiOk Tryz.prog 291 ti291 := ⟨by kernel_rfl, by kernel_rfl, rfl, by kernel_rfl, by kernel_rfl, by kernel_rfl⟩
noncomputable def ti293 : TI := { desc := .other, agg := false, size := 1, bytes := 8, zero := [.nilFunc], fields := [], ftys := [] }
theorem ok293 : TiOk Tryz.prog 293 ti293 := ⟨by kernel_rfl, by kernel_rfl, rfl, by kernel_rfl, by kernel_rfl, by kernel_rfl⟩
noncomputable def ti312 : TI := { desc := .struct, agg := true, size := 7, bytes := 64, zero := [.string ByteArray.empty, .string ByteArray.empty, .int .u64 0, .bool false, .int .u32 0, .int .i64 0, .int .i64 0], fields := [(0, 1), (1, 4), (5, 1), (6, 1)], ftys := [9, 186, 3, 3] }
theorem ok312 : TiOk Tryz.prog 312 ti312 := ⟨by kernel_rfl, by kernel_rfl, rfl, by kernel_rfl, by kernel_rfl, by kernel_rfl⟩
noncomputable def ti322 : TI := { desc := .slice 324, agg := false, size := 1, bytes := 24, zero := [.slice none 0 0], fields := [], ftys := [] }
theorem ok322 : TiOk Tryz.prog 322 ti322 := ⟨by kernel_rfl, by kernel_rfl, rfl, by kernel_rfl, by kernel_rfl, by kernel_rfl⟩
noncomputable def ti324 : TI := { desc := .struct, agg := true, size := 2, bytes := 8, zero := [.int .i32 0, .int .i32 0], fields := [(0, 1), (1, 1)], ftys := [21, 21] }
theorem ok324 : TiOk Tryz.prog 324 ti324 := ⟨by kernel_rfl, by kernel_rfl, rfl, by kernel_rfl, by kernel_rfl, by kernel_rfl⟩
noncomputable def ti325 : TI := { desc := .array 9 324, agg := true, size := 18, bytes := 72, zero := [.int .i32 0, .int .i32 0, .int .i32 0, .int .i32 0, .int .i32 0, .int .i32 0, .int .i32 0, .int .i32 0, .int .i32 0, .int .i32 0, .int .i32 0, .int .i32 0, .int .i32 0, .int .i32 0, .int .i32 0, .int .i32 0, .int .i32 0, .int .i32 0], fields := [], ftys := [] }
theorem ok325 : TiOk Tryz.prog 325 ti325 := ⟨by kernel_rfl, by kernel_rfl, rfl, by kernel_rfl, by kernel_rfl, by kernel_rfl⟩
noncomputable def ti332 : TI := { desc := .array 64 184, agg := true, size := 64, bytes := 256, zero := List.replicate 64 (.int .u32 0), fields := [], ftys := [] }
theorem ok332 : TiOk Tryz.prog 332 ti332 := ⟨by kernel_rfl, by kernel_rfl, rfl, by kernel_rfl, by kernel_rfl, by kernel_rfl⟩
noncomputable def ti339 : TI := { desc := .int .i64, agg := false, size := 1, bytes := 8, zero := [.int .i64 0], fields := [], ftys := [] }
theorem ok339 : TiOk Tryz.prog 339 ti339 := ⟨by kernel_rfl, by kernel_rfl, rfl, by kernel_rfl, by kernel_rfl, by kernel_rfl⟩
noncomputable def ti355 : TI := { desc := .pointer 390, agg := false, size := 1, bytes := 8, zero := [.pointer none], fields := [], ftys := [] }
theorem ok355 : TiOk Tryz.prog 355 ti355 := ⟨by kernel_rfl, by kernel_rfl, rfl, by kernel_rfl, by kernel_rfl, by kernel_rfl⟩
noncomputable def ti362 : TI := { desc := .other, agg := false, size := 1, bytes := 8, zero := [.nilFunc], fields := [], ftys := [] }
theorem ok362 : TiOk Tryz.prog 362 ti362 := ⟨by kernel_rfl, by kernel_rfl, rfl, by kernel_rfl, by kernel_rfl, by kernel_rfl⟩
noncomputable def ti363 : TI := { desc := .array 6 324, agg := true, size := 12, bytes := 48, zero := [.int .i32 0, .int .i32 0, .int .i32 0, .int .i32 0, .int .i32 0, .int .i32 0, .int .i32 0, .int .i32 0, .int .i32 0, .int .i32 0, .int .i32 0, .int .i32 0], fields := [], ftys := [] }
theorem ok363 : TiOk Tryz.prog 363 ti363 := ⟨by kernel_rfl, by kernel_rfl, rfl, by kernel_rfl, by kernel_rfl, by kernel_rfl⟩
noncomputable def ti364 : TI := { desc := .array 5 324, agg := true, size := 10, bytes := 40, zero := [.int .i32 0, .int .i32 0, .int .i32 0, .int .i32 0, .int .i32 0, .int .i32 0, .int .i32 0, .int .i32 0, .int .i32 0, .int .i32 0], fields := [], ftys := [] }
theorem ok364 : TiOk Tryz.prog 364 ti364 := ⟨by kernel_rfl, by kernel_rfl, rfl, by kernel_rfl, by kernel_rfl, by kernel_rfl⟩
noncomputable def ti366 : TI := { desc := .struct, agg := true, size := 4, bytes := 16, zero := [.int .i64 0, .int .u8 0, .int .u8 0, .int .i32 0], fields := [(0, 1), (1, 1), (2, 1), (3, 1)], ftys := [3, 5, 5, 21] }
theorem ok366 : TiOk Tryz.prog 366 ti366 := ⟨by kernel_rfl, by kernel_rfl, rfl, by kernel_rfl, by kernel_rfl, by kernel_rfl⟩
noncomputable def ti367 : TI := { desc := .array 4 366, agg := true, size := 16, bytes := 64, zero := [.int .i64 0, .int .u8 0, .int .u8 0, .int .i32 0, .int .i64 0, .int .u8 0, .int .u8 0, .int .i32 0, .int .i64 0, .int .u8 0, .int .u8 0, .int .i32 0, .int .i64 0, .int .u8 0, .int .u8 0, .int .i32 0], fields := [], ftys := [] }
theorem ok367 : TiOk Tryz.prog 367 ti367 := ⟨by kernel_rfl, by kernel_rfl, rfl, by kernel_rfl, by kernel_rfl, by kernel_rfl⟩
noncomputable def ti387 : TI := { desc := .pointer 401, agg := false, size := 1, bytes := 8, zero := [.pointer none], fields := [], ftys := [] }
theorem ok387 : TiOk Tryz.prog 387 ti387 := ⟨by kernel_rfl, by kernel_rfl, rfl, by kernel_rfl, by kernel_rfl, by kernel_rfl⟩
noncomputable def ti390 : TI := { desc := .struct, agg := true, size := 3, bytes := 24, zero := [.pointer none, .pointer none, .pointer none], fields := [(0, 1), (1, 1), (2, 1)], ftys := [387, 387, 387] }
theorem ok390 : TiOk Tryz.prog 390 ti390 := ⟨by kernel_rfl, by kernel_rfl, rfl, by kernel_rfl, by kernel_rfl, by kernel_rfl⟩
noncomputable def ti401 : TI := { desc := .struct, agg := true, size := 10, bytes := 64, zero := [.int .u32 0, .int .u32 0, .int .u32 0, .int .u32 0, .int .u32 0, .int .u32 0, .int .u32 0, .int .u32 0, .slice none 0 0, .int .u64 0], fields := [(0, 8), (8, 1), (9, 1)], ftys := [291, 102, 32] }
theorem ok401 : TiOk Tryz.prog 401 ti401 := ⟨by kernel_rfl, by kernel_rfl, rfl, by kernel_rfl, by kernel_rfl, by kernel_rfl⟩
abbrev ty_int : TypeId := 3
abbrev ty_bool : TypeId := 4
abbrev ty_uint8 : TypeId := 5
abbrev ty_string : TypeId := 9
abbrev ty_ptr_order_Hands : TypeId := 27
abbrev ty_api_Errno : TypeId := 28
abbrev ty_uint64 : TypeId := 32
abbrev ty_sl_string : TypeId := 34
abbrev ty_order_Command : TypeId := 36
abbrev ty_sl_ostiaryref24_Command : TypeId := 38
abbrev ty_ptr_cred_Store : TypeId := 40
abbrev ty_ptr_ring_Ring : TypeId := 43
abbrev ty_ptr_rule_Policy : TypeId := 45
abbrev ty_order_Hands : TypeId := 47
abbrev ty_ostiaryref24_Command : TypeId := 48
abbrev ty_sl_uint8 : TypeId := 102
abbrev ty_cred_Secret : TypeId := 110
abbrev ty_map_uint64_sl_uint8 : TypeId := 116
abbrev ty_ring_Ring : TypeId := 118
abbrev ty_ticket_Desk : TypeId := 131
abbrev ty_cred_Cred : TypeId := 143
abbrev ty_strings_Builder : TypeId := 148
abbrev ty_rule_Rule : TypeId := 153
abbrev ty_map_string_int : TypeId := 174
abbrev ty_box_Box : TypeId := 177
abbrev ty_map_string_map_string_ptr_cred_Cred : TypeId := 178
abbrev ty_cred_Store : TypeId := 180
abbrev ty_map_string_ptr_cred_Cred : TypeId := 194
abbrev ty_ptr_cred_Cred : TypeId := 196
abbrev ty_rule_Policy : TypeId := 209
abbrev ty_box_Term : TypeId := 219
abbrev ty_sl_uint64 : TypeId := 221
abbrev ty_ptr_uint8 : TypeId := 243
abbrev ty_name_form : TypeId := 366
abbrev ty_hmac_Mac : TypeId := 390
abbrev ty_sha_Hash : TypeId := 401
theorem mixed : Tryz.prog.follows .mixedOrders = true := by kernel_rfl
noncomputable def cx_ostiarylaw24_OrderBare (W0 : World) (S : Nat → Prop) (bs : List Nat := []) : Cx := ⟨Tryz.prog, W0, S, 50, [(3, ti3), (9, ti9), (27, ti27), (28, ti28), (32, ti32), (34, ti34), (36, ti36), (38, ti38), (39, ti39), (40, ti40), (41, ti41), (42, ti42), (43, ti43), (44, ti44), (45, ti45), (47, ti47), (48, ti48)], [7, 12, 13], bs, none, []⟩
abbrev n_ostiarylaw24_OrderBare : FuncId := 4
theorem b_ostiarylaw24_OrderBare : Tryz.prog.funcs[n_ostiarylaw24_OrderBare]? = some Tryz.f4 := Tryz.func4
theorem good_ostiarylaw24_OrderBare (W0 : World) (S : Nat → Prop) (bs : List Nat := []) : Good (cx_ostiarylaw24_OrderBare W0 S bs) := ⟨fmc ⟨ok3, fmc ⟨ok9, fmc ⟨ok27, fmc ⟨ok28, fmc ⟨ok32, fmc ⟨ok34, fmc ⟨ok36, fmc ⟨ok38, fmc ⟨ok39, fmc ⟨ok40, fmc ⟨ok41, fmc ⟨ok42, fmc ⟨ok43, fmc ⟨ok44, fmc ⟨ok45, fmc ⟨ok47, fmc ⟨ok48, (fun _ h => by cases h)⟩⟩⟩⟩⟩⟩⟩⟩⟩⟩⟩⟩⟩⟩⟩⟩⟩, fmc ⟨by kernel_rfl, fmc ⟨by kernel_rfl, fmc ⟨by kernel_rfl, (fun _ h => by cases h)⟩⟩⟩, mixed⟩
noncomputable def cx_ostiarylaw24_awake (W0 : World) (S : Nat → Prop) (bs : List Nat := []) : Cx := ⟨Tryz.prog, W0, S, 46, [(3, ti3), (4, ti4), (9, ti9), (27, ti27), (28, ti28), (32, ti32)], [10, 21], bs, none, []⟩
abbrev n_ostiarylaw24_awake : FuncId := 7
theorem b_ostiarylaw24_awake : Tryz.prog.funcs[n_ostiarylaw24_awake]? = some Tryz.f7 := Tryz.func7
theorem good_ostiarylaw24_awake (W0 : World) (S : Nat → Prop) (bs : List Nat := []) : Good (cx_ostiarylaw24_awake W0 S bs) := ⟨fmc ⟨ok3, fmc ⟨ok4, fmc ⟨ok9, fmc ⟨ok27, fmc ⟨ok28, fmc ⟨ok32, (fun _ h => by cases h)⟩⟩⟩⟩⟩⟩, fmc ⟨by kernel_rfl, fmc ⟨by kernel_rfl, (fun _ h => by cases h)⟩⟩, mixed⟩
noncomputable def cx_order_Verbs (W0 : World) (S : Nat → Prop) (bs : List Nat := []) : Cx := ⟨Tryz.prog, W0, S, 1, [], [22], bs, none, []⟩
abbrev n_order_Verbs : FuncId := 8
theorem b_order_Verbs : Tryz.prog.funcs[n_order_Verbs]? = some Tryz.f8 := Tryz.func8
theorem good_order_Verbs (W0 : World) (S : Nat → Prop) (bs : List Nat := []) : Good (cx_order_Verbs W0 S bs) := ⟨(fun _ h => by cases h), fmc ⟨by kernel_rfl, (fun _ h => by cases h)⟩, mixed⟩
noncomputable def cx_order_Hands_Do (W0 : World) (S : Nat → Prop) (bs : List Nat := []) : Cx := ⟨Tryz.prog, W0, S, 26, [(9, ti9), (27, ti27), (28, ti28), (32, ti32), (34, ti34), (36, ti36)], [12, 16], bs, none, []⟩
abbrev n_order_Hands_Do : FuncId := 10
theorem b_order_Hands_Do : Tryz.prog.funcs[n_order_Hands_Do]? = some Tryz.f10 := Tryz.func10
theorem good_order_Hands_Do (W0 : World) (S : Nat → Prop) (bs : List Nat := []) : Good (cx_order_Hands_Do W0 S bs) := ⟨fmc ⟨ok9, fmc ⟨ok27, fmc ⟨ok28, fmc ⟨ok32, fmc ⟨ok34, fmc ⟨ok36, (fun _ h => by cases h)⟩⟩⟩⟩⟩⟩, fmc ⟨by kernel_rfl, fmc ⟨by kernel_rfl, (fun _ h => by cases h)⟩⟩, mixed⟩
noncomputable def cx_ostiaryref01_CutText (W0 : World) (S : Nat → Prop) (bs : List Nat := []) : Cx := ⟨Tryz.prog, W0, S, 11, [(3, ti3), (9, ti9)], [], bs, none, []⟩
abbrev n_ostiaryref01_CutText : FuncId := 11
theorem b_ostiaryref01_CutText : Tryz.prog.funcs[n_ostiaryref01_CutText]? = some Tryz.f11 := Tryz.func11
theorem good_ostiaryref01_CutText (W0 : World) (S : Nat → Prop) (bs : List Nat := []) : Good (cx_ostiaryref01_CutText W0 S bs) := ⟨fmc ⟨ok3, fmc ⟨ok9, (fun _ h => by cases h)⟩⟩, (fun _ h => by cases h), mixed⟩
noncomputable def cx_order_Hands_Run (W0 : World) (S : Nat → Prop) (bs : List Nat := []) : Cx := ⟨Tryz.prog, W0, S, 141, [(9, ti9), (27, ti27), (28, ti28), (32, ti32), (34, ti34), (36, ti36), (39, ti39), (40, ti40), (41, ti41), (42, ti42), (43, ti43), (44, ti44), (45, ti45), (47, ti47), (79, ti79)], [23, 24, 25, 26, 27, 28, 29, 30, 31, 32, 33, 34, 35, 36, 37, 38], bs, none, []⟩
abbrev n_order_Hands_Run : FuncId := 12
theorem b_order_Hands_Run : Tryz.prog.funcs[n_order_Hands_Run]? = some Tryz.f12 := Tryz.func12
def p_order_Hands_Run_21 : Plan := .take 0 (.take 1 (.take 2 (.take 3 (.take 4 (.take 5 (.take 6 (.take 7 (.take 8 (.exec 9 (.take 10 (.take 11 (.take 12 (.take 13 (.done))))))))))))))
def p_order_Hands_Run_23 : Plan := .take 0 (.take 1 (.take 2 (.take 3 (.take 4 (.take 5 (.take 6 (.take 7 (.take 8 (.exec 9 (.take 10 (.take 11 (.take 12 (.take 13 (.done))))))))))))))
def p_order_Hands_Run_25 : Plan := .take 0 (.take 1 (.take 2 (.take 3 (.take 4 (.take 5 (.take 6 (.take 7 (.exec 8 (.exec 9 (.take 10 (.take 11 (.take 12 (.take 13 (.done))))))))))))))
def p_order_Hands_Run_29 : Plan := .take 0 (.take 1 (.take 2 (.take 3 (.take 4 (.take 5 (.take 6 (.take 7 (.take 8 (.exec 9 (.take 10 (.take 11 (.take 12 (.take 13 (.done))))))))))))))
theorem good_order_Hands_Run (W0 : World) (S : Nat → Prop) (bs : List Nat := []) : Good (cx_order_Hands_Run W0 S bs) := ⟨fmc ⟨ok9, fmc ⟨ok27, fmc ⟨ok28, fmc ⟨ok32, fmc ⟨ok34, fmc ⟨ok36, fmc ⟨ok39, fmc ⟨ok40, fmc ⟨ok41, fmc ⟨ok42, fmc ⟨ok43, fmc ⟨ok44, fmc ⟨ok45, fmc ⟨ok47, fmc ⟨ok79, (fun _ h => by cases h)⟩⟩⟩⟩⟩⟩⟩⟩⟩⟩⟩⟩⟩⟩⟩, fmc ⟨by kernel_rfl, fmc ⟨by kernel_rfl, fmc ⟨by kernel_rfl, fmc ⟨by kernel_rfl, fmc ⟨by kernel_rfl, fmc ⟨by kernel_rfl, fmc ⟨by kernel_rfl, fmc ⟨by kernel_rfl, fmc ⟨by kernel_rfl, fmc ⟨by kernel_rfl, fmc ⟨by kernel_rfl, fmc ⟨by kernel_rfl, fmc ⟨by kernel_rfl, fmc ⟨by kernel_rfl, fmc ⟨by kernel_rfl, fmc ⟨by kernel_rfl, (fun _ h => by cases h)⟩⟩⟩⟩⟩⟩⟩⟩⟩⟩⟩⟩⟩⟩⟩⟩, mixed⟩
noncomputable def cx_ostiaryref24_Few (W0 : World) (S : Nat → Prop) (bs : List Nat := []) : Cx := ⟨Tryz.prog, W0, S, 27, [(3, ti3), (9, ti9), (34, ti34), (48, ti48)], [11], bs, none, []⟩
abbrev n_ostiaryref24_Few : FuncId := 13
theorem b_ostiaryref24_Few : Tryz.prog.funcs[n_ostiaryref24_Few]? = some Tryz.f13 := Tryz.func13
theorem good_ostiaryref24_Few (W0 : World) (S : Nat → Prop) (bs : List Nat := []) : Good (cx_ostiaryref24_Few W0 S bs) := ⟨fmc ⟨ok3, fmc ⟨ok9, fmc ⟨ok34, fmc ⟨ok48, (fun _ h => by cases h)⟩⟩⟩⟩, fmc ⟨by kernel_rfl, (fun _ h => by cases h)⟩, mixed⟩
noncomputable def cx_order_Parse (W0 : World) (S : Nat → Prop) (bs : List Nat := []) : Cx := ⟨Tryz.prog, W0, S, 37, [(3, ti3), (9, ti9), (28, ti28), (34, ti34), (36, ti36)], [23, 40], bs, none, []⟩
abbrev n_order_Parse : FuncId := 16
theorem b_order_Parse : Tryz.prog.funcs[n_order_Parse]? = some Tryz.f16 := Tryz.func16
def p_order_Parse_10 : Plan := .take 0 (.take 1 (.take 2 (.take 3 (.take 4 (.take 5 (.exec 6 (.exec 7 (.done))))))))
theorem good_order_Parse (W0 : World) (S : Nat → Prop) (bs : List Nat := []) : Good (cx_order_Parse W0 S bs) := ⟨fmc ⟨ok3, fmc ⟨ok9, fmc ⟨ok28, fmc ⟨ok34, fmc ⟨ok36, (fun _ h => by cases h)⟩⟩⟩⟩⟩, fmc ⟨by kernel_rfl, fmc ⟨by kernel_rfl, (fun _ h => by cases h)⟩⟩, mixed⟩
noncomputable def cx_ostiarylaw24_hands (W0 : World) (S : Nat → Prop) (bs : List Nat := []) : Cx := ⟨Tryz.prog, W0, S, 56, [(3, ti3), (4, ti4), (5, ti5), (32, ti32), (39, ti39), (40, ti40), (41, ti41), (42, ti42), (43, ti43), (44, ti44), (45, ti45), (47, ti47), (95, ti95), (99, ti99), (102, ti102)], [45, 46, 47, 48, 49, 50], bs, none, []⟩
abbrev n_ostiarylaw24_hands : FuncId := 21
theorem b_ostiarylaw24_hands : Tryz.prog.funcs[n_ostiarylaw24_hands]? = some Tryz.f21 := Tryz.func21
theorem good_ostiarylaw24_hands (W0 : World) (S : Nat → Prop) (bs : List Nat := []) : Good (cx_ostiarylaw24_hands W0 S bs) := ⟨fmc ⟨ok3, fmc ⟨ok4, fmc ⟨ok5, fmc ⟨ok32, fmc ⟨ok39, fmc ⟨ok40, fmc ⟨ok41, fmc ⟨ok42, fmc ⟨ok43, fmc ⟨ok44, fmc ⟨ok45, fmc ⟨ok47, fmc ⟨ok95, fmc ⟨ok99, fmc ⟨ok102, (fun _ h => by cases h)⟩⟩⟩⟩⟩⟩⟩⟩⟩⟩⟩⟩⟩⟩⟩, fmc ⟨by kernel_rfl, fmc ⟨by kernel_rfl, fmc ⟨by kernel_rfl, fmc ⟨by kernel_rfl, fmc ⟨by kernel_rfl, fmc ⟨by kernel_rfl, (fun _ h => by cases h)⟩⟩⟩⟩⟩⟩, mixed⟩
noncomputable def cx_order_Verbs_1 (W0 : World) (S : Nat → Prop) (bs : List Nat := []) : Cx := ⟨Tryz.prog, W0, S, 16, [(3, ti3), (9, ti9), (67, ti67), (68, ti68)], [], bs, none, []⟩
abbrev n_order_Verbs_1 : FuncId := 22
theorem b_order_Verbs_1 : Tryz.prog.funcs[n_order_Verbs_1]? = some Tryz.f22 := Tryz.func22
theorem good_order_Verbs_1 (W0 : World) (S : Nat → Prop) (bs : List Nat := []) : Good (cx_order_Verbs_1 W0 S bs) := ⟨fmc ⟨ok3, fmc ⟨ok9, fmc ⟨ok67, fmc ⟨ok68, (fun _ h => by cases h)⟩⟩⟩⟩, (fun _ h => by cases h), mixed⟩
noncomputable def cx_order_Command_counted (W0 : World) (S : Nat → Prop) (bs : List Nat := []) : Cx := ⟨Tryz.prog, W0, S, 17, [(3, ti3), (9, ti9), (28, ti28), (34, ti34), (36, ti36)], [8], bs, none, []⟩
abbrev n_order_Command_counted : FuncId := 23
theorem b_order_Command_counted : Tryz.prog.funcs[n_order_Command_counted]? = some Tryz.f23 := Tryz.func23
theorem good_order_Command_counted (W0 : World) (S : Nat → Prop) (bs : List Nat := []) : Good (cx_order_Command_counted W0 S bs) := ⟨fmc ⟨ok3, fmc ⟨ok9, fmc ⟨ok28, fmc ⟨ok34, fmc ⟨ok36, (fun _ h => by cases h)⟩⟩⟩⟩⟩, fmc ⟨by kernel_rfl, (fun _ h => by cases h)⟩, mixed⟩
noncomputable def cx_order_Hands_users (W0 : World) (S : Nat → Prop) (bs : List Nat := []) : Cx := ⟨Tryz.prog, W0, S, 106, [(4, ti4), (9, ti9), (28, ti28), (34, ti34), (36, ti36), (39, ti39), (40, ti40), (41, ti41), (42, ti42), (43, ti43), (44, ti44), (45, ti45), (47, ti47)], [26, 51, 52, 53, 54, 55, 56, 57], bs, none, []⟩
abbrev n_order_Hands_users : FuncId := 24
theorem b_order_Hands_users : Tryz.prog.funcs[n_order_Hands_users]? = some Tryz.f24 := Tryz.func24
def p_order_Hands_users_6 : Plan := .take 0 (.take 1 (.take 2 (.take 3 (.take 4 (.take 5 (.take 6 (.exec 7 (.take 8 (.done)))))))))
def p_order_Hands_users_8 : Plan := .take 0 (.take 1 (.take 2 (.take 3 (.take 4 (.take 5 (.take 6 (.exec 7 (.take 8 (.done)))))))))
def p_order_Hands_users_10 : Plan := .take 0 (.take 1 (.take 2 (.take 3 (.take 4 (.take 5 (.take 6 (.take 7 (.take 8 (.take 9 (.exec 10 (.take 11 (.done))))))))))))
def p_order_Hands_users_13 : Plan := .take 0 (.take 1 (.take 2 (.take 3 (.take 4 (.take 5 (.take 6 (.take 7 (.take 8 (.take 9 (.take 10 (.take 11 (.take 12 (.exec 13 (.take 14 (.done)))))))))))))))
def p_order_Hands_users_15 : Plan := .take 0 (.take 1 (.take 2 (.take 3 (.take 4 (.take 5 (.take 6 (.take 7 (.take 8 (.take 9 (.take 10 (.take 11 (.take 12 (.exec 13 (.take 14 (.done)))))))))))))))
def p_order_Hands_users_17 : Plan := .take 0 (.take 1 (.take 2 (.take 3 (.take 4 (.take 5 (.take 6 (.take 7 (.take 8 (.take 9 (.take 10 (.take 11 (.take 12 (.exec 13 (.take 14 (.done)))))))))))))))
theorem good_order_Hands_users (W0 : World) (S : Nat → Prop) (bs : List Nat := []) : Good (cx_order_Hands_users W0 S bs) := ⟨fmc ⟨ok4, fmc ⟨ok9, fmc ⟨ok28, fmc ⟨ok34, fmc ⟨ok36, fmc ⟨ok39, fmc ⟨ok40, fmc ⟨ok41, fmc ⟨ok42, fmc ⟨ok43, fmc ⟨ok44, fmc ⟨ok45, fmc ⟨ok47, (fun _ h => by cases h)⟩⟩⟩⟩⟩⟩⟩⟩⟩⟩⟩⟩⟩, fmc ⟨by kernel_rfl, fmc ⟨by kernel_rfl, fmc ⟨by kernel_rfl, fmc ⟨by kernel_rfl, fmc ⟨by kernel_rfl, fmc ⟨by kernel_rfl, fmc ⟨by kernel_rfl, fmc ⟨by kernel_rfl, (fun _ h => by cases h)⟩⟩⟩⟩⟩⟩⟩⟩, mixed⟩
noncomputable def cx_order_Hands_user (W0 : World) (S : Nat → Prop) (bs : List Nat := []) : Cx := ⟨Tryz.prog, W0, S, 57, [(3, ti3), (5, ti5), (9, ti9), (27, ti27), (28, ti28), (34, ti34), (36, ti36), (39, ti39), (40, ti40), (41, ti41), (42, ti42), (43, ti43), (44, ti44), (45, ti45), (47, ti47), (102, ti102), (110, ti110)], [26, 58, 59, 60], bs, none, []⟩
abbrev n_order_Hands_user : FuncId := 25
theorem b_order_Hands_user : Tryz.prog.funcs[n_order_Hands_user]? = some Tryz.f25 := Tryz.func25
def p_order_Hands_user_5 : Plan := .take 0 (.take 1 (.take 2 (.take 3 (.take 4 (.take 5 (.take 6 (.take 7 (.take 8 (.take 9 (.take 10 (.take 11 (.take 12 (.exec 13 (.exec 14 (.take 15 (.take 16 (.take 17 (.take 18 (.done)))))))))))))))))))
theorem good_order_Hands_user (W0 : World) (S : Nat → Prop) (bs : List Nat := []) : Good (cx_order_Hands_user W0 S bs) := ⟨fmc ⟨ok3, fmc ⟨ok5, fmc ⟨ok9, fmc ⟨ok27, fmc ⟨ok28, fmc ⟨ok34, fmc ⟨ok36, fmc ⟨ok39, fmc ⟨ok40, fmc ⟨ok41, fmc ⟨ok42, fmc ⟨ok43, fmc ⟨ok44, fmc ⟨ok45, fmc ⟨ok47, fmc ⟨ok102, fmc ⟨ok110, (fun _ h => by cases h)⟩⟩⟩⟩⟩⟩⟩⟩⟩⟩⟩⟩⟩⟩⟩⟩⟩, fmc ⟨by kernel_rfl, fmc ⟨by kernel_rfl, fmc ⟨by kernel_rfl, fmc ⟨by kernel_rfl, (fun _ h => by cases h)⟩⟩⟩⟩, mixed⟩
noncomputable def cx_order_said (W0 : World) (S : Nat → Prop) (bs : List Nat := []) : Cx := ⟨Tryz.prog, W0, S, 7, [(28, ti28)], [], bs, none, []⟩
abbrev n_order_said : FuncId := 26
theorem b_order_said : Tryz.prog.funcs[n_order_said]? = some Tryz.f26 := Tryz.func26
theorem good_order_said (W0 : World) (S : Nat → Prop) (bs : List Nat := []) : Good (cx_order_said W0 S bs) := ⟨fmc ⟨ok28, (fun _ h => by cases h)⟩, (fun _ h => by cases h), mixed⟩
noncomputable def cx_order_Hands_policy (W0 : World) (S : Nat → Prop) (bs : List Nat := []) : Cx := ⟨Tryz.prog, W0, S, 21, [(9, ti9), (28, ti28), (39, ti39), (40, ti40), (41, ti41), (42, ti42), (43, ti43), (44, ti44), (45, ti45), (47, ti47)], [61], bs, none, []⟩
abbrev n_order_Hands_policy : FuncId := 27
theorem b_order_Hands_policy : Tryz.prog.funcs[n_order_Hands_policy]? = some Tryz.f27 := Tryz.func27
theorem good_order_Hands_policy (W0 : World) (S : Nat → Prop) (bs : List Nat := []) : Good (cx_order_Hands_policy W0 S bs) := ⟨fmc ⟨ok9, fmc ⟨ok28, fmc ⟨ok39, fmc ⟨ok40, fmc ⟨ok41, fmc ⟨ok42, fmc ⟨ok43, fmc ⟨ok44, fmc ⟨ok45, fmc ⟨ok47, (fun _ h => by cases h)⟩⟩⟩⟩⟩⟩⟩⟩⟩⟩, fmc ⟨by kernel_rfl, (fun _ h => by cases h)⟩, mixed⟩
noncomputable def cx_ring_Ring_Rotate (W0 : World) (S : Nat → Prop) (bs : List Nat := []) : Cx := ⟨Tryz.prog, W0, S, 68, [(3, ti3), (5, ti5), (9, ti9), (32, ti32), (39, ti39), (43, ti43), (102, ti102), (116, ti116), (118, ti118), (215, ti215)], [62, 63, 64], bs, none, []⟩
abbrev n_ring_Ring_Rotate : FuncId := 28
theorem b_ring_Ring_Rotate : Tryz.prog.funcs[n_ring_Ring_Rotate]? = some Tryz.f28 := Tryz.func28
def p_ring_Ring_Rotate_6 : Plan := .take 0 (.take 1 (.take 2 (.take 3 (.take 4 (.take 5 (.take 6 (.take 7 (.take 8 (.take 9 (.take 10 (.take 11 (.take 12 (.take 13 (.take 14 (.take 15 (.take 16 (.take 17 (.take 18 (.take 19 (.exec 20 (.take 21 (.exec 22 (.exec 23 (.exec 24 (.exec 25 (.done))))))))))))))))))))))))))
def p_ring_Ring_Rotate_9 : Plan := .take 0 (.take 1 (.take 2 (.take 3 (.take 4 (.take 5 (.take 6 (.take 7 (.take 8 (.take 9 (.done))))))))))
theorem good_ring_Ring_Rotate (W0 : World) (S : Nat → Prop) (bs : List Nat := []) : Good (cx_ring_Ring_Rotate W0 S bs) := ⟨fmc ⟨ok3, fmc ⟨ok5, fmc ⟨ok9, fmc ⟨ok32, fmc ⟨ok39, fmc ⟨ok43, fmc ⟨ok102, fmc ⟨ok116, fmc ⟨ok118, fmc ⟨ok215, (fun _ h => by cases h)⟩⟩⟩⟩⟩⟩⟩⟩⟩⟩, fmc ⟨by kernel_rfl, fmc ⟨by kernel_rfl, fmc ⟨by kernel_rfl, (fun _ h => by cases h)⟩⟩⟩, mixed⟩
noncomputable def cx_order_dec (W0 : World) (S : Nat → Prop) (bs : List Nat := []) : Cx := ⟨Tryz.prog, W0, S, 5, [(3, ti3), (32, ti32)], [63], bs, none, []⟩
abbrev n_order_dec : FuncId := 29
theorem b_order_dec : Tryz.prog.funcs[n_order_dec]? = some Tryz.f29 := Tryz.func29
theorem good_order_dec (W0 : World) (S : Nat → Prop) (bs : List Nat := []) : Good (cx_order_dec W0 S bs) := ⟨fmc ⟨ok3, fmc ⟨ok32, (fun _ h => by cases h)⟩⟩, fmc ⟨by kernel_rfl, (fun _ h => by cases h)⟩, mixed⟩
noncomputable def cx_order_numbered (W0 : World) (S : Nat → Prop) (bs : List Nat := []) : Cx := ⟨Tryz.prog, W0, S, 21, [(9, ti9), (28, ti28), (32, ti32)], [26, 65], bs, none, []⟩
abbrev n_order_numbered : FuncId := 30
theorem b_order_numbered : Tryz.prog.funcs[n_order_numbered]? = some Tryz.f30 := Tryz.func30
theorem good_order_numbered (W0 : World) (S : Nat → Prop) (bs : List Nat := []) : Good (cx_order_numbered W0 S bs) := ⟨fmc ⟨ok9, fmc ⟨ok28, fmc ⟨ok32, (fun _ h => by cases h)⟩⟩⟩, fmc ⟨by kernel_rfl, fmc ⟨by kernel_rfl, (fun _ h => by cases h)⟩⟩, mixed⟩
noncomputable def cx_ring_Ring_Retire (W0 : World) (S : Nat → Prop) (bs : List Nat := []) : Cx := ⟨Tryz.prog, W0, S, 21, [(3, ti3), (5, ti5), (28, ti28), (32, ti32), (39, ti39), (43, ti43), (102, ti102), (116, ti116), (118, ti118)], [66], bs, none, []⟩
abbrev n_ring_Ring_Retire : FuncId := 31
theorem b_ring_Ring_Retire : Tryz.prog.funcs[n_ring_Ring_Retire]? = some Tryz.f31 := Tryz.func31
theorem good_ring_Ring_Retire (W0 : World) (S : Nat → Prop) (bs : List Nat := []) : Good (cx_ring_Ring_Retire W0 S bs) := ⟨fmc ⟨ok3, fmc ⟨ok5, fmc ⟨ok28, fmc ⟨ok32, fmc ⟨ok39, fmc ⟨ok43, fmc ⟨ok102, fmc ⟨ok116, fmc ⟨ok118, (fun _ h => by cases h)⟩⟩⟩⟩⟩⟩⟩⟩⟩, fmc ⟨by kernel_rfl, (fun _ h => by cases h)⟩, mixed⟩
noncomputable def cx_ticket_Desk_Revoke (W0 : World) (S : Nat → Prop) (bs : List Nat := []) : Cx := ⟨Tryz.prog, W0, S, 33, [(4, ti4), (32, ti32), (43, ti43), (44, ti44), (128, ti128), (129, ti129), (131, ti131)], [], bs, none, []⟩
abbrev n_ticket_Desk_Revoke : FuncId := 32
theorem b_ticket_Desk_Revoke : Tryz.prog.funcs[n_ticket_Desk_Revoke]? = some Tryz.f32 := Tryz.func32
theorem good_ticket_Desk_Revoke (W0 : World) (S : Nat → Prop) (bs : List Nat := []) : Good (cx_ticket_Desk_Revoke W0 S bs) := ⟨fmc ⟨ok4, fmc ⟨ok32, fmc ⟨ok43, fmc ⟨ok44, fmc ⟨ok128, fmc ⟨ok129, fmc ⟨ok131, (fun _ h => by cases h)⟩⟩⟩⟩⟩⟩⟩, (fun _ h => by cases h), mixed⟩
noncomputable def cx_guard_Guard_Clear (W0 : World) (S : Nat → Prop) (bs : List Nat := []) : Cx := ⟨Tryz.prog, W0, S, 22, [(3, ti3), (9, ti9), (28, ti28), (32, ti32), (42, ti42), (99, ti99), (133, ti133), (136, ti136), (138, ti138)], [67, 68], bs, none, []⟩
abbrev n_guard_Guard_Clear : FuncId := 33
theorem b_guard_Guard_Clear : Tryz.prog.funcs[n_guard_Guard_Clear]? = some Tryz.f33 := Tryz.func33
theorem good_guard_Guard_Clear (W0 : World) (S : Nat → Prop) (bs : List Nat := []) : Good (cx_guard_Guard_Clear W0 S bs) := ⟨fmc ⟨ok3, fmc ⟨ok9, fmc ⟨ok28, fmc ⟨ok32, fmc ⟨ok42, fmc ⟨ok99, fmc ⟨ok133, fmc ⟨ok136, fmc ⟨ok138, (fun _ h => by cases h)⟩⟩⟩⟩⟩⟩⟩⟩⟩, fmc ⟨by kernel_rfl, fmc ⟨by kernel_rfl, (fun _ h => by cases h)⟩⟩, mixed⟩
noncomputable def cx_order_Hands_sweep (W0 : World) (S : Nat → Prop) (bs : List Nat := []) : Cx := ⟨Tryz.prog, W0, S, 40, [(3, ti3), (9, ti9), (32, ti32), (34, ti34), (39, ti39), (40, ti40), (41, ti41), (42, ti42), (43, ti43), (44, ti44), (45, ti45), (47, ti47), (140, ti140)], [43, 69, 70, 71, 72], bs, none, []⟩
abbrev n_order_Hands_sweep : FuncId := 34
theorem b_order_Hands_sweep : Tryz.prog.funcs[n_order_Hands_sweep]? = some Tryz.f34 := Tryz.func34
def p_order_Hands_sweep_2 : Plan := .take 0 (.take 1 (.take 2 (.take 3 (.take 4 (.take 6 (.take 7 (.take 8 (.take 9 (.take 10 (.take 12 (.take 13 (.take 14 (.take 15 (.take 16 (.take 20 (.exec 5 (.exec 11 (.exec 17 (.exec 18 (.take 19 (.done)))))))))))))))))))))
theorem good_order_Hands_sweep (W0 : World) (S : Nat → Prop) (bs : List Nat := []) : Good (cx_order_Hands_sweep W0 S bs) := ⟨fmc ⟨ok3, fmc ⟨ok9, fmc ⟨ok32, fmc ⟨ok34, fmc ⟨ok39, fmc ⟨ok40, fmc ⟨ok41, fmc ⟨ok42, fmc ⟨ok43, fmc ⟨ok44, fmc ⟨ok45, fmc ⟨ok47, fmc ⟨ok140, (fun _ h => by cases h)⟩⟩⟩⟩⟩⟩⟩⟩⟩⟩⟩⟩⟩, fmc ⟨by kernel_rfl, fmc ⟨by kernel_rfl, fmc ⟨by kernel_rfl, fmc ⟨by kernel_rfl, fmc ⟨by kernel_rfl, (fun _ h => by cases h)⟩⟩⟩⟩⟩, mixed⟩
noncomputable def cx_order_Hands_show (W0 : World) (S : Nat → Prop) (bs : List Nat := []) : Cx := ⟨Tryz.prog, W0, S, 38, [(3, ti3), (4, ti4), (5, ti5), (9, ti9), (32, ti32), (34, ti34), (39, ti39), (40, ti40), (41, ti41), (42, ti42), (43, ti43), (44, ti44), (45, ti45), (47, ti47), (102, ti102), (110, ti110), (143, ti143)], [29, 43, 73], bs, none, []⟩
abbrev n_order_Hands_show : FuncId := 35
theorem b_order_Hands_show : Tryz.prog.funcs[n_order_Hands_show]? = some Tryz.f35 := Tryz.func35
theorem good_order_Hands_show (W0 : World) (S : Nat → Prop) (bs : List Nat := []) : Good (cx_order_Hands_show W0 S bs) := ⟨fmc ⟨ok3, fmc ⟨ok4, fmc ⟨ok5, fmc ⟨ok9, fmc ⟨ok32, fmc ⟨ok34, fmc ⟨ok39, fmc ⟨ok40, fmc ⟨ok41, fmc ⟨ok42, fmc ⟨ok43, fmc ⟨ok44, fmc ⟨ok45, fmc ⟨ok47, fmc ⟨ok102, fmc ⟨ok110, fmc ⟨ok143, (fun _ h => by cases h)⟩⟩⟩⟩⟩⟩⟩⟩⟩⟩⟩⟩⟩⟩⟩⟩⟩, fmc ⟨by kernel_rfl, fmc ⟨by kernel_rfl, fmc ⟨by kernel_rfl, (fun _ h => by cases h)⟩⟩⟩, mixed⟩
noncomputable def cx_rule_Policy_Text (W0 : World) (S : Nat → Prop) (bs : List Nat := []) : Cx := ⟨Tryz.prog, W0, S, 21, [(3, ti3), (4, ti4), (5, ti5), (9, ti9), (45, ti45), (102, ti102), (146, ti146), (148, ti148), (153, ti153)], [74, 75, 76, 77], bs, none, []⟩
abbrev n_rule_Policy_Text : FuncId := 36
theorem b_rule_Policy_Text : Tryz.prog.funcs[n_rule_Policy_Text]? = some Tryz.f36 := Tryz.func36
theorem good_rule_Policy_Text (W0 : World) (S : Nat → Prop) (bs : List Nat := []) : Good (cx_rule_Policy_Text W0 S bs) := ⟨fmc ⟨ok3, fmc ⟨ok4, fmc ⟨ok5, fmc ⟨ok9, fmc ⟨ok45, fmc ⟨ok102, fmc ⟨ok146, fmc ⟨ok148, fmc ⟨ok153, (fun _ h => by cases h)⟩⟩⟩⟩⟩⟩⟩⟩⟩, fmc ⟨by kernel_rfl, fmc ⟨by kernel_rfl, fmc ⟨by kernel_rfl, fmc ⟨by kernel_rfl, (fun _ h => by cases h)⟩⟩⟩⟩, mixed⟩
noncomputable def cx_order_Hands_keys (W0 : World) (S : Nat → Prop) (bs : List Nat := []) : Cx := ⟨Tryz.prog, W0, S, 18, [(9, ti9), (32, ti32), (34, ti34), (39, ti39), (40, ti40), (41, ti41), (42, ti42), (43, ti43), (44, ti44), (45, ti45), (47, ti47)], [29, 43, 64], bs, none, []⟩
abbrev n_order_Hands_keys : FuncId := 37
theorem b_order_Hands_keys : Tryz.prog.funcs[n_order_Hands_keys]? = some Tryz.f37 := Tryz.func37
theorem good_order_Hands_keys (W0 : World) (S : Nat → Prop) (bs : List Nat := []) : Good (cx_order_Hands_keys W0 S bs) := ⟨fmc ⟨ok9, fmc ⟨ok32, fmc ⟨ok34, fmc ⟨ok39, fmc ⟨ok40, fmc ⟨ok41, fmc ⟨ok42, fmc ⟨ok43, fmc ⟨ok44, fmc ⟨ok45, fmc ⟨ok47, (fun _ h => by cases h)⟩⟩⟩⟩⟩⟩⟩⟩⟩⟩⟩, fmc ⟨by kernel_rfl, fmc ⟨by kernel_rfl, fmc ⟨by kernel_rfl, (fun _ h => by cases h)⟩⟩⟩, mixed⟩
noncomputable def cx_order_Hands_count (W0 : World) (S : Nat → Prop) (bs : List Nat := []) : Cx := ⟨Tryz.prog, W0, S, 61, [(3, ti3), (4, ti4), (5, ti5), (9, ti9), (27, ti27), (32, ti32), (34, ti34), (39, ti39), (40, ti40), (41, ti41), (42, ti42), (43, ti43), (44, ti44), (45, ti45), (47, ti47), (102, ti102), (110, ti110), (140, ti140), (143, ti143), (161, ti161), (164, ti164)], [29, 43, 72, 78, 79, 80, 81, 82, 83], bs, none, []⟩
abbrev n_order_Hands_count : FuncId := 38
theorem b_order_Hands_count : Tryz.prog.funcs[n_order_Hands_count]? = some Tryz.f38 := Tryz.func38
def p_order_Hands_count_7 : Plan := .take 0 (.take 1 (.take 2 (.take 3 (.take 4 (.take 5 (.take 7 (.take 8 (.take 9 (.take 10 (.take 14 (.exec 6 (.exec 11 (.exec 12 (.take 13 (.done)))))))))))))))
theorem good_order_Hands_count (W0 : World) (S : Nat → Prop) (bs : List Nat := []) : Good (cx_order_Hands_count W0 S bs) := ⟨fmc ⟨ok3, fmc ⟨ok4, fmc ⟨ok5, fmc ⟨ok9, fmc ⟨ok27, fmc ⟨ok32, fmc ⟨ok34, fmc ⟨ok39, fmc ⟨ok40, fmc ⟨ok41, fmc ⟨ok42, fmc ⟨ok43, fmc ⟨ok44, fmc ⟨ok45, fmc ⟨ok47, fmc ⟨ok102, fmc ⟨ok110, fmc ⟨ok140, fmc ⟨ok143, fmc ⟨ok161, fmc ⟨ok164, (fun _ h => by cases h)⟩⟩⟩⟩⟩⟩⟩⟩⟩⟩⟩⟩⟩⟩⟩⟩⟩⟩⟩⟩⟩, fmc ⟨by kernel_rfl, fmc ⟨by kernel_rfl, fmc ⟨by kernel_rfl, fmc ⟨by kernel_rfl, fmc ⟨by kernel_rfl, fmc ⟨by kernel_rfl, fmc ⟨by kernel_rfl, fmc ⟨by kernel_rfl, fmc ⟨by kernel_rfl, (fun _ h => by cases h)⟩⟩⟩⟩⟩⟩⟩⟩⟩, mixed⟩
noncomputable def cx_order_Words (W0 : World) (S : Nat → Prop) (bs : List Nat := []) : Cx := ⟨Tryz.prog, W0, S, 4, [(9, ti9)], [84], bs, none, []⟩
abbrev n_order_Words : FuncId := 40
theorem b_order_Words : Tryz.prog.funcs[n_order_Words]? = some Tryz.f40 := Tryz.func40
theorem good_order_Words (W0 : World) (S : Nat → Prop) (bs : List Nat := []) : Good (cx_order_Words W0 S bs) := ⟨fmc ⟨ok9, (fun _ h => by cases h)⟩, fmc ⟨by kernel_rfl, (fun _ h => by cases h)⟩, mixed⟩
noncomputable def cx_strings_Join (W0 : World) (S : Nat → Prop) (bs : List Nat := []) : Cx := ⟨Tryz.prog, W0, S, 75, [(3, ti3), (5, ti5), (9, ti9), (34, ti34), (102, ti102), (146, ti146), (148, ti148)], [76, 77, 90], bs, none, []⟩
abbrev n_strings_Join : FuncId := 43
theorem b_strings_Join : Tryz.prog.funcs[n_strings_Join]? = some Tryz.f43 := Tryz.func43
theorem good_strings_Join (W0 : World) (S : Nat → Prop) (bs : List Nat := []) : Good (cx_strings_Join W0 S bs) := ⟨fmc ⟨ok3, fmc ⟨ok5, fmc ⟨ok9, fmc ⟨ok34, fmc ⟨ok102, fmc ⟨ok146, fmc ⟨ok148, (fun _ h => by cases h)⟩⟩⟩⟩⟩⟩⟩, fmc ⟨by kernel_rfl, fmc ⟨by kernel_rfl, fmc ⟨by kernel_rfl, (fun _ h => by cases h)⟩⟩⟩, mixed⟩
noncomputable def cx_box_New (W0 : World) (S : Nat → Prop) (bs : List Nat := []) : Cx := ⟨Tryz.prog, W0, S, 7, [(3, ti3), (4, ti4), (5, ti5), (9, ti9), (102, ti102), (140, ti140), (174, ti174), (175, ti175), (177, ti177), (219, ti219)], [], bs, none, []⟩
abbrev n_box_New : FuncId := 45
theorem b_box_New : Tryz.prog.funcs[n_box_New]? = some Tryz.f45 := Tryz.func45
theorem good_box_New (W0 : World) (S : Nat → Prop) (bs : List Nat := []) : Good (cx_box_New W0 S bs) := ⟨fmc ⟨ok3, fmc ⟨ok4, fmc ⟨ok5, fmc ⟨ok9, fmc ⟨ok102, fmc ⟨ok140, fmc ⟨ok174, fmc ⟨ok175, fmc ⟨ok177, fmc ⟨ok219, (fun _ h => by cases h)⟩⟩⟩⟩⟩⟩⟩⟩⟩⟩, (fun _ h => by cases h), mixed⟩
noncomputable def cx_cred_New (W0 : World) (S : Nat → Prop) (bs : List Nat := []) : Cx := ⟨Tryz.prog, W0, S, 4, [(9, ti9), (32, ti32), (178, ti178), (180, ti180), (194, ti194), (196, ti196)], [], bs, none, []⟩
abbrev n_cred_New : FuncId := 46
theorem b_cred_New : Tryz.prog.funcs[n_cred_New]? = some Tryz.f46 := Tryz.func46
theorem good_cred_New (W0 : World) (S : Nat → Prop) (bs : List Nat := []) : Good (cx_cred_New W0 S bs) := ⟨fmc ⟨ok9, fmc ⟨ok32, fmc ⟨ok178, fmc ⟨ok180, fmc ⟨ok194, fmc ⟨ok196, (fun _ h => by cases h)⟩⟩⟩⟩⟩⟩, (fun _ h => by cases h), mixed⟩
noncomputable def cx_nonce_New (W0 : World) (S : Nat → Prop) (bs : List Nat := []) : Cx := ⟨Tryz.prog, W0, S, 37, [(3, ti3), (4, ti4), (28, ti28), (32, ti32), (95, ti95), (181, ti181), (188, ti188)], [91], bs, none, []⟩
abbrev n_nonce_New : FuncId := 47
theorem b_nonce_New : Tryz.prog.funcs[n_nonce_New]? = some Tryz.f47 := Tryz.func47
theorem good_nonce_New (W0 : World) (S : Nat → Prop) (bs : List Nat := []) : Good (cx_nonce_New W0 S bs) := ⟨fmc ⟨ok3, fmc ⟨ok4, fmc ⟨ok28, fmc ⟨ok32, fmc ⟨ok95, fmc ⟨ok181, fmc ⟨ok188, (fun _ h => by cases h)⟩⟩⟩⟩⟩⟩⟩, fmc ⟨by kernel_rfl, (fun _ h => by cases h)⟩, mixed⟩
noncomputable def cx_guard_New (W0 : World) (S : Nat → Prop) (bs : List Nat := []) : Cx := ⟨Tryz.prog, W0, S, 38, [(3, ti3), (28, ti28), (32, ti32), (99, ti99), (136, ti136), (138, ti138), (221, ti221)], [92, 93], bs, none, []⟩
abbrev n_guard_New : FuncId := 48
theorem b_guard_New : Tryz.prog.funcs[n_guard_New]? = some Tryz.f48 := Tryz.func48
theorem good_guard_New (W0 : World) (S : Nat → Prop) (bs : List Nat := []) : Good (cx_guard_New W0 S bs) := ⟨fmc ⟨ok3, fmc ⟨ok28, fmc ⟨ok32, fmc ⟨ok99, fmc ⟨ok136, fmc ⟨ok138, fmc ⟨ok221, (fun _ h => by cases h)⟩⟩⟩⟩⟩⟩⟩, fmc ⟨by kernel_rfl, fmc ⟨by kernel_rfl, (fun _ h => by cases h)⟩⟩, mixed⟩
noncomputable def cx_ring_New (W0 : World) (S : Nat → Prop) (bs : List Nat := []) : Cx := ⟨Tryz.prog, W0, S, 39, [(3, ti3), (5, ti5), (32, ti32), (39, ti39), (43, ti43), (102, ti102), (116, ti116), (118, ti118)], [28, 94], bs, none, []⟩
abbrev n_ring_New : FuncId := 49
theorem b_ring_New : Tryz.prog.funcs[n_ring_New]? = some Tryz.f49 := Tryz.func49
theorem good_ring_New (W0 : World) (S : Nat → Prop) (bs : List Nat := []) : Good (cx_ring_New W0 S bs) := ⟨fmc ⟨ok3, fmc ⟨ok5, fmc ⟨ok32, fmc ⟨ok39, fmc ⟨ok43, fmc ⟨ok102, fmc ⟨ok116, fmc ⟨ok118, (fun _ h => by cases h)⟩⟩⟩⟩⟩⟩⟩⟩, fmc ⟨by kernel_rfl, fmc ⟨by kernel_rfl, (fun _ h => by cases h)⟩⟩, mixed⟩
noncomputable def cx_ticket_NewDesk (W0 : World) (S : Nat → Prop) (bs : List Nat := []) : Cx := ⟨Tryz.prog, W0, S, 22, [(4, ti4), (32, ti32), (43, ti43), (128, ti128), (129, ti129), (131, ti131)], [], bs, none, []⟩
abbrev n_ticket_NewDesk : FuncId := 50
theorem b_ticket_NewDesk : Tryz.prog.funcs[n_ticket_NewDesk]? = some Tryz.f50 := Tryz.func50
theorem good_ticket_NewDesk (W0 : World) (S : Nat → Prop) (bs : List Nat := []) : Good (cx_ticket_NewDesk W0 S bs) := ⟨fmc ⟨ok4, fmc ⟨ok32, fmc ⟨ok43, fmc ⟨ok128, fmc ⟨ok129, fmc ⟨ok131, (fun _ h => by cases h)⟩⟩⟩⟩⟩⟩, (fun _ h => by cases h), mixed⟩
noncomputable def cx_slices_Clone_string_string (W0 : World) (S : Nat → Prop) (bs : List Nat := []) : Cx := ⟨Tryz.prog, W0, S, 8, [(9, ti9), (34, ti34)], [], bs, none, []⟩
abbrev n_slices_Clone_string_string : FuncId := 51
theorem b_slices_Clone_string_string : Tryz.prog.funcs[n_slices_Clone_string_string]? = some Tryz.f51 := Tryz.func51
theorem good_slices_Clone_string_string (W0 : World) (S : Nat → Prop) (bs : List Nat := []) : Good (cx_slices_Clone_string_string W0 S bs) := ⟨fmc ⟨ok9, fmc ⟨ok34, (fun _ h => by cases h)⟩⟩, (fun _ h => by cases h), mixed⟩
noncomputable def cx_cred_Store_AddTenant (W0 : World) (S : Nat → Prop) (bs : List Nat := []) : Cx := ⟨Tryz.prog, W0, S, 30, [(3, ti3), (9, ti9), (32, ti32), (40, ti40), (178, ti178), (180, ti180), (194, ti194), (196, ti196)], [95, 96], bs, none, []⟩
abbrev n_cred_Store_AddTenant : FuncId := 52
theorem b_cred_Store_AddTenant : Tryz.prog.funcs[n_cred_Store_AddTenant]? = some Tryz.f52 := Tryz.func52
theorem good_cred_Store_AddTenant (W0 : World) (S : Nat → Prop) (bs : List Nat := []) : Good (cx_cred_Store_AddTenant W0 S bs) := ⟨fmc ⟨ok3, fmc ⟨ok9, fmc ⟨ok32, fmc ⟨ok40, fmc ⟨ok178, fmc ⟨ok180, fmc ⟨ok194, fmc ⟨ok196, (fun _ h => by cases h)⟩⟩⟩⟩⟩⟩⟩⟩, fmc ⟨by kernel_rfl, fmc ⟨by kernel_rfl, (fun _ h => by cases h)⟩⟩, mixed⟩
noncomputable def cx_cred_Store_DropTenant (W0 : World) (S : Nat → Prop) (bs : List Nat := []) : Cx := ⟨Tryz.prog, W0, S, 14, [(9, ti9), (32, ti32), (40, ti40), (178, ti178), (180, ti180), (194, ti194), (196, ti196)], [96], bs, none, []⟩
abbrev n_cred_Store_DropTenant : FuncId := 53
theorem b_cred_Store_DropTenant : Tryz.prog.funcs[n_cred_Store_DropTenant]? = some Tryz.f53 := Tryz.func53
theorem good_cred_Store_DropTenant (W0 : World) (S : Nat → Prop) (bs : List Nat := []) : Good (cx_cred_Store_DropTenant W0 S bs) := ⟨fmc ⟨ok9, fmc ⟨ok32, fmc ⟨ok40, fmc ⟨ok178, fmc ⟨ok180, fmc ⟨ok194, fmc ⟨ok196, (fun _ h => by cases h)⟩⟩⟩⟩⟩⟩⟩, fmc ⟨by kernel_rfl, (fun _ h => by cases h)⟩, mixed⟩
noncomputable def cx_cred_Store_Drop (W0 : World) (S : Nat → Prop) (bs : List Nat := []) : Cx := ⟨Tryz.prog, W0, S, 24, [(3, ti3), (4, ti4), (5, ti5), (9, ti9), (32, ti32), (34, ti34), (40, ti40), (102, ti102), (110, ti110), (143, ti143), (178, ti178), (180, ti180), (194, ti194), (196, ti196)], [97], bs, none, []⟩
abbrev n_cred_Store_Drop : FuncId := 54
theorem b_cred_Store_Drop : Tryz.prog.funcs[n_cred_Store_Drop]? = some Tryz.f54 := Tryz.func54
theorem good_cred_Store_Drop (W0 : World) (S : Nat → Prop) (bs : List Nat := []) : Good (cx_cred_Store_Drop W0 S bs) := ⟨fmc ⟨ok3, fmc ⟨ok4, fmc ⟨ok5, fmc ⟨ok9, fmc ⟨ok32, fmc ⟨ok34, fmc ⟨ok40, fmc ⟨ok102, fmc ⟨ok110, fmc ⟨ok143, fmc ⟨ok178, fmc ⟨ok180, fmc ⟨ok194, fmc ⟨ok196, (fun _ h => by cases h)⟩⟩⟩⟩⟩⟩⟩⟩⟩⟩⟩⟩⟩⟩, fmc ⟨by kernel_rfl, (fun _ h => by cases h)⟩, mixed⟩
noncomputable def cx_cred_Store_Revoke (W0 : World) (S : Nat → Prop) (bs : List Nat := []) : Cx := ⟨Tryz.prog, W0, S, 30, [(3, ti3), (4, ti4), (5, ti5), (9, ti9), (32, ti32), (34, ti34), (40, ti40), (102, ti102), (110, ti110), (143, ti143), (178, ti178), (180, ti180), (194, ti194), (196, ti196)], [97, 98], bs, none, []⟩
abbrev n_cred_Store_Revoke : FuncId := 55
theorem b_cred_Store_Revoke : Tryz.prog.funcs[n_cred_Store_Revoke]? = some Tryz.f55 := Tryz.func55
theorem good_cred_Store_Revoke (W0 : World) (S : Nat → Prop) (bs : List Nat := []) : Good (cx_cred_Store_Revoke W0 S bs) := ⟨fmc ⟨ok3, fmc ⟨ok4, fmc ⟨ok5, fmc ⟨ok9, fmc ⟨ok32, fmc ⟨ok34, fmc ⟨ok40, fmc ⟨ok102, fmc ⟨ok110, fmc ⟨ok143, fmc ⟨ok178, fmc ⟨ok180, fmc ⟨ok194, fmc ⟨ok196, (fun _ h => by cases h)⟩⟩⟩⟩⟩⟩⟩⟩⟩⟩⟩⟩⟩⟩, fmc ⟨by kernel_rfl, fmc ⟨by kernel_rfl, (fun _ h => by cases h)⟩⟩, mixed⟩
noncomputable def cx_cred_Store_Grant (W0 : World) (S : Nat → Prop) (bs : List Nat := []) : Cx := ⟨Tryz.prog, W0, S, 63, [(3, ti3), (4, ti4), (5, ti5), (9, ti9), (32, ti32), (34, ti34), (40, ti40), (102, ti102), (110, ti110), (143, ti143), (178, ti178), (180, ti180), (194, ti194), (196, ti196)], [51, 95, 97, 98, 99, 100], bs, none, []⟩
abbrev n_cred_Store_Grant : FuncId := 56
theorem b_cred_Store_Grant : Tryz.prog.funcs[n_cred_Store_Grant]? = some Tryz.f56 := Tryz.func56
theorem good_cred_Store_Grant (W0 : World) (S : Nat → Prop) (bs : List Nat := []) : Good (cx_cred_Store_Grant W0 S bs) := ⟨fmc ⟨ok3, fmc ⟨ok4, fmc ⟨ok5, fmc ⟨ok9, fmc ⟨ok32, fmc ⟨ok34, fmc ⟨ok40, fmc ⟨ok102, fmc ⟨ok110, fmc ⟨ok143, fmc ⟨ok178, fmc ⟨ok180, fmc ⟨ok194, fmc ⟨ok196, (fun _ h => by cases h)⟩⟩⟩⟩⟩⟩⟩⟩⟩⟩⟩⟩⟩⟩, fmc ⟨by kernel_rfl, fmc ⟨by kernel_rfl, fmc ⟨by kernel_rfl, fmc ⟨by kernel_rfl, fmc ⟨by kernel_rfl, fmc ⟨by kernel_rfl, (fun _ h => by cases h)⟩⟩⟩⟩⟩⟩, mixed⟩
noncomputable def cx_cred_Store_Ungrant (W0 : World) (S : Nat → Prop) (bs : List Nat := []) : Cx := ⟨Tryz.prog, W0, S, 56, [(3, ti3), (4, ti4), (5, ti5), (9, ti9), (32, ti32), (34, ti34), (40, ti40), (102, ti102), (110, ti110), (143, ti143), (178, ti178), (180, ti180), (194, ti194), (196, ti196)], [51, 95, 97, 98, 99, 101], bs, none, []⟩
abbrev n_cred_Store_Ungrant : FuncId := 57
theorem b_cred_Store_Ungrant : Tryz.prog.funcs[n_cred_Store_Ungrant]? = some Tryz.f57 := Tryz.func57
theorem good_cred_Store_Ungrant (W0 : World) (S : Nat → Prop) (bs : List Nat := []) : Good (cx_cred_Store_Ungrant W0 S bs) := ⟨fmc ⟨ok3, fmc ⟨ok4, fmc ⟨ok5, fmc ⟨ok9, fmc ⟨ok32, fmc ⟨ok34, fmc ⟨ok40, fmc ⟨ok102, fmc ⟨ok110, fmc ⟨ok143, fmc ⟨ok178, fmc ⟨ok180, fmc ⟨ok194, fmc ⟨ok196, (fun _ h => by cases h)⟩⟩⟩⟩⟩⟩⟩⟩⟩⟩⟩⟩⟩⟩, fmc ⟨by kernel_rfl, fmc ⟨by kernel_rfl, fmc ⟨by kernel_rfl, fmc ⟨by kernel_rfl, fmc ⟨by kernel_rfl, fmc ⟨by kernel_rfl, (fun _ h => by cases h)⟩⟩⟩⟩⟩⟩, mixed⟩
noncomputable def cx_order_Hands_secret (W0 : World) (S : Nat → Prop) (bs : List Nat := []) : Cx := ⟨Tryz.prog, W0, S, 51, [(3, ti3), (5, ti5), (9, ti9), (28, ti28), (32, ti32), (34, ti34), (39, ti39), (40, ti40), (41, ti41), (42, ti42), (43, ti43), (44, ti44), (45, ti45), (47, ti47), (102, ti102), (110, ti110)], [65, 102, 103], bs, none, []⟩
abbrev n_order_Hands_secret : FuncId := 58
theorem b_order_Hands_secret : Tryz.prog.funcs[n_order_Hands_secret]? = some Tryz.f58 := Tryz.func58
def p_order_Hands_secret_5 : Plan := .take 0 (.take 1 (.take 2 (.take 3 (.take 4 (.take 5 (.take 6 (.take 7 (.take 8 (.take 9 (.take 10 (.take 11 (.take 12 (.take 13 (.take 14 (.take 15 (.take 16 (.exec 17 (.take 18 (.take 19 (.exec 20 (.take 21 (.done))))))))))))))))))))))
theorem good_order_Hands_secret (W0 : World) (S : Nat → Prop) (bs : List Nat := []) : Good (cx_order_Hands_secret W0 S bs) := ⟨fmc ⟨ok3, fmc ⟨ok5, fmc ⟨ok9, fmc ⟨ok28, fmc ⟨ok32, fmc ⟨ok34, fmc ⟨ok39, fmc ⟨ok40, fmc ⟨ok41, fmc ⟨ok42, fmc ⟨ok43, fmc ⟨ok44, fmc ⟨ok45, fmc ⟨ok47, fmc ⟨ok102, fmc ⟨ok110, (fun _ h => by cases h)⟩⟩⟩⟩⟩⟩⟩⟩⟩⟩⟩⟩⟩⟩⟩⟩, fmc ⟨by kernel_rfl, fmc ⟨by kernel_rfl, fmc ⟨by kernel_rfl, (fun _ h => by cases h)⟩⟩⟩, mixed⟩
noncomputable def cx_cred_Store_Add (W0 : World) (S : Nat → Prop) (bs : List Nat := []) : Cx := ⟨Tryz.prog, W0, S, 59, [(3, ti3), (4, ti4), (5, ti5), (9, ti9), (28, ti28), (32, ti32), (34, ti34), (40, ti40), (102, ti102), (110, ti110), (143, ti143), (178, ti178), (180, ti180), (194, ti194), (196, ti196)], [96, 98, 104, 105, 106], bs, none, []⟩
abbrev n_cred_Store_Add : FuncId := 59
theorem b_cred_Store_Add : Tryz.prog.funcs[n_cred_Store_Add]? = some Tryz.f59 := Tryz.func59
theorem good_cred_Store_Add (W0 : World) (S : Nat → Prop) (bs : List Nat := []) : Good (cx_cred_Store_Add W0 S bs) := ⟨fmc ⟨ok3, fmc ⟨ok4, fmc ⟨ok5, fmc ⟨ok9, fmc ⟨ok28, fmc ⟨ok32, fmc ⟨ok34, fmc ⟨ok40, fmc ⟨ok102, fmc ⟨ok110, fmc ⟨ok143, fmc ⟨ok178, fmc ⟨ok180, fmc ⟨ok194, fmc ⟨ok196, (fun _ h => by cases h)⟩⟩⟩⟩⟩⟩⟩⟩⟩⟩⟩⟩⟩⟩⟩, fmc ⟨by kernel_rfl, fmc ⟨by kernel_rfl, fmc ⟨by kernel_rfl, fmc ⟨by kernel_rfl, fmc ⟨by kernel_rfl, (fun _ h => by cases h)⟩⟩⟩⟩⟩, mixed⟩
noncomputable def cx_rule_Parse (W0 : World) (S : Nat → Prop) (bs : List Nat := []) : Cx := ⟨Tryz.prog, W0, S, 50, [(3, ti3), (4, ti4), (9, ti9), (28, ti28), (45, ti45), (153, ti153), (207, ti207), (209, ti209)], [85, 107, 108], bs, none, []⟩
abbrev n_rule_Parse : FuncId := 61
theorem b_rule_Parse : Tryz.prog.funcs[n_rule_Parse]? = some Tryz.f61 := Tryz.func61
def p_rule_Parse_11 : Plan := .take 0 (.take 1 (.take 2 (.take 3 (.take 4 (.take 5 (.exec 6 (.exec 7 (.exec 8 (.take 9 (.brk 10 (.done)))))))))))
theorem good_rule_Parse (W0 : World) (S : Nat → Prop) (bs : List Nat := []) : Good (cx_rule_Parse W0 S bs) := ⟨fmc ⟨ok3, fmc ⟨ok4, fmc ⟨ok9, fmc ⟨ok28, fmc ⟨ok45, fmc ⟨ok153, fmc ⟨ok207, fmc ⟨ok209, (fun _ h => by cases h)⟩⟩⟩⟩⟩⟩⟩⟩, fmc ⟨by kernel_rfl, fmc ⟨by kernel_rfl, fmc ⟨by kernel_rfl, (fun _ h => by cases h)⟩⟩⟩, mixed⟩
noncomputable def cx_box_Box_Mac (W0 : World) (S : Nat → Prop) (bs : List Nat := []) : Cx := ⟨Tryz.prog, W0, S, 24, [(3, ti3), (4, ti4), (5, ti5), (9, ti9), (39, ti39), (102, ti102), (140, ti140), (174, ti174), (175, ti175), (177, ti177), (215, ti215), (219, ti219)], [109, 110, 111], bs, none, []⟩
abbrev n_box_Box_Mac : FuncId := 62
theorem b_box_Box_Mac : Tryz.prog.funcs[n_box_Box_Mac]? = some Tryz.f62 := Tryz.func62
theorem good_box_Box_Mac (W0 : World) (S : Nat → Prop) (bs : List Nat := []) : Good (cx_box_Box_Mac W0 S bs) := ⟨fmc ⟨ok3, fmc ⟨ok4, fmc ⟨ok5, fmc ⟨ok9, fmc ⟨ok39, fmc ⟨ok102, fmc ⟨ok140, fmc ⟨ok174, fmc ⟨ok175, fmc ⟨ok177, fmc ⟨ok215, fmc ⟨ok219, (fun _ h => by cases h)⟩⟩⟩⟩⟩⟩⟩⟩⟩⟩⟩⟩, fmc ⟨by kernel_rfl, fmc ⟨by kernel_rfl, fmc ⟨by kernel_rfl, (fun _ h => by cases h)⟩⟩⟩, mixed⟩
noncomputable def cx_strconv_FormatUint (W0 : World) (S : Nat → Prop) (bs : List Nat := []) : Cx := ⟨Tryz.prog, W0, S, 8, [(3, ti3), (32, ti32)], [112], bs, none, []⟩
abbrev n_strconv_FormatUint : FuncId := 63
theorem b_strconv_FormatUint : Tryz.prog.funcs[n_strconv_FormatUint]? = some Tryz.f63 := Tryz.func63
theorem good_strconv_FormatUint (W0 : World) (S : Nat → Prop) (bs : List Nat := []) : Good (cx_strconv_FormatUint W0 S bs) := ⟨fmc ⟨ok3, fmc ⟨ok32, (fun _ h => by cases h)⟩⟩, fmc ⟨by kernel_rfl, (fun _ h => by cases h)⟩, mixed⟩
noncomputable def cx_ring_Ring_Epochs (W0 : World) (S : Nat → Prop) (bs : List Nat := []) : Cx := ⟨Tryz.prog, W0, S, 4, [(43, ti43)], [113], bs, none, []⟩
abbrev n_ring_Ring_Epochs : FuncId := 64
theorem b_ring_Ring_Epochs : Tryz.prog.funcs[n_ring_Ring_Epochs]? = some Tryz.f64 := Tryz.func64
theorem good_ring_Ring_Epochs (W0 : World) (S : Nat → Prop) (bs : List Nat := []) : Good (cx_ring_Ring_Epochs W0 S bs) := ⟨fmc ⟨ok43, (fun _ h => by cases h)⟩, fmc ⟨by kernel_rfl, (fun _ h => by cases h)⟩, mixed⟩
noncomputable def cx_order_number (W0 : World) (S : Nat → Prop) (bs : List Nat := []) : Cx := ⟨Tryz.prog, W0, S, 24, [(3, ti3), (9, ti9), (32, ti32), (155, ti155)], [63, 116], bs, none, []⟩
abbrev n_order_number : FuncId := 65
theorem b_order_number : Tryz.prog.funcs[n_order_number]? = some Tryz.f65 := Tryz.func65
theorem good_order_number (W0 : World) (S : Nat → Prop) (bs : List Nat := []) : Good (cx_order_number W0 S bs) := ⟨fmc ⟨ok3, fmc ⟨ok9, fmc ⟨ok32, fmc ⟨ok155, (fun _ h => by cases h)⟩⟩⟩⟩, fmc ⟨by kernel_rfl, fmc ⟨by kernel_rfl, (fun _ h => by cases h)⟩⟩, mixed⟩
noncomputable def cx_ring_Ring_Key (W0 : World) (S : Nat → Prop) (bs : List Nat := []) : Cx := ⟨Tryz.prog, W0, S, 23, [(3, ti3), (5, ti5), (32, ti32), (39, ti39), (43, ti43), (102, ti102), (116, ti116), (118, ti118)], [94], bs, none, []⟩
abbrev n_ring_Ring_Key : FuncId := 66
theorem b_ring_Ring_Key : Tryz.prog.funcs[n_ring_Ring_Key]? = some Tryz.f66 := Tryz.func66
theorem good_ring_Ring_Key (W0 : World) (S : Nat → Prop) (bs : List Nat := []) : Good (cx_ring_Ring_Key W0 S bs) := ⟨fmc ⟨ok3, fmc ⟨ok5, fmc ⟨ok32, fmc ⟨ok39, fmc ⟨ok43, fmc ⟨ok102, fmc ⟨ok116, fmc ⟨ok118, (fun _ h => by cases h)⟩⟩⟩⟩⟩⟩⟩⟩, fmc ⟨by kernel_rfl, (fun _ h => by cases h)⟩, mixed⟩
noncomputable def cx_guard_Guard_known (W0 : World) (S : Nat → Prop) (bs : List Nat := []) : Cx := ⟨Tryz.prog, W0, S, 30, [(3, ti3), (9, ti9), (32, ti32), (42, ti42), (99, ti99), (133, ti133), (136, ti136), (138, ti138)], [117, 118], bs, none, []⟩
abbrev n_guard_Guard_known : FuncId := 67
theorem b_guard_Guard_known : Tryz.prog.funcs[n_guard_Guard_known]? = some Tryz.f67 := Tryz.func67
theorem good_guard_Guard_known (W0 : World) (S : Nat → Prop) (bs : List Nat := []) : Good (cx_guard_Guard_known W0 S bs) := ⟨fmc ⟨ok3, fmc ⟨ok9, fmc ⟨ok32, fmc ⟨ok42, fmc ⟨ok99, fmc ⟨ok133, fmc ⟨ok136, fmc ⟨ok138, (fun _ h => by cases h)⟩⟩⟩⟩⟩⟩⟩⟩, fmc ⟨by kernel_rfl, fmc ⟨by kernel_rfl, (fun _ h => by cases h)⟩⟩, mixed⟩
noncomputable def cx_nonce_Store_Sweep (W0 : World) (S : Nat → Prop) (bs : List Nat := []) : Cx := ⟨Tryz.prog, W0, S, 13, [(3, ti3), (4, ti4), (32, ti32), (41, ti41), (95, ti95), (181, ti181), (188, ti188), (236, ti236)], [121, 122], bs, none, []⟩
abbrev n_nonce_Store_Sweep : FuncId := 69
theorem b_nonce_Store_Sweep : Tryz.prog.funcs[n_nonce_Store_Sweep]? = some Tryz.f69 := Tryz.func69
theorem good_nonce_Store_Sweep (W0 : World) (S : Nat → Prop) (bs : List Nat := []) : Good (cx_nonce_Store_Sweep W0 S bs) := ⟨fmc ⟨ok3, fmc ⟨ok4, fmc ⟨ok32, fmc ⟨ok41, fmc ⟨ok95, fmc ⟨ok181, fmc ⟨ok188, fmc ⟨ok236, (fun _ h => by cases h)⟩⟩⟩⟩⟩⟩⟩⟩, fmc ⟨by kernel_rfl, fmc ⟨by kernel_rfl, (fun _ h => by cases h)⟩⟩, mixed⟩
noncomputable def cx_guard_Guard_Sweep (W0 : World) (S : Nat → Prop) (bs : List Nat := []) : Cx := ⟨Tryz.prog, W0, S, 13, [(3, ti3), (32, ti32), (42, ti42), (99, ti99), (136, ti136), (138, ti138), (239, ti239)], [124, 125], bs, none, []⟩
abbrev n_guard_Guard_Sweep : FuncId := 70
theorem b_guard_Guard_Sweep : Tryz.prog.funcs[n_guard_Guard_Sweep]? = some Tryz.f70 := Tryz.func70
theorem good_guard_Guard_Sweep (W0 : World) (S : Nat → Prop) (bs : List Nat := []) : Good (cx_guard_Guard_Sweep W0 S bs) := ⟨fmc ⟨ok3, fmc ⟨ok32, fmc ⟨ok42, fmc ⟨ok99, fmc ⟨ok136, fmc ⟨ok138, fmc ⟨ok239, (fun _ h => by cases h)⟩⟩⟩⟩⟩⟩⟩, fmc ⟨by kernel_rfl, fmc ⟨by kernel_rfl, (fun _ h => by cases h)⟩⟩, mixed⟩
noncomputable def cx_ticket_Desk_Sweep (W0 : World) (S : Nat → Prop) (bs : List Nat := []) : Cx := ⟨Tryz.prog, W0, S, 49, [(3, ti3), (4, ti4), (32, ti32), (43, ti43), (44, ti44), (122, ti122), (128, ti128), (129, ti129), (131, ti131), (221, ti221)], [114, 127], bs, none, []⟩
abbrev n_ticket_Desk_Sweep : FuncId := 71
theorem b_ticket_Desk_Sweep : Tryz.prog.funcs[n_ticket_Desk_Sweep]? = some Tryz.f71 := Tryz.func71
theorem good_ticket_Desk_Sweep (W0 : World) (S : Nat → Prop) (bs : List Nat := []) : Good (cx_ticket_Desk_Sweep W0 S bs) := ⟨fmc ⟨ok3, fmc ⟨ok4, fmc ⟨ok32, fmc ⟨ok43, fmc ⟨ok44, fmc ⟨ok122, fmc ⟨ok128, fmc ⟨ok129, fmc ⟨ok131, fmc ⟨ok221, (fun _ h => by cases h)⟩⟩⟩⟩⟩⟩⟩⟩⟩⟩, fmc ⟨by kernel_rfl, fmc ⟨by kernel_rfl, (fun _ h => by cases h)⟩⟩, mixed⟩
abbrev n_strconv_Itoa : FuncId := 72
noncomputable def cx_cred_Store_Find (W0 : World) (S : Nat → Prop) (bs : List Nat := []) : Cx := ⟨Tryz.prog, W0, S, 30, [(3, ti3), (4, ti4), (5, ti5), (9, ti9), (32, ti32), (34, ti34), (40, ti40), (102, ti102), (110, ti110), (143, ti143), (178, ti178), (180, ti180), (194, ti194), (196, ti196)], [97, 129], bs, none, []⟩
abbrev n_cred_Store_Find : FuncId := 73
theorem b_cred_Store_Find : Tryz.prog.funcs[n_cred_Store_Find]? = some Tryz.f73 := Tryz.func73
theorem good_cred_Store_Find (W0 : World) (S : Nat → Prop) (bs : List Nat := []) : Good (cx_cred_Store_Find W0 S bs) := ⟨fmc ⟨ok3, fmc ⟨ok4, fmc ⟨ok5, fmc ⟨ok9, fmc ⟨ok32, fmc ⟨ok34, fmc ⟨ok40, fmc ⟨ok102, fmc ⟨ok110, fmc ⟨ok143, fmc ⟨ok178, fmc ⟨ok180, fmc ⟨ok194, fmc ⟨ok196, (fun _ h => by cases h)⟩⟩⟩⟩⟩⟩⟩⟩⟩⟩⟩⟩⟩⟩, fmc ⟨by kernel_rfl, fmc ⟨by kernel_rfl, (fun _ h => by cases h)⟩⟩, mixed⟩
noncomputable def cx_rule_Policy_Rules (W0 : World) (S : Nat → Prop) (bs : List Nat := []) : Cx := ⟨Tryz.prog, W0, S, 4, [(45, ti45)], [130], bs, none, []⟩
abbrev n_rule_Policy_Rules : FuncId := 74
theorem b_rule_Policy_Rules : Tryz.prog.funcs[n_rule_Policy_Rules]? = some Tryz.f74 := Tryz.func74
theorem good_rule_Policy_Rules (W0 : World) (S : Nat → Prop) (bs : List Nat := []) : Good (cx_rule_Policy_Rules W0 S bs) := ⟨fmc ⟨ok45, (fun _ h => by cases h)⟩, fmc ⟨by kernel_rfl, (fun _ h => by cases h)⟩, mixed⟩
noncomputable def cx_rule_Rule_Text (W0 : World) (S : Nat → Prop) (bs : List Nat := []) : Cx := ⟨Tryz.prog, W0, S, 21, [(3, ti3), (4, ti4), (9, ti9), (34, ti34), (153, ti153)], [43, 131, 132], bs, none, []⟩
abbrev n_rule_Rule_Text : FuncId := 75
theorem b_rule_Rule_Text : Tryz.prog.funcs[n_rule_Rule_Text]? = some Tryz.f75 := Tryz.func75
def p_rule_Rule_Text_6 : Plan := .take 0 (.take 1 (.take 2 (.take 3 (.take 4 (.take 5 (.take 6 (.take 7 (.exec 8 (.exec 9 (.exec 10 (.take 11 (.take 12 (.done)))))))))))))
theorem good_rule_Rule_Text (W0 : World) (S : Nat → Prop) (bs : List Nat := []) : Good (cx_rule_Rule_Text W0 S bs) := ⟨fmc ⟨ok3, fmc ⟨ok4, fmc ⟨ok9, fmc ⟨ok34, fmc ⟨ok153, (fun _ h => by cases h)⟩⟩⟩⟩⟩, fmc ⟨by kernel_rfl, fmc ⟨by kernel_rfl, fmc ⟨by kernel_rfl, (fun _ h => by cases h)⟩⟩⟩, mixed⟩
noncomputable def cx_strings_Builder_WriteString (W0 : World) (S : Nat → Prop) (bs : List Nat := []) : Cx := ⟨Tryz.prog, W0, S, 19, [(5, ti5), (9, ti9), (102, ti102), (146, ti146), (148, ti148)], [133], bs, none, []⟩
abbrev n_strings_Builder_WriteString : FuncId := 76
theorem b_strings_Builder_WriteString : Tryz.prog.funcs[n_strings_Builder_WriteString]? = some Tryz.f76 := Tryz.func76
theorem good_strings_Builder_WriteString (W0 : World) (S : Nat → Prop) (bs : List Nat := []) : Good (cx_strings_Builder_WriteString W0 S bs) := ⟨fmc ⟨ok5, fmc ⟨ok9, fmc ⟨ok102, fmc ⟨ok146, fmc ⟨ok148, (fun _ h => by cases h)⟩⟩⟩⟩⟩, fmc ⟨by kernel_rfl, (fun _ h => by cases h)⟩, mixed⟩
noncomputable def cx_strings_Builder_String (W0 : World) (S : Nat → Prop) (bs : List Nat := []) : Cx := ⟨Tryz.prog, W0, S, 14, [(3, ti3), (5, ti5), (102, ti102), (146, ti146), (148, ti148), (243, ti243)], [], bs, none, []⟩
abbrev n_strings_Builder_String : FuncId := 77
theorem b_strings_Builder_String : Tryz.prog.funcs[n_strings_Builder_String]? = some Tryz.f77 := Tryz.func77
def p_strings_Builder_String_1 : Plan := .take 0 (.take 1 (.take 2 (.take 3 (.take 5 (.take 6 (.take 7 (.take 8 (.take 9 (.exec 4 (.exec 10 (.take 11 (.done))))))))))))
theorem good_strings_Builder_String (W0 : World) (S : Nat → Prop) (bs : List Nat := []) : Good (cx_strings_Builder_String W0 S bs) := ⟨fmc ⟨ok3, fmc ⟨ok5, fmc ⟨ok102, fmc ⟨ok146, fmc ⟨ok148, fmc ⟨ok243, (fun _ h => by cases h)⟩⟩⟩⟩⟩⟩, (fun _ h => by cases h), mixed⟩
noncomputable def cx_cred_Store_Tenants (W0 : World) (S : Nat → Prop) (bs : List Nat := []) : Cx := ⟨Tryz.prog, W0, S, 4, [(40, ti40)], [134], bs, none, []⟩
abbrev n_cred_Store_Tenants : FuncId := 78
theorem b_cred_Store_Tenants : Tryz.prog.funcs[n_cred_Store_Tenants]? = some Tryz.f78 := Tryz.func78
theorem good_cred_Store_Tenants (W0 : World) (S : Nat → Prop) (bs : List Nat := []) : Good (cx_cred_Store_Tenants W0 S bs) := ⟨fmc ⟨ok40, (fun _ h => by cases h)⟩, fmc ⟨by kernel_rfl, (fun _ h => by cases h)⟩, mixed⟩
noncomputable def cx_nonce_Store_Len (W0 : World) (S : Nat → Prop) (bs : List Nat := []) : Cx := ⟨Tryz.prog, W0, S, 10, [(3, ti3), (4, ti4), (32, ti32), (41, ti41), (95, ti95), (181, ti181), (188, ti188)], [140], bs, none, []⟩
abbrev n_nonce_Store_Len : FuncId := 81
theorem b_nonce_Store_Len : Tryz.prog.funcs[n_nonce_Store_Len]? = some Tryz.f81 := Tryz.func81
theorem good_nonce_Store_Len (W0 : World) (S : Nat → Prop) (bs : List Nat := []) : Good (cx_nonce_Store_Len W0 S bs) := ⟨fmc ⟨ok3, fmc ⟨ok4, fmc ⟨ok32, fmc ⟨ok41, fmc ⟨ok95, fmc ⟨ok181, fmc ⟨ok188, (fun _ h => by cases h)⟩⟩⟩⟩⟩⟩⟩, fmc ⟨by kernel_rfl, (fun _ h => by cases h)⟩, mixed⟩
noncomputable def cx_guard_Guard_Len (W0 : World) (S : Nat → Prop) (bs : List Nat := []) : Cx := ⟨Tryz.prog, W0, S, 10, [(3, ti3), (32, ti32), (42, ti42), (99, ti99), (136, ti136), (138, ti138)], [141], bs, none, []⟩
abbrev n_guard_Guard_Len : FuncId := 82
theorem b_guard_Guard_Len : Tryz.prog.funcs[n_guard_Guard_Len]? = some Tryz.f82 := Tryz.func82
theorem good_guard_Guard_Len (W0 : World) (S : Nat → Prop) (bs : List Nat := []) : Good (cx_guard_Guard_Len W0 S bs) := ⟨fmc ⟨ok3, fmc ⟨ok32, fmc ⟨ok42, fmc ⟨ok99, fmc ⟨ok136, fmc ⟨ok138, (fun _ h => by cases h)⟩⟩⟩⟩⟩⟩, fmc ⟨by kernel_rfl, (fun _ h => by cases h)⟩, mixed⟩
noncomputable def cx_ticket_Desk_Serial (W0 : World) (S : Nat → Prop) (bs : List Nat := []) : Cx := ⟨Tryz.prog, W0, S, 9, [(4, ti4), (32, ti32), (43, ti43), (44, ti44), (128, ti128), (129, ti129), (131, ti131)], [], bs, none, []⟩
abbrev n_ticket_Desk_Serial : FuncId := 83
theorem b_ticket_Desk_Serial : Tryz.prog.funcs[n_ticket_Desk_Serial]? = some Tryz.f83 := Tryz.func83
theorem good_ticket_Desk_Serial (W0 : World) (S : Nat → Prop) (bs : List Nat := []) : Good (cx_ticket_Desk_Serial W0 S bs) := ⟨fmc ⟨ok4, fmc ⟨ok32, fmc ⟨ok43, fmc ⟨ok44, fmc ⟨ok128, fmc ⟨ok129, fmc ⟨ok131, (fun _ h => by cases h)⟩⟩⟩⟩⟩⟩⟩, (fun _ h => by cases h), mixed⟩
noncomputable def cx_order_Words_1 (W0 : World) (S : Nat → Prop) (bs : List Nat := []) : Cx := ⟨Tryz.prog, W0, S, 40, [(4, ti4), (5, ti5), (9, ti9)], [85, 86, 87], bs, none, []⟩
abbrev n_order_Words_1 : FuncId := 84
theorem b_order_Words_1 : Tryz.prog.funcs[n_order_Words_1]? = some Tryz.f84 := Tryz.func84
theorem good_order_Words_1 (W0 : World) (S : Nat → Prop) (bs : List Nat := []) : Good (cx_order_Words_1 W0 S bs) := ⟨fmc ⟨ok4, fmc ⟨ok5, fmc ⟨ok9, (fun _ h => by cases h)⟩⟩⟩, fmc ⟨by kernel_rfl, fmc ⟨by kernel_rfl, fmc ⟨by kernel_rfl, (fun _ h => by cases h)⟩⟩⟩, mixed⟩
abbrev n_strings_HasPrefix : FuncId := 85
noncomputable def cx_order_quoted (W0 : World) (S : Nat → Prop) (bs : List Nat := []) : Cx := ⟨Tryz.prog, W0, S, 59, [(3, ti3), (5, ti5), (9, ti9), (102, ti102), (146, ti146), (148, ti148)], [77, 88, 89], bs, none, []⟩
abbrev n_order_quoted : FuncId := 86
theorem b_order_quoted : Tryz.prog.funcs[n_order_quoted]? = some Tryz.f86 := Tryz.func86
def p_order_quoted_7 : Plan := .take 1 (.take 2 (.take 3 (.take 4 (.exec 0 (.take 5 (.take 6 (.take 7 (.done))))))))
theorem good_order_quoted (W0 : World) (S : Nat → Prop) (bs : List Nat := []) : Good (cx_order_quoted W0 S bs) := ⟨fmc ⟨ok3, fmc ⟨ok5, fmc ⟨ok9, fmc ⟨ok102, fmc ⟨ok146, fmc ⟨ok148, (fun _ h => by cases h)⟩⟩⟩⟩⟩⟩, fmc ⟨by kernel_rfl, fmc ⟨by kernel_rfl, fmc ⟨by kernel_rfl, (fun _ h => by cases h)⟩⟩⟩, mixed⟩
noncomputable def cx_order_bare (W0 : World) (S : Nat → Prop) (bs : List Nat := []) : Cx := ⟨Tryz.prog, W0, S, 26, [(3, ti3), (5, ti5), (9, ti9)], [143], bs, none, []⟩
abbrev n_order_bare : FuncId := 87
theorem b_order_bare : Tryz.prog.funcs[n_order_bare]? = some Tryz.f87 := Tryz.func87
def p_order_bare_4 : Plan := .take 0 (.take 1 (.take 2 (.take 3 (.take 4 (.take 5 (.take 6 (.take 7 (.take 8 (.take 9 (.take 10 (.done)))))))))))
theorem good_order_bare (W0 : World) (S : Nat → Prop) (bs : List Nat := []) : Good (cx_order_bare W0 S bs) := ⟨fmc ⟨ok3, fmc ⟨ok5, fmc ⟨ok9, (fun _ h => by cases h)⟩⟩⟩, fmc ⟨by kernel_rfl, (fun _ h => by cases h)⟩, mixed⟩
noncomputable def cx_strings_Builder_WriteByte (W0 : World) (S : Nat → Prop) (bs : List Nat := []) : Cx := ⟨Tryz.prog, W0, S, 17, [(5, ti5), (102, ti102), (146, ti146), (148, ti148)], [133], bs, none, []⟩
abbrev n_strings_Builder_WriteByte : FuncId := 88
theorem b_strings_Builder_WriteByte : Tryz.prog.funcs[n_strings_Builder_WriteByte]? = some Tryz.f88 := Tryz.func88
theorem good_strings_Builder_WriteByte (W0 : World) (S : Nat → Prop) (bs : List Nat := []) : Good (cx_strings_Builder_WriteByte W0 S bs) := ⟨fmc ⟨ok5, fmc ⟨ok102, fmc ⟨ok146, fmc ⟨ok148, (fun _ h => by cases h)⟩⟩⟩⟩, fmc ⟨by kernel_rfl, (fun _ h => by cases h)⟩, mixed⟩
noncomputable def cx_order_inside (W0 : World) (S : Nat → Prop) (bs : List Nat := []) : Cx := ⟨Tryz.prog, W0, S, 17, [(5, ti5)], [], bs, none, []⟩
abbrev n_order_inside : FuncId := 89
theorem b_order_inside : Tryz.prog.funcs[n_order_inside]? = some Tryz.f89 := Tryz.func89
theorem good_order_inside (W0 : World) (S : Nat → Prop) (bs : List Nat := []) : Good (cx_order_inside W0 S bs) := ⟨fmc ⟨ok5, (fun _ h => by cases h)⟩, (fun _ h => by cases h), mixed⟩
noncomputable def cx_table_New_nonce_Entry (W0 : World) (S : Nat → Prop) (bs : List Nat := []) : Cx := ⟨Tryz.prog, W0, S, 14, [(3, ti3), (4, ti4), (9, ti9), (32, ti32), (140, ti140), (174, ti174), (184, ti184), (186, ti186), (249, ti249), (251, ti251), (312, ti312)], [], bs, none, []⟩
abbrev n_table_New_nonce_Entry : FuncId := 91
theorem b_table_New_nonce_Entry : Tryz.prog.funcs[n_table_New_nonce_Entry]? = some Tryz.f91 := Tryz.func91
theorem good_table_New_nonce_Entry (W0 : World) (S : Nat → Prop) (bs : List Nat := []) : Good (cx_table_New_nonce_Entry W0 S bs) := ⟨fmc ⟨ok3, fmc ⟨ok4, fmc ⟨ok9, fmc ⟨ok32, fmc ⟨ok140, fmc ⟨ok174, fmc ⟨ok184, fmc ⟨ok186, fmc ⟨ok249, fmc ⟨ok251, fmc ⟨ok312, (fun _ h => by cases h)⟩⟩⟩⟩⟩⟩⟩⟩⟩⟩⟩, (fun _ h => by cases h), mixed⟩
noncomputable def cx_guard_ticks (W0 : World) (S : Nat → Prop) (bs : List Nat := []) : Cx := ⟨Tryz.prog, W0, S, 18, [(3, ti3), (32, ti32), (221, ti221)], [], bs, none, []⟩
abbrev n_guard_ticks : FuncId := 92
theorem b_guard_ticks : Tryz.prog.funcs[n_guard_ticks]? = some Tryz.f92 := Tryz.func92
theorem good_guard_ticks (W0 : World) (S : Nat → Prop) (bs : List Nat := []) : Good (cx_guard_ticks W0 S bs) := ⟨fmc ⟨ok3, fmc ⟨ok32, fmc ⟨ok221, (fun _ h => by cases h)⟩⟩⟩, (fun _ h => by cases h), mixed⟩
noncomputable def cx_table_New_guard_Entry (W0 : World) (S : Nat → Prop) (bs : List Nat := []) : Cx := ⟨Tryz.prog, W0, S, 14, [(3, ti3), (9, ti9), (32, ti32), (133, ti133), (140, ti140), (174, ti174), (230, ti230), (231, ti231), (233, ti233)], [], bs, none, []⟩
abbrev n_table_New_guard_Entry : FuncId := 93
theorem b_table_New_guard_Entry : Tryz.prog.funcs[n_table_New_guard_Entry]? = some Tryz.f93 := Tryz.func93
theorem good_table_New_guard_Entry (W0 : World) (S : Nat → Prop) (bs : List Nat := []) : Good (cx_table_New_guard_Entry W0 S bs) := ⟨fmc ⟨ok3, fmc ⟨ok9, fmc ⟨ok32, fmc ⟨ok133, fmc ⟨ok140, fmc ⟨ok174, fmc ⟨ok230, fmc ⟨ok231, fmc ⟨ok233, (fun _ h => by cases h)⟩⟩⟩⟩⟩⟩⟩⟩⟩, (fun _ h => by cases h), mixed⟩
noncomputable def cx_bytes_Clone (W0 : World) (S : Nat → Prop) (bs : List Nat := []) : Cx := ⟨Tryz.prog, W0, S, 8, [(5, ti5), (102, ti102)], [], bs, none, []⟩
abbrev n_bytes_Clone : FuncId := 94
theorem b_bytes_Clone : Tryz.prog.funcs[n_bytes_Clone]? = some Tryz.f94 := Tryz.func94
theorem good_bytes_Clone (W0 : World) (S : Nat → Prop) (bs : List Nat := []) : Good (cx_bytes_Clone W0 S bs) := ⟨fmc ⟨ok5, fmc ⟨ok102, (fun _ h => by cases h)⟩⟩, (fun _ h => by cases h), mixed⟩
noncomputable def cx_name_Plain (W0 : World) (S : Nat → Prop) (bs : List Nat := []) : Cx := ⟨Tryz.prog, W0, S, 37, [(3, ti3), (5, ti5), (9, ti9), (102, ti102)], [], bs, none, []⟩
abbrev n_name_Plain : FuncId := 95
theorem b_name_Plain : Tryz.prog.funcs[n_name_Plain]? = some Tryz.f95 := Tryz.func95
theorem good_name_Plain (W0 : World) (S : Nat → Prop) (bs : List Nat := []) : Good (cx_name_Plain W0 S bs) := ⟨fmc ⟨ok3, fmc ⟨ok5, fmc ⟨ok9, fmc ⟨ok102, (fun _ h => by cases h)⟩⟩⟩⟩, (fun _ h => by cases h), mixed⟩
noncomputable def cx_cred_Store_users (W0 : World) (S : Nat → Prop) (bs : List Nat := []) : Cx := ⟨Tryz.prog, W0, S, 13, [(9, ti9), (32, ti32), (40, ti40), (178, ti178), (180, ti180), (194, ti194), (196, ti196)], [], bs, none, []⟩
abbrev n_cred_Store_users : FuncId := 96
theorem b_cred_Store_users : Tryz.prog.funcs[n_cred_Store_users]? = some Tryz.f96 := Tryz.func96
theorem good_cred_Store_users (W0 : World) (S : Nat → Prop) (bs : List Nat := []) : Good (cx_cred_Store_users W0 S bs) := ⟨fmc ⟨ok9, fmc ⟨ok32, fmc ⟨ok40, fmc ⟨ok178, fmc ⟨ok180, fmc ⟨ok194, fmc ⟨ok196, (fun _ h => by cases h)⟩⟩⟩⟩⟩⟩⟩, (fun _ h => by cases h), mixed⟩
noncomputable def cx_cred_Store_get (W0 : World) (S : Nat → Prop) (bs : List Nat := []) : Cx := ⟨Tryz.prog, W0, S, 21, [(9, ti9), (28, ti28), (40, ti40), (194, ti194), (196, ti196)], [96, 104], bs, none, []⟩
abbrev n_cred_Store_get : FuncId := 97
theorem b_cred_Store_get : Tryz.prog.funcs[n_cred_Store_get]? = some Tryz.f97 := Tryz.func97
theorem good_cred_Store_get (W0 : World) (S : Nat → Prop) (bs : List Nat := []) : Good (cx_cred_Store_get W0 S bs) := ⟨fmc ⟨ok9, fmc ⟨ok28, fmc ⟨ok40, fmc ⟨ok194, fmc ⟨ok196, (fun _ h => by cases h)⟩⟩⟩⟩⟩, fmc ⟨by kernel_rfl, fmc ⟨by kernel_rfl, (fun _ h => by cases h)⟩⟩, mixed⟩
noncomputable def cx_cred_Store_touched (W0 : World) (S : Nat → Prop) (bs : List Nat := []) : Cx := ⟨Tryz.prog, W0, S, 19, [(3, ti3), (4, ti4), (5, ti5), (9, ti9), (32, ti32), (34, ti34), (102, ti102), (110, ti110), (143, ti143), (178, ti178), (180, ti180), (194, ti194), (196, ti196)], [], bs, none, []⟩
abbrev n_cred_Store_touched : FuncId := 98
theorem b_cred_Store_touched : Tryz.prog.funcs[n_cred_Store_touched]? = some Tryz.f98 := Tryz.func98
theorem good_cred_Store_touched (W0 : World) (S : Nat → Prop) (bs : List Nat := []) : Good (cx_cred_Store_touched W0 S bs) := ⟨fmc ⟨ok3, fmc ⟨ok4, fmc ⟨ok5, fmc ⟨ok9, fmc ⟨ok32, fmc ⟨ok34, fmc ⟨ok102, fmc ⟨ok110, fmc ⟨ok143, fmc ⟨ok178, fmc ⟨ok180, fmc ⟨ok194, fmc ⟨ok196, (fun _ h => by cases h)⟩⟩⟩⟩⟩⟩⟩⟩⟩⟩⟩⟩⟩, (fun _ h => by cases h), mixed⟩
noncomputable def cx_b64_Unhex (W0 : World) (S : Nat → Prop) (bs : List Nat := []) : Cx := ⟨Tryz.prog, W0, S, 39, [(3, ti3), (5, ti5), (9, ti9), (28, ti28), (102, ti102)], [149, 150], bs, none, []⟩
abbrev n_b64_Unhex : FuncId := 102
theorem b_b64_Unhex : Tryz.prog.funcs[n_b64_Unhex]? = some Tryz.f102 := Tryz.func102
theorem good_b64_Unhex (W0 : World) (S : Nat → Prop) (bs : List Nat := []) : Good (cx_b64_Unhex W0 S bs) := ⟨fmc ⟨ok3, fmc ⟨ok5, fmc ⟨ok9, fmc ⟨ok28, fmc ⟨ok102, (fun _ h => by cases h)⟩⟩⟩⟩⟩, fmc ⟨by kernel_rfl, fmc ⟨by kernel_rfl, (fun _ h => by cases h)⟩⟩, mixed⟩
noncomputable def cx_cred_Make (W0 : World) (S : Nat → Prop) (bs : List Nat := []) : Cx := ⟨Tryz.prog, W0, S, 91, [(3, ti3), (5, ti5), (9, ti9), (28, ti28), (39, ti39), (102, ti102), (110, ti110), (215, ti215)], [62, 94, 95, 104, 151, 152, 153, 154], bs, none, []⟩
abbrev n_cred_Make : FuncId := 103
theorem b_cred_Make : Tryz.prog.funcs[n_cred_Make]? = some Tryz.f103 := Tryz.func103
theorem good_cred_Make (W0 : World) (S : Nat → Prop) (bs : List Nat := []) : Good (cx_cred_Make W0 S bs) := ⟨fmc ⟨ok3, fmc ⟨ok5, fmc ⟨ok9, fmc ⟨ok28, fmc ⟨ok39, fmc ⟨ok102, fmc ⟨ok110, fmc ⟨ok215, (fun _ h => by cases h)⟩⟩⟩⟩⟩⟩⟩⟩, fmc ⟨by kernel_rfl, fmc ⟨by kernel_rfl, fmc ⟨by kernel_rfl, fmc ⟨by kernel_rfl, fmc ⟨by kernel_rfl, fmc ⟨by kernel_rfl, fmc ⟨by kernel_rfl, fmc ⟨by kernel_rfl, (fun _ h => by cases h)⟩⟩⟩⟩⟩⟩⟩⟩, mixed⟩
noncomputable def cx_name_Name (W0 : World) (S : Nat → Prop) (bs : List Nat := []) : Cx := ⟨Tryz.prog, W0, S, 8, [(3, ti3), (9, ti9)], [155], bs, none, []⟩
abbrev n_name_Name : FuncId := 104
theorem b_name_Name : Tryz.prog.funcs[n_name_Name]? = some Tryz.f104 := Tryz.func104
theorem good_name_Name (W0 : World) (S : Nat → Prop) (bs : List Nat := []) : Good (cx_name_Name W0 S bs) := ⟨fmc ⟨ok3, fmc ⟨ok9, (fun _ h => by cases h)⟩⟩, fmc ⟨by kernel_rfl, (fun _ h => by cases h)⟩, mixed⟩
noncomputable def cx_cred_Secret_right (W0 : World) (S : Nat → Prop) (bs : List Nat := []) : Cx := ⟨Tryz.prog, W0, S, 26, [(3, ti3), (5, ti5), (102, ti102), (110, ti110)], [152], bs, none, []⟩
abbrev n_cred_Secret_right : FuncId := 105
theorem b_cred_Secret_right : Tryz.prog.funcs[n_cred_Secret_right]? = some Tryz.f105 := Tryz.func105
theorem good_cred_Secret_right (W0 : World) (S : Nat → Prop) (bs : List Nat := []) : Good (cx_cred_Secret_right W0 S bs) := ⟨fmc ⟨ok3, fmc ⟨ok5, fmc ⟨ok102, fmc ⟨ok110, (fun _ h => by cases h)⟩⟩⟩⟩, fmc ⟨by kernel_rfl, (fun _ h => by cases h)⟩, mixed⟩
noncomputable def cx_cred_Secret_copyOf (W0 : World) (S : Nat → Prop) (bs : List Nat := []) : Cx := ⟨Tryz.prog, W0, S, 20, [(3, ti3), (5, ti5), (102, ti102), (110, ti110)], [94], bs, none, []⟩
abbrev n_cred_Secret_copyOf : FuncId := 106
theorem b_cred_Secret_copyOf : Tryz.prog.funcs[n_cred_Secret_copyOf]? = some Tryz.f106 := Tryz.func106
def p_cred_Secret_copyOf_1 : Plan := .take 0 (.take 1 (.take 3 (.take 4 (.take 6 (.take 7 (.take 9 (.take 10 (.exec 2 (.take 12 (.exec 5 (.exec 8 (.exec 11 (.brk 13 (.brk 14 (.brk 15 (.brk 16 (.brk 17 (.brk 18 (.brk 19 (.done))))))))))))))))))))
theorem good_cred_Secret_copyOf (W0 : World) (S : Nat → Prop) (bs : List Nat := []) : Good (cx_cred_Secret_copyOf W0 S bs) := ⟨fmc ⟨ok3, fmc ⟨ok5, fmc ⟨ok102, fmc ⟨ok110, (fun _ h => by cases h)⟩⟩⟩⟩, fmc ⟨by kernel_rfl, (fun _ h => by cases h)⟩, mixed⟩
noncomputable def cx_rule_lines (W0 : World) (S : Nat → Prop) (bs : List Nat := []) : Cx := ⟨Tryz.prog, W0, S, 4, [(9, ti9)], [156], bs, none, []⟩
abbrev n_rule_lines : FuncId := 107
theorem b_rule_lines : Tryz.prog.funcs[n_rule_lines]? = some Tryz.f107 := Tryz.func107
theorem good_rule_lines (W0 : World) (S : Nat → Prop) (bs : List Nat := []) : Good (cx_rule_lines W0 S bs) := ⟨fmc ⟨ok9, (fun _ h => by cases h)⟩, fmc ⟨by kernel_rfl, (fun _ h => by cases h)⟩, mixed⟩
noncomputable def cx_rule_line (W0 : World) (S : Nat → Prop) (bs : List Nat := []) : Cx := ⟨Tryz.prog, W0, S, 57, [(3, ti3), (4, ti4), (9, ti9), (34, ti34), (153, ti153)], [131, 158, 159], bs, none, []⟩
abbrev n_rule_line : FuncId := 108
theorem b_rule_line : Tryz.prog.funcs[n_rule_line]? = some Tryz.f108 := Tryz.func108
def p_rule_line_5 : Plan := .take 0 (.take 1 (.take 2 (.take 3 (.take 4 (.take 5 (.take 6 (.take 7 (.take 8 (.take 9 (.take 10 (.take 11 (.take 12 (.take 13 (.take 14 (.take 15 (.exec 16 (.exec 17 (.done))))))))))))))))))
def p_rule_line_6 : Plan := .take 0 (.take 1 (.take 2 (.take 3 (.exec 4 (.take 5 (.exec 6 (.take 7 (.done))))))))
theorem good_rule_line (W0 : World) (S : Nat → Prop) (bs : List Nat := []) : Good (cx_rule_line W0 S bs) := ⟨fmc ⟨ok3, fmc ⟨ok4, fmc ⟨ok9, fmc ⟨ok34, fmc ⟨ok153, (fun _ h => by cases h)⟩⟩⟩⟩⟩, fmc ⟨by kernel_rfl, fmc ⟨by kernel_rfl, fmc ⟨by kernel_rfl, (fun _ h => by cases h)⟩⟩⟩, mixed⟩
noncomputable def cx_box_Box_tag (W0 : World) (S : Nat → Prop) (bs : List Nat := []) : Cx := ⟨Tryz.prog, W0, S, 61, [(3, ti3), (4, ti4), (5, ti5), (9, ti9), (102, ti102), (140, ti140), (174, ti174), (175, ti175), (177, ti177), (219, ti219)], [160, 161, 162], bs, none, []⟩
abbrev n_box_Box_tag : FuncId := 109
theorem b_box_Box_tag : Tryz.prog.funcs[n_box_Box_tag]? = some Tryz.f109 := Tryz.func109
def p_box_Box_tag_8 : Plan := .take 0 (.take 1 (.take 2 (.take 3 (.take 4 (.take 5 (.exec 6 (.exec 7 (.exec 8 (.exec 9 (.take 10 (.brk 11 (.done))))))))))))
def p_box_Box_tag_9 : Plan := .take 0 (.take 1 (.take 2 (.take 3 (.take 4 (.take 5 (.take 6 (.take 7 (.take 8 (.take 9 (.exec 10 (.done)))))))))))
theorem good_box_Box_tag (W0 : World) (S : Nat → Prop) (bs : List Nat := []) : Good (cx_box_Box_tag W0 S bs) := ⟨fmc ⟨ok3, fmc ⟨ok4, fmc ⟨ok5, fmc ⟨ok9, fmc ⟨ok102, fmc ⟨ok140, fmc ⟨ok174, fmc ⟨ok175, fmc ⟨ok177, fmc ⟨ok219, (fun _ h => by cases h)⟩⟩⟩⟩⟩⟩⟩⟩⟩⟩, fmc ⟨by kernel_rfl, fmc ⟨by kernel_rfl, fmc ⟨by kernel_rfl, (fun _ h => by cases h)⟩⟩⟩, mixed⟩
noncomputable def cx_bytes_Join (W0 : World) (S : Nat → Prop) (bs : List Nat := []) : Cx := ⟨Tryz.prog, W0, S, 92, [(3, ti3), (5, ti5), (9, ti9), (102, ti102), (215, ti215)], [], bs, none, []⟩
abbrev n_bytes_Join : FuncId := 110
theorem b_bytes_Join : Tryz.prog.funcs[n_bytes_Join]? = some Tryz.f110 := Tryz.func110
theorem good_bytes_Join (W0 : World) (S : Nat → Prop) (bs : List Nat := []) : Good (cx_bytes_Join W0 S bs) := ⟨fmc ⟨ok3, fmc ⟨ok5, fmc ⟨ok9, fmc ⟨ok102, fmc ⟨ok215, (fun _ h => by cases h)⟩⟩⟩⟩⟩, (fun _ h => by cases h), mixed⟩
noncomputable def cx_hmac_Sum (W0 : World) (S : Nat → Prop) (bs : List Nat := []) : Cx := ⟨Tryz.prog, W0, S, 17, [(5, ti5), (102, ti102), (215, ti215)], [110, 164, 165], bs, none, []⟩
abbrev n_hmac_Sum : FuncId := 111
theorem b_hmac_Sum : Tryz.prog.funcs[n_hmac_Sum]? = some Tryz.f111 := Tryz.func111
theorem good_hmac_Sum (W0 : World) (S : Nat → Prop) (bs : List Nat := []) : Good (cx_hmac_Sum W0 S bs) := ⟨fmc ⟨ok5, fmc ⟨ok102, fmc ⟨ok215, (fun _ h => by cases h)⟩⟩⟩, fmc ⟨by kernel_rfl, fmc ⟨by kernel_rfl, fmc ⟨by kernel_rfl, (fun _ h => by cases h)⟩⟩⟩, mixed⟩
noncomputable def cx_internal_strconv_FormatUint (W0 : World) (S : Nat → Prop) (bs : List Nat := []) : Cx := ⟨Tryz.prog, W0, S, 32, [(3, ti3), (4, ti4), (5, ti5), (9, ti9), (32, ti32), (102, ti102), (268, ti268)], [166, 167, 168, 169], bs, none, []⟩
abbrev n_internal_strconv_FormatUint : FuncId := 112
theorem b_internal_strconv_FormatUint : Tryz.prog.funcs[n_internal_strconv_FormatUint]? = some Tryz.f112 := Tryz.func112
theorem good_internal_strconv_FormatUint (W0 : World) (S : Nat → Prop) (bs : List Nat := []) : Good (cx_internal_strconv_FormatUint W0 S bs) := ⟨fmc ⟨ok3, fmc ⟨ok4, fmc ⟨ok5, fmc ⟨ok9, fmc ⟨ok32, fmc ⟨ok102, fmc ⟨ok268, (fun _ h => by cases h)⟩⟩⟩⟩⟩⟩⟩, fmc ⟨by kernel_rfl, fmc ⟨by kernel_rfl, fmc ⟨by kernel_rfl, fmc ⟨by kernel_rfl, (fun _ h => by cases h)⟩⟩⟩⟩, mixed⟩
noncomputable def cx_ring_Ring_Epochs_1 (W0 : World) (S : Nat → Prop) (bs : List Nat := []) : Cx := ⟨Tryz.prog, W0, S, 23, [(3, ti3), (5, ti5), (32, ti32), (39, ti39), (43, ti43), (102, ti102), (116, ti116), (118, ti118), (122, ti122), (221, ti221)], [114, 115], bs, none, []⟩
abbrev n_ring_Ring_Epochs_1 : FuncId := 113
theorem b_ring_Ring_Epochs_1 : Tryz.prog.funcs[n_ring_Ring_Epochs_1]? = some Tryz.f113 := Tryz.func113
theorem good_ring_Ring_Epochs_1 (W0 : World) (S : Nat → Prop) (bs : List Nat := []) : Good (cx_ring_Ring_Epochs_1 W0 S bs) := ⟨fmc ⟨ok3, fmc ⟨ok5, fmc ⟨ok32, fmc ⟨ok39, fmc ⟨ok43, fmc ⟨ok102, fmc ⟨ok116, fmc ⟨ok118, fmc ⟨ok122, fmc ⟨ok221, (fun _ h => by cases h)⟩⟩⟩⟩⟩⟩⟩⟩⟩⟩, fmc ⟨by kernel_rfl, fmc ⟨by kernel_rfl, (fun _ h => by cases h)⟩⟩, mixed⟩
noncomputable def cx_slices_Sorted_uint64 (W0 : World) (S : Nat → Prop) (bs : List Nat := []) : Cx := ⟨Tryz.prog, W0, S, 9, [(32, ti32), (122, ti122), (221, ti221)], [170, 171], bs, none, []⟩
abbrev n_slices_Sorted_uint64 : FuncId := 114
theorem b_slices_Sorted_uint64 : Tryz.prog.funcs[n_slices_Sorted_uint64]? = some Tryz.f114 := Tryz.func114
theorem good_slices_Sorted_uint64 (W0 : World) (S : Nat → Prop) (bs : List Nat := []) : Good (cx_slices_Sorted_uint64 W0 S bs) := ⟨fmc ⟨ok32, fmc ⟨ok122, fmc ⟨ok221, (fun _ h => by cases h)⟩⟩⟩, fmc ⟨by kernel_rfl, fmc ⟨by kernel_rfl, (fun _ h => by cases h)⟩⟩, mixed⟩
noncomputable def cx_maps_Keys_map_uint64_byte_uint64_byte (W0 : World) (S : Nat → Prop) (bs : List Nat := []) : Cx := ⟨Tryz.prog, W0, S, 4, [(5, ti5), (32, ti32), (102, ti102), (116, ti116)], [172], bs, none, []⟩
abbrev n_maps_Keys_map_uint64_byte_uint64_byte : FuncId := 115
theorem b_maps_Keys_map_uint64_byte_uint64_byte : Tryz.prog.funcs[n_maps_Keys_map_uint64_byte_uint64_byte]? = some Tryz.f115 := Tryz.func115
theorem good_maps_Keys_map_uint64_byte_uint64_byte (W0 : World) (S : Nat → Prop) (bs : List Nat := []) : Good (cx_maps_Keys_map_uint64_byte_uint64_byte W0 S bs) := ⟨fmc ⟨ok5, fmc ⟨ok32, fmc ⟨ok102, fmc ⟨ok116, (fun _ h => by cases h)⟩⟩⟩⟩, fmc ⟨by kernel_rfl, (fun _ h => by cases h)⟩, mixed⟩
noncomputable def cx_strconv_ParseUint (W0 : World) (S : Nat → Prop) (bs : List Nat := []) : Cx := ⟨Tryz.prog, W0, S, 26, [(3, ti3), (9, ti9), (155, ti155)], [173, 174], bs, none, []⟩
abbrev n_strconv_ParseUint : FuncId := 116
theorem b_strconv_ParseUint : Tryz.prog.funcs[n_strconv_ParseUint]? = some Tryz.f116 := Tryz.func116
theorem good_strconv_ParseUint (W0 : World) (S : Nat → Prop) (bs : List Nat := []) : Good (cx_strconv_ParseUint W0 S bs) := ⟨fmc ⟨ok3, fmc ⟨ok9, fmc ⟨ok155, (fun _ h => by cases h)⟩⟩⟩, fmc ⟨by kernel_rfl, fmc ⟨by kernel_rfl, (fun _ h => by cases h)⟩⟩, mixed⟩
noncomputable def cx_cred_Cred_copyOf (W0 : World) (S : Nat → Prop) (bs : List Nat := []) : Cx := ⟨Tryz.prog, W0, S, 12, [(3, ti3), (4, ti4), (5, ti5), (9, ti9), (32, ti32), (34, ti34), (102, ti102), (110, ti110), (143, ti143)], [51, 106], bs, none, []⟩
abbrev n_cred_Cred_copyOf : FuncId := 129
theorem b_cred_Cred_copyOf : Tryz.prog.funcs[n_cred_Cred_copyOf]? = some Tryz.f129 := Tryz.func129
def p_cred_Cred_copyOf_1 : Plan := .take 0 (.take 1 (.take 3 (.take 4 (.exec 2 (.take 6 (.exec 5 (.brk 7 (.brk 8 (.brk 9 (.done))))))))))
theorem good_cred_Cred_copyOf (W0 : World) (S : Nat → Prop) (bs : List Nat := []) : Good (cx_cred_Cred_copyOf W0 S bs) := ⟨fmc ⟨ok3, fmc ⟨ok4, fmc ⟨ok5, fmc ⟨ok9, fmc ⟨ok32, fmc ⟨ok34, fmc ⟨ok102, fmc ⟨ok110, fmc ⟨ok143, (fun _ h => by cases h)⟩⟩⟩⟩⟩⟩⟩⟩⟩, fmc ⟨by kernel_rfl, fmc ⟨by kernel_rfl, (fun _ h => by cases h)⟩⟩, mixed⟩
noncomputable def cx_rule_Policy_Rules_1 (W0 : World) (S : Nat → Prop) (bs : List Nat := []) : Cx := ⟨Tryz.prog, W0, S, 23, [(3, ti3), (4, ti4), (9, ti9), (45, ti45), (153, ti153), (207, ti207), (209, ti209)], [], bs, none, []⟩
abbrev n_rule_Policy_Rules_1 : FuncId := 130
theorem b_rule_Policy_Rules_1 : Tryz.prog.funcs[n_rule_Policy_Rules_1]? = some Tryz.f130 := Tryz.func130
theorem good_rule_Policy_Rules_1 (W0 : World) (S : Nat → Prop) (bs : List Nat := []) : Good (cx_rule_Policy_Rules_1 W0 S bs) := ⟨fmc ⟨ok3, fmc ⟨ok4, fmc ⟨ok9, fmc ⟨ok45, fmc ⟨ok153, fmc ⟨ok207, fmc ⟨ok209, (fun _ h => by cases h)⟩⟩⟩⟩⟩⟩⟩, (fun _ h => by cases h), mixed⟩
noncomputable def cx_rule_Rule_right (W0 : World) (S : Nat → Prop) (bs : List Nat := []) : Cx := ⟨Tryz.prog, W0, S, 33, [(3, ti3), (4, ti4), (9, ti9), (153, ti153)], [181, 182], bs, none, []⟩
abbrev n_rule_Rule_right : FuncId := 131
theorem b_rule_Rule_right : Tryz.prog.funcs[n_rule_Rule_right]? = some Tryz.f131 := Tryz.func131
theorem good_rule_Rule_right (W0 : World) (S : Nat → Prop) (bs : List Nat := []) : Good (cx_rule_Rule_right W0 S bs) := ⟨fmc ⟨ok3, fmc ⟨ok4, fmc ⟨ok9, fmc ⟨ok153, (fun _ h => by cases h)⟩⟩⟩⟩, fmc ⟨by kernel_rfl, fmc ⟨by kernel_rfl, (fun _ h => by cases h)⟩⟩, mixed⟩
noncomputable def cx_rule_Rule_ports (W0 : World) (S : Nat → Prop) (bs : List Nat := []) : Cx := ⟨Tryz.prog, W0, S, 29, [(3, ti3), (4, ti4), (9, ti9), (153, ti153)], [72], bs, none, []⟩
abbrev n_rule_Rule_ports : FuncId := 132
theorem b_rule_Rule_ports : Tryz.prog.funcs[n_rule_Rule_ports]? = some Tryz.f132 := Tryz.func132
def p_rule_Rule_ports_5 : Plan := .take 0 (.take 1 (.take 4 (.take 5 (.exec 2 (.take 3 (.exec 6 (.take 7 (.take 8 (.done)))))))))
theorem good_rule_Rule_ports (W0 : World) (S : Nat → Prop) (bs : List Nat := []) : Good (cx_rule_Rule_ports W0 S bs) := ⟨fmc ⟨ok3, fmc ⟨ok4, fmc ⟨ok9, fmc ⟨ok153, (fun _ h => by cases h)⟩⟩⟩⟩, fmc ⟨by kernel_rfl, (fun _ h => by cases h)⟩, mixed⟩
abbrev n_strings_Builder_copyCheck : FuncId := 133
noncomputable def cx_cred_Store_Tenants_1 (W0 : World) (S : Nat → Prop) (bs : List Nat := []) : Cx := ⟨Tryz.prog, W0, S, 23, [(3, ti3), (9, ti9), (32, ti32), (34, ti34), (40, ti40), (159, ti159), (178, ti178), (180, ti180), (194, ti194), (196, ti196)], [135, 136], bs, none, []⟩
abbrev n_cred_Store_Tenants_1 : FuncId := 134
theorem b_cred_Store_Tenants_1 : Tryz.prog.funcs[n_cred_Store_Tenants_1]? = some Tryz.f134 := Tryz.func134
theorem good_cred_Store_Tenants_1 (W0 : World) (S : Nat → Prop) (bs : List Nat := []) : Good (cx_cred_Store_Tenants_1 W0 S bs) := ⟨fmc ⟨ok3, fmc ⟨ok9, fmc ⟨ok32, fmc ⟨ok34, fmc ⟨ok40, fmc ⟨ok159, fmc ⟨ok178, fmc ⟨ok180, fmc ⟨ok194, fmc ⟨ok196, (fun _ h => by cases h)⟩⟩⟩⟩⟩⟩⟩⟩⟩⟩, fmc ⟨by kernel_rfl, fmc ⟨by kernel_rfl, (fun _ h => by cases h)⟩⟩, mixed⟩
noncomputable def cx_order_plain (W0 : World) (S : Nat → Prop) (bs : List Nat := []) : Cx := ⟨Tryz.prog, W0, S, 17, [(5, ti5)], [], bs, none, []⟩
abbrev n_order_plain : FuncId := 143
theorem b_order_plain : Tryz.prog.funcs[n_order_plain]? = some Tryz.f143 := Tryz.func143
theorem good_order_plain (W0 : World) (S : Nat → Prop) (bs : List Nat := []) : Good (cx_order_plain W0 S bs) := ⟨fmc ⟨ok5, (fun _ h => by cases h)⟩, (fun _ h => by cases h), mixed⟩
noncomputable def cx_b64_Groups (W0 : World) (S : Nat → Prop) (bs : List Nat := []) : Cx := ⟨Tryz.prog, W0, S, 6, [(3, ti3), (9, ti9)], [190], bs, none, []⟩
abbrev n_b64_Groups : FuncId := 149
theorem b_b64_Groups : Tryz.prog.funcs[n_b64_Groups]? = some Tryz.f149 := Tryz.func149
theorem good_b64_Groups (W0 : World) (S : Nat → Prop) (bs : List Nat := []) : Good (cx_b64_Groups W0 S bs) := ⟨fmc ⟨ok3, fmc ⟨ok9, (fun _ h => by cases h)⟩⟩, fmc ⟨by kernel_rfl, (fun _ h => by cases h)⟩, mixed⟩
abbrev n_strings_IndexByte : FuncId := 150
noncomputable def cx_name_Password (W0 : World) (S : Nat → Prop) (bs : List Nat := []) : Cx := ⟨Tryz.prog, W0, S, 8, [(3, ti3), (9, ti9)], [155], bs, none, []⟩
abbrev n_name_Password : FuncId := 151
theorem b_name_Password : Tryz.prog.funcs[n_name_Password]? = some Tryz.f151 := Tryz.func151
theorem good_name_Password (W0 : World) (S : Nat → Prop) (bs : List Nat := []) : Good (cx_name_Password W0 S bs) := ⟨fmc ⟨ok3, fmc ⟨ok9, (fun _ h => by cases h)⟩⟩, fmc ⟨by kernel_rfl, (fun _ h => by cases h)⟩, mixed⟩
noncomputable def cx_cred_salted (W0 : World) (S : Nat → Prop) (bs : List Nat := []) : Cx := ⟨Tryz.prog, W0, S, 21, [(3, ti3), (5, ti5), (102, ti102)], [], bs, none, []⟩
abbrev n_cred_salted : FuncId := 152
theorem b_cred_salted : Tryz.prog.funcs[n_cred_salted]? = some Tryz.f152 := Tryz.func152
theorem good_cred_salted (W0 : World) (S : Nat → Prop) (bs : List Nat := []) : Good (cx_cred_salted W0 S bs) := ⟨fmc ⟨ok3, fmc ⟨ok5, fmc ⟨ok102, (fun _ h => by cases h)⟩⟩⟩, (fun _ h => by cases h), mixed⟩
noncomputable def cx_box_Box_Stretch (W0 : World) (S : Nat → Prop) (bs : List Nat := []) : Cx := ⟨Tryz.prog, W0, S, 37, [(3, ti3), (4, ti4), (5, ti5), (9, ti9), (39, ti39), (102, ti102), (140, ti140), (174, ti174), (175, ti175), (177, ti177), (219, ti219)], [109, 192], bs, none, []⟩
abbrev n_box_Box_Stretch : FuncId := 153
theorem b_box_Box_Stretch : Tryz.prog.funcs[n_box_Box_Stretch]? = some Tryz.f153 := Tryz.func153
theorem good_box_Box_Stretch (W0 : World) (S : Nat → Prop) (bs : List Nat := []) : Good (cx_box_Box_Stretch W0 S bs) := ⟨fmc ⟨ok3, fmc ⟨ok4, fmc ⟨ok5, fmc ⟨ok9, fmc ⟨ok39, fmc ⟨ok102, fmc ⟨ok140, fmc ⟨ok174, fmc ⟨ok175, fmc ⟨ok177, fmc ⟨ok219, (fun _ h => by cases h)⟩⟩⟩⟩⟩⟩⟩⟩⟩⟩⟩, fmc ⟨by kernel_rfl, fmc ⟨by kernel_rfl, (fun _ h => by cases h)⟩⟩, mixed⟩
noncomputable def cx_box_Box_Hash (W0 : World) (S : Nat → Prop) (bs : List Nat := []) : Cx := ⟨Tryz.prog, W0, S, 20, [(3, ti3), (4, ti4), (5, ti5), (9, ti9), (39, ti39), (102, ti102), (140, ti140), (174, ti174), (175, ti175), (177, ti177), (215, ti215), (219, ti219)], [109, 110, 164], bs, none, []⟩
abbrev n_box_Box_Hash : FuncId := 154
theorem b_box_Box_Hash : Tryz.prog.funcs[n_box_Box_Hash]? = some Tryz.f154 := Tryz.func154
theorem good_box_Box_Hash (W0 : World) (S : Nat → Prop) (bs : List Nat := []) : Good (cx_box_Box_Hash W0 S bs) := ⟨fmc ⟨ok3, fmc ⟨ok4, fmc ⟨ok5, fmc ⟨ok9, fmc ⟨ok39, fmc ⟨ok102, fmc ⟨ok140, fmc ⟨ok174, fmc ⟨ok175, fmc ⟨ok177, fmc ⟨ok215, fmc ⟨ok219, (fun _ h => by cases h)⟩⟩⟩⟩⟩⟩⟩⟩⟩⟩⟩⟩, fmc ⟨by kernel_rfl, fmc ⟨by kernel_rfl, fmc ⟨by kernel_rfl, (fun _ h => by cases h)⟩⟩⟩, mixed⟩
noncomputable def cx_name_sized (W0 : World) (S : Nat → Prop) (bs : List Nat := []) : Cx := ⟨Tryz.prog, W0, S, 26, [(3, ti3), (9, ti9), (28, ti28)], [193], bs, none, []⟩
abbrev n_name_sized : FuncId := 155
theorem b_name_sized : Tryz.prog.funcs[n_name_sized]? = some Tryz.f155 := Tryz.func155
theorem good_name_sized (W0 : World) (S : Nat → Prop) (bs : List Nat := []) : Good (cx_name_sized W0 S bs) := ⟨fmc ⟨ok3, fmc ⟨ok9, fmc ⟨ok28, (fun _ h => by cases h)⟩⟩⟩, fmc ⟨by kernel_rfl, (fun _ h => by cases h)⟩, mixed⟩
noncomputable def cx_rule_lines_1 (W0 : World) (S : Nat → Prop) (bs : List Nat := []) : Cx := ⟨Tryz.prog, W0, S, 23, [(3, ti3), (9, ti9)], [157], bs, none, []⟩
abbrev n_rule_lines_1 : FuncId := 156
theorem b_rule_lines_1 : Tryz.prog.funcs[n_rule_lines_1]? = some Tryz.f156 := Tryz.func156
theorem good_rule_lines_1 (W0 : World) (S : Nat → Prop) (bs : List Nat := []) : Good (cx_rule_lines_1 W0 S bs) := ⟨fmc ⟨ok3, fmc ⟨ok9, (fun _ h => by cases h)⟩⟩, fmc ⟨by kernel_rfl, (fun _ h => by cases h)⟩, mixed⟩
abbrev n_strings_Cut : FuncId := 157
abbrev n_strings_Split : FuncId := 158
noncomputable def cx_rule_span (W0 : World) (S : Nat → Prop) (bs : List Nat := []) : Cx := ⟨Tryz.prog, W0, S, 46, [(3, ti3), (9, ti9)], [157, 196], bs, none, []⟩
abbrev n_rule_span : FuncId := 159
theorem b_rule_span : Tryz.prog.funcs[n_rule_span]? = some Tryz.f159 := Tryz.func159
theorem good_rule_span (W0 : World) (S : Nat → Prop) (bs : List Nat := []) : Good (cx_rule_span W0 S bs) := ⟨fmc ⟨ok3, fmc ⟨ok9, (fun _ h => by cases h)⟩⟩, fmc ⟨by kernel_rfl, fmc ⟨by kernel_rfl, (fun _ h => by cases h)⟩⟩, mixed⟩
noncomputable def cx_box_Term_print (W0 : World) (S : Nat → Prop) (bs : List Nat := []) : Cx := ⟨Tryz.prog, W0, S, 54, [(3, ti3), (5, ti5), (9, ti9), (102, ti102), (140, ti140), (215, ti215), (219, ti219)], [110, 197], bs, none, []⟩
abbrev n_box_Term_print : FuncId := 160
theorem b_box_Term_print : Tryz.prog.funcs[n_box_Term_print]? = some Tryz.f160 := Tryz.func160
theorem good_box_Term_print (W0 : World) (S : Nat → Prop) (bs : List Nat := []) : Good (cx_box_Term_print W0 S bs) := ⟨fmc ⟨ok3, fmc ⟨ok5, fmc ⟨ok9, fmc ⟨ok102, fmc ⟨ok140, fmc ⟨ok215, fmc ⟨ok219, (fun _ h => by cases h)⟩⟩⟩⟩⟩⟩⟩, fmc ⟨by kernel_rfl, fmc ⟨by kernel_rfl, (fun _ h => by cases h)⟩⟩, mixed⟩
noncomputable def cx_box_Handle (W0 : World) (S : Nat → Prop) (bs : List Nat := []) : Cx := ⟨Tryz.prog, W0, S, 17, [(3, ti3), (5, ti5), (102, ti102)], [198], bs, none, []⟩
abbrev n_box_Handle : FuncId := 161
theorem b_box_Handle : Tryz.prog.funcs[n_box_Handle]? = some Tryz.f161 := Tryz.func161
theorem good_box_Handle (W0 : World) (S : Nat → Prop) (bs : List Nat := []) : Good (cx_box_Handle W0 S bs) := ⟨fmc ⟨ok3, fmc ⟨ok5, fmc ⟨ok102, (fun _ h => by cases h)⟩⟩⟩, fmc ⟨by kernel_rfl, (fun _ h => by cases h)⟩, mixed⟩
noncomputable def cx_box_copyOf (W0 : World) (S : Nat → Prop) (bs : List Nat := []) : Cx := ⟨Tryz.prog, W0, S, 20, [(3, ti3), (5, ti5), (102, ti102), (140, ti140), (219, ti219)], [94, 199], bs, none, []⟩
abbrev n_box_copyOf : FuncId := 162
theorem b_box_copyOf : Tryz.prog.funcs[n_box_copyOf]? = some Tryz.f162 := Tryz.func162
def p_box_copyOf_1 : Plan := .take 0 (.take 1 (.take 3 (.take 4 (.take 6 (.take 7 (.take 9 (.take 10 (.exec 2 (.take 12 (.exec 5 (.exec 8 (.exec 11 (.brk 13 (.brk 14 (.brk 15 (.brk 16 (.brk 17 (.brk 18 (.brk 19 (.done))))))))))))))))))))
theorem good_box_copyOf (W0 : World) (S : Nat → Prop) (bs : List Nat := []) : Good (cx_box_copyOf W0 S bs) := ⟨fmc ⟨ok3, fmc ⟨ok5, fmc ⟨ok102, fmc ⟨ok140, fmc ⟨ok219, (fun _ h => by cases h)⟩⟩⟩⟩⟩, fmc ⟨by kernel_rfl, fmc ⟨by kernel_rfl, (fun _ h => by cases h)⟩⟩, mixed⟩
noncomputable def cx_sha_Sum (W0 : World) (S : Nat → Prop) (bs : List Nat := []) : Cx := ⟨Tryz.prog, W0, S, 13, [(5, ti5), (102, ti102), (184, ti184), (215, ti215), (290, ti290), (291, ti291)], [110, 200, 201, 202], bs, none, []⟩
abbrev n_sha_Sum : FuncId := 164
theorem b_sha_Sum : Tryz.prog.funcs[n_sha_Sum]? = some Tryz.f164 := Tryz.func164
theorem good_sha_Sum (W0 : World) (S : Nat → Prop) (bs : List Nat := []) : Good (cx_sha_Sum W0 S bs) := ⟨fmc ⟨ok5, fmc ⟨ok102, fmc ⟨ok184, fmc ⟨ok215, fmc ⟨ok290, fmc ⟨ok291, (fun _ h => by cases h)⟩⟩⟩⟩⟩⟩, fmc ⟨by kernel_rfl, fmc ⟨by kernel_rfl, fmc ⟨by kernel_rfl, fmc ⟨by kernel_rfl, (fun _ h => by cases h)⟩⟩⟩⟩, mixed⟩
noncomputable def cx_hmac_pad (W0 : World) (S : Nat → Prop) (bs : List Nat := []) : Cx := ⟨Tryz.prog, W0, S, 33, [(3, ti3), (5, ti5), (102, ti102), (215, ti215)], [164, 203], bs, none, []⟩
abbrev n_hmac_pad : FuncId := 165
theorem b_hmac_pad : Tryz.prog.funcs[n_hmac_pad]? = some Tryz.f165 := Tryz.func165
theorem good_hmac_pad (W0 : World) (S : Nat → Prop) (bs : List Nat := []) : Good (cx_hmac_pad W0 S bs) := ⟨fmc ⟨ok3, fmc ⟨ok5, fmc ⟨ok102, fmc ⟨ok215, (fun _ h => by cases h)⟩⟩⟩⟩, fmc ⟨by kernel_rfl, fmc ⟨by kernel_rfl, (fun _ h => by cases h)⟩⟩, mixed⟩
abbrev n_internal_strconv_small : FuncId := 166
noncomputable def cx_slices_Collect_uint64 (W0 : World) (S : Nat → Prop) (bs : List Nat := []) : Cx := ⟨Tryz.prog, W0, S, 5, [(32, ti32), (122, ti122), (221, ti221)], [209], bs, none, []⟩
abbrev n_slices_Collect_uint64 : FuncId := 170
theorem b_slices_Collect_uint64 : Tryz.prog.funcs[n_slices_Collect_uint64]? = some Tryz.f170 := Tryz.func170
theorem good_slices_Collect_uint64 (W0 : World) (S : Nat → Prop) (bs : List Nat := []) : Good (cx_slices_Collect_uint64 W0 S bs) := ⟨fmc ⟨ok32, fmc ⟨ok122, fmc ⟨ok221, (fun _ h => by cases h)⟩⟩⟩, fmc ⟨by kernel_rfl, (fun _ h => by cases h)⟩, mixed⟩
noncomputable def cx_slices_Sort_uint64_uint64 (W0 : World) (S : Nat → Prop) (bs : List Nat := []) : Cx := ⟨Tryz.prog, W0, S, 11, [(3, ti3), (32, ti32), (221, ti221), (252, ti252)], [210, 211], bs, none, []⟩
abbrev n_slices_Sort_uint64_uint64 : FuncId := 171
theorem b_slices_Sort_uint64_uint64 : Tryz.prog.funcs[n_slices_Sort_uint64_uint64]? = some Tryz.f171 := Tryz.func171
theorem good_slices_Sort_uint64_uint64 (W0 : World) (S : Nat → Prop) (bs : List Nat := []) : Good (cx_slices_Sort_uint64_uint64 W0 S bs) := ⟨fmc ⟨ok3, fmc ⟨ok32, fmc ⟨ok221, fmc ⟨ok252, (fun _ h => by cases h)⟩⟩⟩⟩, fmc ⟨by kernel_rfl, fmc ⟨by kernel_rfl, (fun _ h => by cases h)⟩⟩, mixed⟩
noncomputable def cx_maps_Keys_map_uint64_byte_uint64_byte_1 (W0 : World) (S : Nat → Prop) (bs : List Nat := []) : Cx := ⟨Tryz.prog, W0, S, 14, [(5, ti5), (32, ti32), (102, ti102), (116, ti116)], [], bs, none, []⟩
abbrev n_maps_Keys_map_uint64_byte_uint64_byte_1 : FuncId := 172
theorem b_maps_Keys_map_uint64_byte_uint64_byte_1 : Tryz.prog.funcs[n_maps_Keys_map_uint64_byte_uint64_byte_1]? = some Tryz.f172 := Tryz.func172
theorem good_maps_Keys_map_uint64_byte_uint64_byte_1 (W0 : World) (S : Nat → Prop) (bs : List Nat := []) : Good (cx_maps_Keys_map_uint64_byte_uint64_byte_1 W0 S bs) := ⟨fmc ⟨ok5, fmc ⟨ok32, fmc ⟨ok102, fmc ⟨ok116, (fun _ h => by cases h)⟩⟩⟩⟩, (fun _ h => by cases h), mixed⟩
abbrev n_internal_strconv_ParseUint : FuncId := 173
abbrev n_strconv_toError : FuncId := 174
noncomputable def cx_rule_word (W0 : World) (S : Nat → Prop) (bs : List Nat := []) : Cx := ⟨Tryz.prog, W0, S, 9, [(9, ti9)], [95], bs, none, []⟩
abbrev n_rule_word : FuncId := 181
theorem b_rule_word : Tryz.prog.funcs[n_rule_word]? = some Tryz.f181 := Tryz.func181
theorem good_rule_word (W0 : World) (S : Nat → Prop) (bs : List Nat := []) : Good (cx_rule_word W0 S bs) := ⟨fmc ⟨ok9, (fun _ h => by cases h)⟩, fmc ⟨by kernel_rfl, (fun _ h => by cases h)⟩, mixed⟩
noncomputable def cx_rule_pattern (W0 : World) (S : Nat → Prop) (bs : List Nat := []) : Cx := ⟨Tryz.prog, W0, S, 41, [(3, ti3), (5, ti5), (9, ti9), (102, ti102)], [], bs, none, []⟩
abbrev n_rule_pattern : FuncId := 182
theorem b_rule_pattern : Tryz.prog.funcs[n_rule_pattern]? = some Tryz.f182 := Tryz.func182
theorem good_rule_pattern (W0 : World) (S : Nat → Prop) (bs : List Nat := []) : Good (cx_rule_pattern W0 S bs) := ⟨fmc ⟨ok3, fmc ⟨ok5, fmc ⟨ok9, fmc ⟨ok102, (fun _ h => by cases h)⟩⟩⟩⟩, (fun _ h => by cases h), mixed⟩
noncomputable def cx_b64_Groups_1 (W0 : World) (S : Nat → Prop) (bs : List Nat := []) : Cx := ⟨Tryz.prog, W0, S, 24, [(3, ti3), (9, ti9)], [], bs, none, []⟩
abbrev n_b64_Groups_1 : FuncId := 190
theorem b_b64_Groups_1 : Tryz.prog.funcs[n_b64_Groups_1]? = some Tryz.f190 := Tryz.func190
theorem good_b64_Groups_1 (W0 : World) (S : Nat → Prop) (bs : List Nat := []) : Good (cx_b64_Groups_1 W0 S bs) := ⟨fmc ⟨ok3, fmc ⟨ok9, (fun _ h => by cases h)⟩⟩, (fun _ h => by cases h), mixed⟩
noncomputable def cx_hmac_Stretch (W0 : World) (S : Nat → Prop) (bs : List Nat := []) : Cx := ⟨Tryz.prog, W0, S, 27, [(3, ti3), (5, ti5), (102, ti102), (293, ti293)], [229, 230, 231], bs, none, []⟩
abbrev n_hmac_Stretch : FuncId := 192
theorem b_hmac_Stretch : Tryz.prog.funcs[n_hmac_Stretch]? = some Tryz.f192 := Tryz.func192
theorem good_hmac_Stretch (W0 : World) (S : Nat → Prop) (bs : List Nat := []) : Good (cx_hmac_Stretch W0 S bs) := ⟨fmc ⟨ok3, fmc ⟨ok5, fmc ⟨ok102, fmc ⟨ok293, (fun _ h => by cases h)⟩⟩⟩⟩, fmc ⟨by kernel_rfl, fmc ⟨by kernel_rfl, fmc ⟨by kernel_rfl, (fun _ h => by cases h)⟩⟩⟩, mixed⟩
noncomputable def cx_name_Prepare (W0 : World) (S : Nat → Prop) (bs : List Nat := []) : Cx := ⟨Tryz.prog, W0, S, 25, [(5, ti5), (9, ti9), (21, ti21), (28, ti28), (102, ti102), (322, ti322), (324, ti324), (325, ti325)], [232, 233, 234, 235], bs, none, []⟩
abbrev n_name_Prepare : FuncId := 193
theorem b_name_Prepare : Tryz.prog.funcs[n_name_Prepare]? = some Tryz.f193 := Tryz.func193
theorem good_name_Prepare (W0 : World) (S : Nat → Prop) (bs : List Nat := []) : Good (cx_name_Prepare W0 S bs) := ⟨fmc ⟨ok5, fmc ⟨ok9, fmc ⟨ok21, fmc ⟨ok28, fmc ⟨ok102, fmc ⟨ok322, fmc ⟨ok324, fmc ⟨ok325, (fun _ h => by cases h)⟩⟩⟩⟩⟩⟩⟩⟩, fmc ⟨by kernel_rfl, fmc ⟨by kernel_rfl, fmc ⟨by kernel_rfl, fmc ⟨by kernel_rfl, (fun _ h => by cases h)⟩⟩⟩⟩, mixed⟩
noncomputable def cx_rule_port (W0 : World) (S : Nat → Prop) (bs : List Nat := []) : Cx := ⟨Tryz.prog, W0, S, 28, [(3, ti3), (9, ti9), (155, ti155)], [72, 240], bs, none, []⟩
abbrev n_rule_port : FuncId := 196
theorem b_rule_port : Tryz.prog.funcs[n_rule_port]? = some Tryz.f196 := Tryz.func196
theorem good_rule_port (W0 : World) (S : Nat → Prop) (bs : List Nat := []) : Good (cx_rule_port W0 S bs) := ⟨fmc ⟨ok3, fmc ⟨ok9, fmc ⟨ok155, (fun _ h => by cases h)⟩⟩⟩, fmc ⟨by kernel_rfl, fmc ⟨by kernel_rfl, (fun _ h => by cases h)⟩⟩, mixed⟩
noncomputable def cx_box_Term_print_1 (W0 : World) (S : Nat → Prop) (bs : List Nat := []) : Cx := ⟨Tryz.prog, W0, S, 18, [(3, ti3), (5, ti5), (102, ti102)], [], bs, none, []⟩
abbrev n_box_Term_print_1 : FuncId := 197
theorem b_box_Term_print_1 : Tryz.prog.funcs[n_box_Term_print_1]? = some Tryz.f197 := Tryz.func197
theorem good_box_Term_print_1 (W0 : World) (S : Nat → Prop) (bs : List Nat := []) : Good (cx_box_Term_print_1 W0 S bs) := ⟨fmc ⟨ok3, fmc ⟨ok5, fmc ⟨ok102, (fun _ h => by cases h)⟩⟩⟩, (fun _ h => by cases h), mixed⟩
noncomputable def cx_box_mark (W0 : World) (S : Nat → Prop) (bs : List Nat := []) : Cx := ⟨Tryz.prog, W0, S, 7, [(5, ti5), (102, ti102)], [], bs, none, []⟩
abbrev n_box_mark : FuncId := 198
theorem b_box_mark : Tryz.prog.funcs[n_box_mark]? = some Tryz.f198 := Tryz.func198
theorem good_box_mark (W0 : World) (S : Nat → Prop) (bs : List Nat := []) : Good (cx_box_mark W0 S bs) := ⟨fmc ⟨ok5, fmc ⟨ok102, (fun _ h => by cases h)⟩⟩, (fun _ h => by cases h), mixed⟩
noncomputable def cx_slices_Clone_int_int (W0 : World) (S : Nat → Prop) (bs : List Nat := []) : Cx := ⟨Tryz.prog, W0, S, 8, [(3, ti3), (140, ti140)], [], bs, none, []⟩
abbrev n_slices_Clone_int_int : FuncId := 199
theorem b_slices_Clone_int_int : Tryz.prog.funcs[n_slices_Clone_int_int]? = some Tryz.f199 := Tryz.func199
theorem good_slices_Clone_int_int (W0 : World) (S : Nat → Prop) (bs : List Nat := []) : Good (cx_slices_Clone_int_int W0 S bs) := ⟨fmc ⟨ok3, fmc ⟨ok140, (fun _ h => by cases h)⟩⟩, (fun _ h => by cases h), mixed⟩
noncomputable def cx_sha_Blocks (W0 : World) (S : Nat → Prop) (bs : List Nat := []) : Cx := ⟨Tryz.prog, W0, S, 4, [(5, ti5), (102, ti102)], [241], bs, none, []⟩
abbrev n_sha_Blocks : FuncId := 200
theorem b_sha_Blocks : Tryz.prog.funcs[n_sha_Blocks]? = some Tryz.f200 := Tryz.func200
theorem good_sha_Blocks (W0 : World) (S : Nat → Prop) (bs : List Nat := []) : Good (cx_sha_Blocks W0 S bs) := ⟨fmc ⟨ok5, fmc ⟨ok102, (fun _ h => by cases h)⟩⟩, fmc ⟨by kernel_rfl, (fun _ h => by cases h)⟩, mixed⟩
noncomputable def cx_sha_state_step (W0 : World) (S : Nat → Prop) (bs : List Nat := []) : Cx := ⟨Tryz.prog, W0, S, 144, [(3, ti3), (5, ti5), (102, ti102), (184, ti184), (290, ti290), (291, ti291), (332, ti332)], [243, 244], bs, none, []⟩
abbrev n_sha_state_step : FuncId := 201
theorem b_sha_state_step : Tryz.prog.funcs[n_sha_state_step]? = some Tryz.f201 := Tryz.func201
def p_sha_state_step_1 : Plan := .take 0 (.take 1 (.take 2 (.take 3 (.take 4 (.take 5 (.take 6 (.take 7 (.take 8 (.take 9 (.take 10 (.take 11 (.take 12 (.take 13 (.take 14 (.take 15 (.take 16 (.take 17 (.take 18 (.take 19 (.take 20 (.take 21 (.take 22 (.take 23 (.take 24 (.take 25 (.take 26 (.take 27 (.take 28 (.take 29 (.take 30 (.take 31 (.take 32 (.take 33 (.take 34 (.take 35 (.take 36 (.take 37 (.take 38 (.take 39 (.done))))))))))))))))))))))))))))))))))))))))
def p_sha_state_step_7 : Plan := .take 0 (.take 1 (.take 2 (.take 3 (.take 4 (.take 5 (.take 6 (.take 7 (.take 8 (.take 9 (.take 10 (.take 11 (.take 12 (.take 13 (.done))))))))))))))
def p_sha_state_step_15 : Plan := .take 0 (.take 1 (.take 2 (.take 3 (.take 5 (.take 7 (.exec 4 (.take 6 (.take 8 (.exec 9 (.done))))))))))
theorem good_sha_state_step (W0 : World) (S : Nat → Prop) (bs : List Nat := []) : Good (cx_sha_state_step W0 S bs) := ⟨fmc ⟨ok3, fmc ⟨ok5, fmc ⟨ok102, fmc ⟨ok184, fmc ⟨ok290, fmc ⟨ok291, fmc ⟨ok332, (fun _ h => by cases h)⟩⟩⟩⟩⟩⟩⟩, fmc ⟨by kernel_rfl, fmc ⟨by kernel_rfl, (fun _ h => by cases h)⟩⟩, mixed⟩
noncomputable def cx_sha_state_bytes (W0 : World) (S : Nat → Prop) (bs : List Nat := []) : Cx := ⟨Tryz.prog, W0, S, 28, [(3, ti3), (5, ti5), (102, ti102), (184, ti184), (291, ti291)], [], bs, none, []⟩
abbrev n_sha_state_bytes : FuncId := 202
theorem b_sha_state_bytes : Tryz.prog.funcs[n_sha_state_bytes]? = some Tryz.f202 := Tryz.func202
theorem good_sha_state_bytes (W0 : World) (S : Nat → Prop) (bs : List Nat := []) : Good (cx_sha_state_bytes W0 S bs) := ⟨fmc ⟨ok3, fmc ⟨ok5, fmc ⟨ok102, fmc ⟨ok184, fmc ⟨ok291, (fun _ h => by cases h)⟩⟩⟩⟩⟩, (fun _ h => by cases h), mixed⟩
noncomputable def cx_bytes_Repeat (W0 : World) (S : Nat → Prop) (bs : List Nat := []) : Cx := ⟨Tryz.prog, W0, S, 77, [(3, ti3), (5, ti5), (9, ti9), (102, ti102), (252, ti252)], [245], bs, none, []⟩
abbrev n_bytes_Repeat : FuncId := 203
theorem b_bytes_Repeat : Tryz.prog.funcs[n_bytes_Repeat]? = some Tryz.f203 := Tryz.func203
def p_bytes_Repeat_20 : Plan := .take 0 (.take 1 (.take 2 (.take 3 (.take 4 (.take 5 (.take 6 (.exec 7 (.take 8 (.take 9 (.done))))))))))
theorem good_bytes_Repeat (W0 : World) (S : Nat → Prop) (bs : List Nat := []) : Good (cx_bytes_Repeat W0 S bs) := ⟨fmc ⟨ok3, fmc ⟨ok5, fmc ⟨ok9, fmc ⟨ok102, fmc ⟨ok252, (fun _ h => by cases h)⟩⟩⟩⟩⟩, fmc ⟨by kernel_rfl, (fun _ h => by cases h)⟩, mixed⟩
noncomputable def cx_slices_AppendSeq_uint64_uint64 (W0 : World) (S : Nat → Prop) (bs : List Nat := []) : Cx := ⟨Tryz.prog, W0, S, 13, [(32, ti32), (221, ti221)], [], bs, none, []⟩
abbrev n_slices_AppendSeq_uint64_uint64 : FuncId := 209
theorem b_slices_AppendSeq_uint64_uint64 : Tryz.prog.funcs[n_slices_AppendSeq_uint64_uint64]? = some Tryz.f209 := Tryz.func209
theorem good_slices_AppendSeq_uint64_uint64 (W0 : World) (S : Nat → Prop) (bs : List Nat := []) : Good (cx_slices_AppendSeq_uint64_uint64 W0 S bs) := ⟨fmc ⟨ok32, fmc ⟨ok221, (fun _ h => by cases h)⟩⟩, (fun _ h => by cases h), mixed⟩
noncomputable def cx_slices_pdqsortOrdered_uint64 (W0 : World) (S : Nat → Prop) (bs : List Nat := []) : Cx := ⟨Tryz.prog, W0, S, 134, [(3, ti3), (32, ti32), (221, ti221), (339, ti339)], [210, 248, 249, 250, 251, 252, 253, 254, 255, 256], bs, none, []⟩
abbrev n_slices_pdqsortOrdered_uint64 : FuncId := 210
theorem b_slices_pdqsortOrdered_uint64 : Tryz.prog.funcs[n_slices_pdqsortOrdered_uint64]? = some Tryz.f210 := Tryz.func210
theorem good_slices_pdqsortOrdered_uint64 (W0 : World) (S : Nat → Prop) (bs : List Nat := []) : Good (cx_slices_pdqsortOrdered_uint64 W0 S bs) := ⟨fmc ⟨ok3, fmc ⟨ok32, fmc ⟨ok221, fmc ⟨ok339, (fun _ h => by cases h)⟩⟩⟩⟩, fmc ⟨by kernel_rfl, fmc ⟨by kernel_rfl, fmc ⟨by kernel_rfl, fmc ⟨by kernel_rfl, fmc ⟨by kernel_rfl, fmc ⟨by kernel_rfl, fmc ⟨by kernel_rfl, fmc ⟨by kernel_rfl, fmc ⟨by kernel_rfl, fmc ⟨by kernel_rfl, (fun _ h => by cases h)⟩⟩⟩⟩⟩⟩⟩⟩⟩⟩, mixed⟩
abbrev n_math_bits_Len : FuncId := 211
noncomputable def cx_hmac_sized (W0 : World) (S : Nat → Prop) (bs : List Nat := []) : Cx := ⟨Tryz.prog, W0, S, 9, [(3, ti3)], [], bs, none, []⟩
abbrev n_hmac_sized : FuncId := 229
theorem b_hmac_sized : Tryz.prog.funcs[n_hmac_sized]? = some Tryz.f229 := Tryz.func229
theorem good_hmac_sized (W0 : World) (S : Nat → Prop) (bs : List Nat := []) : Good (cx_hmac_sized W0 S bs) := ⟨fmc ⟨ok3, (fun _ h => by cases h)⟩, (fun _ h => by cases h), mixed⟩
noncomputable def cx_hmac_first (W0 : World) (S : Nat → Prop) (bs : List Nat := []) : Cx := ⟨Tryz.prog, W0, S, 20, [(3, ti3), (5, ti5), (102, ti102)], [94], bs, none, []⟩
abbrev n_hmac_first : FuncId := 230
theorem b_hmac_first : Tryz.prog.funcs[n_hmac_first]? = some Tryz.f230 := Tryz.func230
theorem good_hmac_first (W0 : World) (S : Nat → Prop) (bs : List Nat := []) : Good (cx_hmac_first W0 S bs) := ⟨fmc ⟨ok3, fmc ⟨ok5, fmc ⟨ok102, (fun _ h => by cases h)⟩⟩⟩, fmc ⟨by kernel_rfl, (fun _ h => by cases h)⟩, mixed⟩
noncomputable def cx_hmac_pieces (W0 : World) (S : Nat → Prop) (bs : List Nat := []) : Cx := ⟨Tryz.prog, W0, S, 8, [(3, ti3), (5, ti5), (102, ti102)], [268], bs, none, []⟩
abbrev n_hmac_pieces : FuncId := 231
theorem b_hmac_pieces : Tryz.prog.funcs[n_hmac_pieces]? = some Tryz.f231 := Tryz.func231
theorem good_hmac_pieces (W0 : World) (S : Nat → Prop) (bs : List Nat := []) : Good (cx_hmac_pieces W0 S bs) := ⟨fmc ⟨ok3, fmc ⟨ok5, fmc ⟨ok102, (fun _ h => by cases h)⟩⟩⟩, fmc ⟨by kernel_rfl, (fun _ h => by cases h)⟩, mixed⟩
noncomputable def cx_name_Valid (W0 : World) (S : Nat → Prop) (bs : List Nat := []) : Cx := ⟨Tryz.prog, W0, S, 11, [(4, ti4), (9, ti9), (21, ti21)], [276], bs, none, []⟩
abbrev n_name_Valid : FuncId := 232
theorem b_name_Valid : Tryz.prog.funcs[n_name_Valid]? = some Tryz.f232 := Tryz.func232
theorem good_name_Valid (W0 : World) (S : Nat → Prop) (bs : List Nat := []) : Good (cx_name_Valid W0 S bs) := ⟨fmc ⟨ok4, fmc ⟨ok9, fmc ⟨ok21, (fun _ h => by cases h)⟩⟩⟩, fmc ⟨by kernel_rfl, (fun _ h => by cases h)⟩, mixed⟩
noncomputable def cx_name_prepared (W0 : World) (S : Nat → Prop) (bs : List Nat := []) : Cx := ⟨Tryz.prog, W0, S, 4, [(9, ti9)], [277], bs, none, []⟩
abbrev n_name_prepared : FuncId := 233
theorem b_name_prepared : Tryz.prog.funcs[n_name_prepared]? = some Tryz.f233 := Tryz.func233
theorem good_name_prepared (W0 : World) (S : Nat → Prop) (bs : List Nat := []) : Good (cx_name_prepared W0 S bs) := ⟨fmc ⟨ok9, (fun _ h => by cases h)⟩, fmc ⟨by kernel_rfl, (fun _ h => by cases h)⟩, mixed⟩
noncomputable def cx_name_within (W0 : World) (S : Nat → Prop) (bs : List Nat := []) : Cx := ⟨Tryz.prog, W0, S, 24, [(3, ti3), (21, ti21), (322, ti322), (324, ti324)], [], bs, none, []⟩
abbrev n_name_within : FuncId := 234
theorem b_name_within : Tryz.prog.funcs[n_name_within]? = some Tryz.f234 := Tryz.func234
theorem good_name_within (W0 : World) (S : Nat → Prop) (bs : List Nat := []) : Good (cx_name_within W0 S bs) := ⟨fmc ⟨ok3, fmc ⟨ok21, fmc ⟨ok322, fmc ⟨ok324, (fun _ h => by cases h)⟩⟩⟩⟩, (fun _ h => by cases h), mixed⟩
noncomputable def cx_name_Append (W0 : World) (S : Nat → Prop) (bs : List Nat := []) : Cx := ⟨Tryz.prog, W0, S, 60, [(3, ti3), (5, ti5), (21, ti21), (102, ti102), (366, ti366), (367, ti367)], [94, 278], bs, none, []⟩
abbrev n_name_Append : FuncId := 235
theorem b_name_Append : Tryz.prog.funcs[n_name_Append]? = some Tryz.f235 := Tryz.func235
theorem good_name_Append (W0 : World) (S : Nat → Prop) (bs : List Nat := []) : Good (cx_name_Append W0 S bs) := ⟨fmc ⟨ok3, fmc ⟨ok5, fmc ⟨ok21, fmc ⟨ok102, fmc ⟨ok366, fmc ⟨ok367, (fun _ h => by cases h)⟩⟩⟩⟩⟩⟩, fmc ⟨by kernel_rfl, fmc ⟨by kernel_rfl, (fun _ h => by cases h)⟩⟩, mixed⟩
abbrev n_strconv_Atoi : FuncId := 240
noncomputable def cx_sha_Blocks_1 (W0 : World) (S : Nat → Prop) (bs : List Nat := []) : Cx := ⟨Tryz.prog, W0, S, 21, [(3, ti3), (5, ti5), (32, ti32), (102, ti102)], [94, 242], bs, none, []⟩
abbrev n_sha_Blocks_1 : FuncId := 241
theorem b_sha_Blocks_1 : Tryz.prog.funcs[n_sha_Blocks_1]? = some Tryz.f241 := Tryz.func241
def p_sha_Blocks_1_0 : Plan := .take 0 (.take 2 (.take 3 (.take 4 (.exec 1 (.exec 5 (.exec 6 (.take 7 (.done))))))))
theorem good_sha_Blocks_1 (W0 : World) (S : Nat → Prop) (bs : List Nat := []) : Good (cx_sha_Blocks_1 W0 S bs) := ⟨fmc ⟨ok3, fmc ⟨ok5, fmc ⟨ok32, fmc ⟨ok102, (fun _ h => by cases h)⟩⟩⟩⟩, fmc ⟨by kernel_rfl, fmc ⟨by kernel_rfl, (fun _ h => by cases h)⟩⟩, mixed⟩
noncomputable def cx_sha_ends (W0 : World) (S : Nat → Prop) (bs : List Nat := []) : Cx := ⟨Tryz.prog, W0, S, 21, [(3, ti3), (5, ti5), (32, ti32), (102, ti102)], [286], bs, none, []⟩
abbrev n_sha_ends : FuncId := 242
theorem b_sha_ends : Tryz.prog.funcs[n_sha_ends]? = some Tryz.f242 := Tryz.func242
theorem good_sha_ends (W0 : World) (S : Nat → Prop) (bs : List Nat := []) : Good (cx_sha_ends W0 S bs) := ⟨fmc ⟨ok3, fmc ⟨ok5, fmc ⟨ok32, fmc ⟨ok102, (fun _ h => by cases h)⟩⟩⟩⟩, fmc ⟨by kernel_rfl, (fun _ h => by cases h)⟩, mixed⟩
noncomputable def cx_sha_spread (W0 : World) (S : Nat → Prop) (bs : List Nat := []) : Cx := ⟨Tryz.prog, W0, S, 65, [(3, ti3), (5, ti5), (102, ti102), (184, ti184), (332, ti332)], [244, 287], bs, none, []⟩
abbrev n_sha_spread : FuncId := 243
theorem b_sha_spread : Tryz.prog.funcs[n_sha_spread]? = some Tryz.f243 := Tryz.func243
def p_sha_spread_10 : Plan := .take 0 (.take 1 (.take 2 (.take 3 (.take 4 (.take 5 (.take 6 (.take 7 (.take 8 (.take 9 (.done))))))))))
def p_sha_spread_13 : Plan := .take 0 (.take 1 (.take 2 (.take 3 (.take 4 (.take 5 (.take 6 (.take 7 (.take 8 (.take 9 (.take 10 (.take 11 (.take 12 (.take 13 (.take 14 (.brk 15 (.done))))))))))))))))
theorem good_sha_spread (W0 : World) (S : Nat → Prop) (bs : List Nat := []) : Good (cx_sha_spread W0 S bs) := ⟨fmc ⟨ok3, fmc ⟨ok5, fmc ⟨ok102, fmc ⟨ok184, fmc ⟨ok332, (fun _ h => by cases h)⟩⟩⟩⟩⟩, fmc ⟨by kernel_rfl, fmc ⟨by kernel_rfl, (fun _ h => by cases h)⟩⟩, mixed⟩
noncomputable def cx_math_bits_RotateLeft32 (W0 : World) (S : Nat → Prop) (bs : List Nat := []) : Cx := ⟨Tryz.prog, W0, S, 17, [(3, ti3), (184, ti184), (252, ti252)], [], bs, none, []⟩
abbrev n_math_bits_RotateLeft32 : FuncId := 244
theorem b_math_bits_RotateLeft32 : Tryz.prog.funcs[n_math_bits_RotateLeft32]? = some Tryz.f244 := Tryz.func244
theorem good_math_bits_RotateLeft32 (W0 : World) (S : Nat → Prop) (bs : List Nat := []) : Good (cx_math_bits_RotateLeft32 W0 S bs) := ⟨fmc ⟨ok3, fmc ⟨ok184, fmc ⟨ok252, (fun _ h => by cases h)⟩⟩⟩, (fun _ h => by cases h), mixed⟩
abbrev n_math_bits_Mul : FuncId := 245
noncomputable def cx_slices_insertionSortOrdered_uint64 (W0 : World) (S : Nat → Prop) (bs : List Nat := []) : Cx := ⟨Tryz.prog, W0, S, 49, [(3, ti3), (32, ti32), (221, ti221)], [254], bs, none, []⟩
abbrev n_slices_insertionSortOrdered_uint64 : FuncId := 248
theorem b_slices_insertionSortOrdered_uint64 : Tryz.prog.funcs[n_slices_insertionSortOrdered_uint64]? = some Tryz.f248 := Tryz.func248
def p_slices_insertionSortOrdered_uint64_4 : Plan := .take 0 (.take 1 (.take 2 (.take 3 (.take 4 (.take 5 (.take 6 (.take 7 (.take 8 (.take 9 (.take 10 (.take 11 (.take 12 (.exec 13 (.take 14 (.done)))))))))))))))
def p_slices_insertionSortOrdered_uint64_6 : Plan := .take 0 (.take 1 (.take 2 (.take 3 (.take 4 (.take 5 (.take 6 (.take 7 (.take 8 (.take 10 (.take 11 (.take 12 (.alt 9 (.exec 13 (.take 14 (.exec 15 (.take 16 (.exec 17 (.done)))))) (.exec 13 (.exec 9 (.take 14 (.exec 15 (.take 16 (.exec 17 (.done)))))))))))))))))))
theorem good_slices_insertionSortOrdered_uint64 (W0 : World) (S : Nat → Prop) (bs : List Nat := []) : Good (cx_slices_insertionSortOrdered_uint64 W0 S bs) := ⟨fmc ⟨ok3, fmc ⟨ok32, fmc ⟨ok221, (fun _ h => by cases h)⟩⟩⟩, fmc ⟨by kernel_rfl, (fun _ h => by cases h)⟩, mixed⟩
noncomputable def cx_cmp_Less_uint64 (W0 : World) (S : Nat → Prop) (bs : List Nat := []) : Cx := ⟨Tryz.prog, W0, S, 17, [(32, ti32)], [295], bs, none, []⟩
abbrev n_cmp_Less_uint64 : FuncId := 254
theorem b_cmp_Less_uint64 : Tryz.prog.funcs[n_cmp_Less_uint64]? = some Tryz.f254 := Tryz.func254
theorem good_cmp_Less_uint64 (W0 : World) (S : Nat → Prop) (bs : List Nat := []) : Good (cx_cmp_Less_uint64 W0 S bs) := ⟨fmc ⟨ok32, (fun _ h => by cases h)⟩, fmc ⟨by kernel_rfl, (fun _ h => by cases h)⟩, mixed⟩
noncomputable def cx_hmac_pieces_1 (W0 : World) (S : Nat → Prop) (bs : List Nat := []) : Cx := ⟨Tryz.prog, W0, S, 38, [(3, ti3), (5, ti5), (102, ti102), (215, ti215), (355, ti355)], [269, 270, 274, 275], bs, none, []⟩
abbrev n_hmac_pieces_1 : FuncId := 268
theorem b_hmac_pieces_1 : Tryz.prog.funcs[n_hmac_pieces_1]? = some Tryz.f268 := Tryz.func268
def p_hmac_pieces_1_4 : Plan := .take 0 (.take 1 (.take 2 (.exec 3 (.exec 4 (.exec 5 (.take 6 (.done)))))))
theorem good_hmac_pieces_1 (W0 : World) (S : Nat → Prop) (bs : List Nat := []) : Good (cx_hmac_pieces_1 W0 S bs) := ⟨fmc ⟨ok3, fmc ⟨ok5, fmc ⟨ok102, fmc ⟨ok215, fmc ⟨ok355, (fun _ h => by cases h)⟩⟩⟩⟩⟩, fmc ⟨by kernel_rfl, fmc ⟨by kernel_rfl, fmc ⟨by kernel_rfl, fmc ⟨by kernel_rfl, (fun _ h => by cases h)⟩⟩⟩⟩, mixed⟩
noncomputable def cx_hmac_New (W0 : World) (S : Nat → Prop) (bs : List Nat := []) : Cx := ⟨Tryz.prog, W0, S, 15, [(5, ti5), (102, ti102), (355, ti355), (387, ti387), (390, ti390)], [165, 271, 299], bs, none, []⟩
abbrev n_hmac_New : FuncId := 269
theorem b_hmac_New : Tryz.prog.funcs[n_hmac_New]? = some Tryz.f269 := Tryz.func269
theorem good_hmac_New (W0 : World) (S : Nat → Prop) (bs : List Nat := []) : Good (cx_hmac_New W0 S bs) := ⟨fmc ⟨ok5, fmc ⟨ok102, fmc ⟨ok355, fmc ⟨ok387, fmc ⟨ok390, (fun _ h => by cases h)⟩⟩⟩⟩⟩, fmc ⟨by kernel_rfl, fmc ⟨by kernel_rfl, fmc ⟨by kernel_rfl, (fun _ h => by cases h)⟩⟩⟩, mixed⟩
noncomputable def cx_hmac_pieces_1_1 (W0 : World) (S : Nat → Prop) (bs : List Nat := []) : Cx := ⟨Tryz.prog, W0, S, 20, [(3, ti3), (5, ti5), (102, ti102), (215, ti215), (355, ti355)], [271, 272, 273], bs, none, []⟩
abbrev n_hmac_pieces_1_1 : FuncId := 270
theorem b_hmac_pieces_1_1 : Tryz.prog.funcs[n_hmac_pieces_1_1]? = some Tryz.f270 := Tryz.func270
theorem good_hmac_pieces_1_1 (W0 : World) (S : Nat → Prop) (bs : List Nat := []) : Good (cx_hmac_pieces_1_1 W0 S bs) := ⟨fmc ⟨ok3, fmc ⟨ok5, fmc ⟨ok102, fmc ⟨ok215, fmc ⟨ok355, (fun _ h => by cases h)⟩⟩⟩⟩⟩, fmc ⟨by kernel_rfl, fmc ⟨by kernel_rfl, fmc ⟨by kernel_rfl, (fun _ h => by cases h)⟩⟩⟩, mixed⟩
noncomputable def cx_hmac_Mac_Reset (W0 : World) (S : Nat → Prop) (bs : List Nat := []) : Cx := ⟨Tryz.prog, W0, S, 12, [(355, ti355), (387, ti387), (390, ti390)], [300], bs, none, []⟩
abbrev n_hmac_Mac_Reset : FuncId := 271
theorem b_hmac_Mac_Reset : Tryz.prog.funcs[n_hmac_Mac_Reset]? = some Tryz.f271 := Tryz.func271
theorem good_hmac_Mac_Reset (W0 : World) (S : Nat → Prop) (bs : List Nat := []) : Good (cx_hmac_Mac_Reset W0 S bs) := ⟨fmc ⟨ok355, fmc ⟨ok387, fmc ⟨ok390, (fun _ h => by cases h)⟩⟩⟩, fmc ⟨by kernel_rfl, (fun _ h => by cases h)⟩, mixed⟩
noncomputable def cx_hmac_Mac_Write (W0 : World) (S : Nat → Prop) (bs : List Nat := []) : Cx := ⟨Tryz.prog, W0, S, 13, [(5, ti5), (102, ti102), (355, ti355), (387, ti387), (390, ti390)], [301], bs, none, []⟩
abbrev n_hmac_Mac_Write : FuncId := 272
theorem b_hmac_Mac_Write : Tryz.prog.funcs[n_hmac_Mac_Write]? = some Tryz.f272 := Tryz.func272
theorem good_hmac_Mac_Write (W0 : World) (S : Nat → Prop) (bs : List Nat := []) : Good (cx_hmac_Mac_Write W0 S bs) := ⟨fmc ⟨ok5, fmc ⟨ok102, fmc ⟨ok355, fmc ⟨ok387, fmc ⟨ok390, (fun _ h => by cases h)⟩⟩⟩⟩⟩, fmc ⟨by kernel_rfl, (fun _ h => by cases h)⟩, mixed⟩
noncomputable def cx_hmac_Mac_Sum (W0 : World) (S : Nat → Prop) (bs : List Nat := []) : Cx := ⟨Tryz.prog, W0, S, 20, [(5, ti5), (102, ti102), (355, ti355), (387, ti387), (390, ti390)], [300, 301, 302], bs, none, []⟩
abbrev n_hmac_Mac_Sum : FuncId := 273
theorem b_hmac_Mac_Sum : Tryz.prog.funcs[n_hmac_Mac_Sum]? = some Tryz.f273 := Tryz.func273
theorem good_hmac_Mac_Sum (W0 : World) (S : Nat → Prop) (bs : List Nat := []) : Good (cx_hmac_Mac_Sum W0 S bs) := ⟨fmc ⟨ok5, fmc ⟨ok102, fmc ⟨ok355, fmc ⟨ok387, fmc ⟨ok390, (fun _ h => by cases h)⟩⟩⟩⟩⟩, fmc ⟨by kernel_rfl, fmc ⟨by kernel_rfl, fmc ⟨by kernel_rfl, (fun _ h => by cases h)⟩⟩⟩, mixed⟩
noncomputable def cx_hmac_four (W0 : World) (S : Nat → Prop) (bs : List Nat := []) : Cx := ⟨Tryz.prog, W0, S, 15, [(3, ti3), (5, ti5), (102, ti102)], [], bs, none, []⟩
abbrev n_hmac_four : FuncId := 274
theorem b_hmac_four : Tryz.prog.funcs[n_hmac_four]? = some Tryz.f274 := Tryz.func274
theorem good_hmac_four (W0 : World) (S : Nat → Prop) (bs : List Nat := []) : Good (cx_hmac_four W0 S bs) := ⟨fmc ⟨ok3, fmc ⟨ok5, fmc ⟨ok102, (fun _ h => by cases h)⟩⟩⟩, (fun _ h => by cases h), mixed⟩
noncomputable def cx_hmac_Xor (W0 : World) (S : Nat → Prop) (bs : List Nat := []) : Cx := ⟨Tryz.prog, W0, S, 29, [(3, ti3), (5, ti5), (102, ti102)], [], bs, none, []⟩
abbrev n_hmac_Xor : FuncId := 275
theorem b_hmac_Xor : Tryz.prog.funcs[n_hmac_Xor]? = some Tryz.f275 := Tryz.func275
def p_hmac_Xor_5 : Plan := .take 0 (.take 1 (.take 2 (.take 3 (.take 4 (.take 5 (.take 6 (.take 7 (.take 8 (.take 9 (.exec 10 (.exec 11 (.take 12 (.done)))))))))))))
theorem good_hmac_Xor (W0 : World) (S : Nat → Prop) (bs : List Nat := []) : Good (cx_hmac_Xor W0 S bs) := ⟨fmc ⟨ok3, fmc ⟨ok5, fmc ⟨ok102, (fun _ h => by cases h)⟩⟩⟩, (fun _ h => by cases h), mixed⟩
noncomputable def cx_name_Runes (W0 : World) (S : Nat → Prop) (bs : List Nat := []) : Cx := ⟨Tryz.prog, W0, S, 4, [(9, ti9)], [303], bs, none, []⟩
abbrev n_name_Runes : FuncId := 276
theorem b_name_Runes : Tryz.prog.funcs[n_name_Runes]? = some Tryz.f276 := Tryz.func276
theorem good_name_Runes (W0 : World) (S : Nat → Prop) (bs : List Nat := []) : Good (cx_name_Runes W0 S bs) := ⟨fmc ⟨ok9, (fun _ h => by cases h)⟩, fmc ⟨by kernel_rfl, (fun _ h => by cases h)⟩, mixed⟩
noncomputable def cx_name_prepared_1 (W0 : World) (S : Nat → Prop) (bs : List Nat := []) : Cx := ⟨Tryz.prog, W0, S, 21, [(9, ti9), (21, ti21), (322, ti322), (324, ti324), (362, ti362), (363, ti363), (364, ti364)], [234, 276], bs, none, []⟩
abbrev n_name_prepared_1 : FuncId := 277
theorem b_name_prepared_1 : Tryz.prog.funcs[n_name_prepared_1]? = some Tryz.f277 := Tryz.func277
theorem good_name_prepared_1 (W0 : World) (S : Nat → Prop) (bs : List Nat := []) : Good (cx_name_prepared_1 W0 S bs) := ⟨fmc ⟨ok9, fmc ⟨ok21, fmc ⟨ok322, fmc ⟨ok324, fmc ⟨ok362, fmc ⟨ok363, fmc ⟨ok364, (fun _ h => by cases h)⟩⟩⟩⟩⟩⟩⟩, fmc ⟨by kernel_rfl, fmc ⟨by kernel_rfl, (fun _ h => by cases h)⟩⟩, mixed⟩
noncomputable def cx_name_sign (W0 : World) (S : Nat → Prop) (bs : List Nat := []) : Cx := ⟨Tryz.prog, W0, S, 17, [(21, ti21)], [], bs, none, []⟩
abbrev n_name_sign : FuncId := 278
theorem b_name_sign : Tryz.prog.funcs[n_name_sign]? = some Tryz.f278 := Tryz.func278
theorem good_name_sign (W0 : World) (S : Nat → Prop) (bs : List Nat := []) : Good (cx_name_sign W0 S bs) := ⟨fmc ⟨ok21, (fun _ h => by cases h)⟩, (fun _ h => by cases h), mixed⟩
noncomputable def cx_sha_long (W0 : World) (S : Nat → Prop) (bs : List Nat := []) : Cx := ⟨Tryz.prog, W0, S, 19, [(3, ti3), (5, ti5), (32, ti32), (102, ti102)], [], bs, none, []⟩
abbrev n_sha_long : FuncId := 286
theorem b_sha_long : Tryz.prog.funcs[n_sha_long]? = some Tryz.f286 := Tryz.func286
theorem good_sha_long (W0 : World) (S : Nat → Prop) (bs : List Nat := []) : Good (cx_sha_long W0 S bs) := ⟨fmc ⟨ok3, fmc ⟨ok5, fmc ⟨ok32, fmc ⟨ok102, (fun _ h => by cases h)⟩⟩⟩⟩, (fun _ h => by cases h), mixed⟩
noncomputable def cx_sha_word (W0 : World) (S : Nat → Prop) (bs : List Nat := []) : Cx := ⟨Tryz.prog, W0, S, 25, [(5, ti5), (102, ti102), (184, ti184)], [], bs, none, []⟩
abbrev n_sha_word : FuncId := 287
theorem b_sha_word : Tryz.prog.funcs[n_sha_word]? = some Tryz.f287 := Tryz.func287
def p_sha_word_1 : Plan := .take 0 (.take 1 (.take 2 (.take 3 (.take 4 (.take 5 (.take 6 (.take 7 (.take 8 (.take 9 (.take 10 (.take 11 (.take 12 (.take 13 (.take 14 (.take 15 (.take 16 (.take 17 (.take 18 (.take 19 (.take 20 (.take 21 (.take 22 (.done)))))))))))))))))))))))
theorem good_sha_word (W0 : World) (S : Nat → Prop) (bs : List Nat := []) : Good (cx_sha_word W0 S bs) := ⟨fmc ⟨ok5, fmc ⟨ok102, fmc ⟨ok184, (fun _ h => by cases h)⟩⟩⟩, (fun _ h => by cases h), mixed⟩
noncomputable def cx_cmp_isNaN_uint64 (W0 : World) (S : Nat → Prop) (bs : List Nat := []) : Cx := ⟨Tryz.prog, W0, S, 6, [(32, ti32)], [], bs, none, []⟩
abbrev n_cmp_isNaN_uint64 : FuncId := 295
theorem b_cmp_isNaN_uint64 : Tryz.prog.funcs[n_cmp_isNaN_uint64]? = some Tryz.f295 := Tryz.func295
theorem good_cmp_isNaN_uint64 (W0 : World) (S : Nat → Prop) (bs : List Nat := []) : Good (cx_cmp_isNaN_uint64 W0 S bs) := ⟨fmc ⟨ok32, (fun _ h => by cases h)⟩, (fun _ h => by cases h), mixed⟩
noncomputable def cx_hmac_begun (W0 : World) (S : Nat → Prop) (bs : List Nat := []) : Cx := ⟨Tryz.prog, W0, S, 9, [(5, ti5), (102, ti102), (387, ti387)], [301, 310], bs, none, []⟩
abbrev n_hmac_begun : FuncId := 299
theorem b_hmac_begun : Tryz.prog.funcs[n_hmac_begun]? = some Tryz.f299 := Tryz.func299
theorem good_hmac_begun (W0 : World) (S : Nat → Prop) (bs : List Nat := []) : Good (cx_hmac_begun W0 S bs) := ⟨fmc ⟨ok5, fmc ⟨ok102, fmc ⟨ok387, (fun _ h => by cases h)⟩⟩⟩, fmc ⟨by kernel_rfl, fmc ⟨by kernel_rfl, (fun _ h => by cases h)⟩⟩, mixed⟩
noncomputable def cx_sha_Hash_Copy (W0 : World) (S : Nat → Prop) (bs : List Nat := []) : Cx := ⟨Tryz.prog, W0, S, 15, [(5, ti5), (32, ti32), (102, ti102), (184, ti184), (291, ti291), (387, ti387), (401, ti401)], [94], bs, none, []⟩
abbrev n_sha_Hash_Copy : FuncId := 300
theorem b_sha_Hash_Copy : Tryz.prog.funcs[n_sha_Hash_Copy]? = some Tryz.f300 := Tryz.func300
theorem good_sha_Hash_Copy (W0 : World) (S : Nat → Prop) (bs : List Nat := []) : Good (cx_sha_Hash_Copy W0 S bs) := ⟨fmc ⟨ok5, fmc ⟨ok32, fmc ⟨ok102, fmc ⟨ok184, fmc ⟨ok291, fmc ⟨ok387, fmc ⟨ok401, (fun _ h => by cases h)⟩⟩⟩⟩⟩⟩⟩, fmc ⟨by kernel_rfl, (fun _ h => by cases h)⟩, mixed⟩
noncomputable def cx_sha_Hash_Write (W0 : World) (S : Nat → Prop) (bs : List Nat := []) : Cx := ⟨Tryz.prog, W0, S, 59, [(3, ti3), (5, ti5), (32, ti32), (102, ti102), (184, ti184), (291, ti291), (387, ti387), (401, ti401)], [94, 201], bs, none, []⟩
abbrev n_sha_Hash_Write : FuncId := 301
theorem b_sha_Hash_Write : Tryz.prog.funcs[n_sha_Hash_Write]? = some Tryz.f301 := Tryz.func301
def p_sha_Hash_Write_6 : Plan := .take 0 (.take 1 (.take 2 (.take 3 (.take 4 (.take 5 (.take 6 (.take 7 (.exec 8 (.done)))))))))
theorem good_sha_Hash_Write (W0 : World) (S : Nat → Prop) (bs : List Nat := []) : Good (cx_sha_Hash_Write W0 S bs) := ⟨fmc ⟨ok3, fmc ⟨ok5, fmc ⟨ok32, fmc ⟨ok102, fmc ⟨ok184, fmc ⟨ok291, fmc ⟨ok387, fmc ⟨ok401, (fun _ h => by cases h)⟩⟩⟩⟩⟩⟩⟩⟩, fmc ⟨by kernel_rfl, fmc ⟨by kernel_rfl, (fun _ h => by cases h)⟩⟩, mixed⟩
noncomputable def cx_sha_Hash_Sum (W0 : World) (S : Nat → Prop) (bs : List Nat := []) : Cx := ⟨Tryz.prog, W0, S, 31, [(3, ti3), (5, ti5), (32, ti32), (102, ti102), (184, ti184), (291, ti291), (387, ti387), (401, ti401)], [94, 201, 202, 242], bs, none, []⟩
abbrev n_sha_Hash_Sum : FuncId := 302
theorem b_sha_Hash_Sum : Tryz.prog.funcs[n_sha_Hash_Sum]? = some Tryz.f302 := Tryz.func302
def p_sha_Hash_Sum_4 : Plan := .take 0 (.take 1 (.take 2 (.take 3 (.take 5 (.take 6 (.take 7 (.take 8 (.exec 4 (.exec 9 (.exec 10 (.take 11 (.done))))))))))))
theorem good_sha_Hash_Sum (W0 : World) (S : Nat → Prop) (bs : List Nat := []) : Good (cx_sha_Hash_Sum W0 S bs) := ⟨fmc ⟨ok3, fmc ⟨ok5, fmc ⟨ok32, fmc ⟨ok102, fmc ⟨ok184, fmc ⟨ok291, fmc ⟨ok387, fmc ⟨ok401, (fun _ h => by cases h)⟩⟩⟩⟩⟩⟩⟩⟩, fmc ⟨by kernel_rfl, fmc ⟨by kernel_rfl, fmc ⟨by kernel_rfl, fmc ⟨by kernel_rfl, (fun _ h => by cases h)⟩⟩⟩⟩, mixed⟩
noncomputable def cx_name_Runes_1 (W0 : World) (S : Nat → Prop) (bs : List Nat := []) : Cx := ⟨Tryz.prog, W0, S, 25, [(3, ti3), (9, ti9), (21, ti21)], [304], bs, none, []⟩
abbrev n_name_Runes_1 : FuncId := 303
theorem b_name_Runes_1 : Tryz.prog.funcs[n_name_Runes_1]? = some Tryz.f303 := Tryz.func303
theorem good_name_Runes_1 (W0 : World) (S : Nat → Prop) (bs : List Nat := []) : Good (cx_name_Runes_1 W0 S bs) := ⟨fmc ⟨ok3, fmc ⟨ok9, fmc ⟨ok21, (fun _ h => by cases h)⟩⟩⟩, fmc ⟨by kernel_rfl, (fun _ h => by cases h)⟩, mixed⟩
noncomputable def cx_name_decode (W0 : World) (S : Nat → Prop) (bs : List Nat := []) : Cx := ⟨Tryz.prog, W0, S, 64, [(3, ti3), (5, ti5), (9, ti9), (21, ti21), (366, ti366), (367, ti367)], [278], bs, none, []⟩
abbrev n_name_decode : FuncId := 304
theorem b_name_decode : Tryz.prog.funcs[n_name_decode]? = some Tryz.f304 := Tryz.func304
def p_name_decode_4 : Plan := .take 0 (.take 1 (.take 2 (.take 3 (.take 4 (.take 5 (.take 6 (.take 7 (.take 8 (.take 9 (.take 10 (.take 11 (.take 12 (.take 13 (.take 14 (.done)))))))))))))))
def p_name_decode_5 : Plan := .take 0 (.take 1 (.take 2 (.take 3 (.take 4 (.take 5 (.take 6 (.done)))))))
def p_name_decode_12 : Plan := .take 0 (.take 1 (.take 2 (.take 3 (.take 4 (.done)))))
theorem good_name_decode (W0 : World) (S : Nat → Prop) (bs : List Nat := []) : Good (cx_name_decode W0 S bs) := ⟨fmc ⟨ok3, fmc ⟨ok5, fmc ⟨ok9, fmc ⟨ok21, fmc ⟨ok366, fmc ⟨ok367, (fun _ h => by cases h)⟩⟩⟩⟩⟩⟩, fmc ⟨by kernel_rfl, (fun _ h => by cases h)⟩, mixed⟩
noncomputable def cx_sha_New (W0 : World) (S : Nat → Prop) (bs : List Nat := []) : Cx := ⟨Tryz.prog, W0, S, 4, [(5, ti5), (32, ti32), (102, ti102), (184, ti184), (290, ti290), (291, ti291), (401, ti401)], [], bs, none, []⟩
abbrev n_sha_New : FuncId := 310
theorem b_sha_New : Tryz.prog.funcs[n_sha_New]? = some Tryz.f310 := Tryz.func310
theorem good_sha_New (W0 : World) (S : Nat → Prop) (bs : List Nat := []) : Good (cx_sha_New W0 S bs) := ⟨fmc ⟨ok5, fmc ⟨ok32, fmc ⟨ok102, fmc ⟨ok184, fmc ⟨ok290, fmc ⟨ok291, fmc ⟨ok401, (fun _ h => by cases h)⟩⟩⟩⟩⟩⟩⟩, (fun _ h => by cases h), mixed⟩
end Go.Proofs.YteenjgfbbkdlhaaGreatDoor.Sx

namespace Go.Proofs.YteenjgfbbkdlhaaGreatDoor.Sx
open Go
attribute [local irreducible] Calls
theorem take_snoc (l : List UInt8) (k : Nat) (h : k < l.length) : l.take (k + 1) = l.take k ++ [l[k]] := by rw [List.take_succ_eq_append_getElem h]
def be : Nat → Nat → List UInt8
  | 0, _ => []
  | k + 1, n => be k (n / 256) ++ [UInt8.ofNat (n % 256)]
theorem ofNat_toNat (n : Nat) (h : n < 256) : (UInt8.ofNat n).toNat = n := by simp; omega
theorem wrap_u8 (x : Int) : IntKind.u8.wrap x = x % 256 := by simp [IntKind.wrap, IntKind.bits, IntKind.signed]
theorem NewRow.none (w w' : World) (e : Nat) : NewRow w w' none [] 0 e :=
  ⟨Nat.le_refl _, Nat.zero_le _, World.ownsRow_nil w' 0 e 1, fun k hk => by cases hk⟩
theorem NewRow.from {w w1 w' : World} {A : Option Addr} {l : List UInt8} {c e : Nat} (h : NewRow w1 w' A l c e) (hs : w.heap.size ≤ w1.heap.size) : NewRow w w' A l c e :=
  ⟨h.1, h.2.1, h.2.2.1, fun k hk => Nat.le_trans hs (h.2.2.2 k hk)⟩
end Go.Proofs.YteenjgfbbkdlhaaGreatDoor.Sx

namespace Go.Proofs
open Go.Shelf
def Tryz.lays156_ren : Go.Shelf.Ren := ⟨fun | 156 => 43 | 165 => 90 | 166 => 76 | 169 => 77 | 240 => 133 | 241 => 144 | 276 => 183 | 277 => 163 | n => n, fun | 31 => 34 | 9 => 9 | 3 => 3 | 4 => 4 | 0 => 0 | 20 => 20 | 72 => 148 | 76 => 156 | 70 => 146 | 37 => 102 | 75 => 155 | 127 => 243 | 164 => 282 | 5 => 5 | 80 => 81 | n => n, fun | n => n⟩
theorem Tryz.lays156 : Go.Proofs.Lays.n156 Tryz.prog Tryz.lays156_ren := {
  mixed := by kernel_rfl
  f156 := Tryz.func43.trans (congrArg some (by kernel_rfl))
  f165 := Tryz.func90.trans (congrArg some (by kernel_rfl))
  f166 := Tryz.func76.trans (congrArg some (by kernel_rfl))
  f169 := Tryz.func77.trans (congrArg some (by kernel_rfl))
  f240 := Tryz.func133.trans (congrArg some (by kernel_rfl))
  f241 := Tryz.func144.trans (congrArg some (by kernel_rfl))
  f276 := Tryz.func183.trans (congrArg some (by kernel_rfl))
  f277 := Tryz.func163.trans (congrArg some (by kernel_rfl))
  t0 := Tryz.underlying0
  a0 := Tryz.isAgg0
  z0 := Tryz.sizeOf0
  v0 := Tryz.zeroValue0
  t3 := Tryz.underlying3
  a3 := Tryz.isAgg3
  z3 := Tryz.sizeOf3
  v3 := Tryz.zeroValue3
  t4 := Tryz.underlying4
  a4 := Tryz.isAgg4
  z4 := Tryz.sizeOf4
  v4 := Tryz.zeroValue4
  t9 := Tryz.underlying9
  a9 := Tryz.isAgg9
  z9 := Tryz.sizeOf9
  v9 := Tryz.zeroValue9
  t20 := Tryz.underlying20
  a20 := Tryz.isAgg20
  z20 := Tryz.sizeOf20
  v20 := Tryz.zeroValue20
  t31 := Tryz.underlying34
  a31 := Tryz.isAgg34
  z31 := Tryz.sizeOf34
  v31 := Tryz.zeroValue34
  t37 := Tryz.underlying102
  a37 := Tryz.isAgg102
  z37 := Tryz.sizeOf102
  v37 := Tryz.zeroValue102
  t70 := Tryz.underlying146
  a70 := Tryz.isAgg146
  z70 := Tryz.sizeOf146
  v70 := Tryz.zeroValue146
  t72 := Tryz.underlying148
  a72 := Tryz.isAgg148
  z72 := Tryz.sizeOf148
  v72 := Tryz.zeroValue148
  t75 := Tryz.underlying155
  a75 := Tryz.isAgg155
  z75 := Tryz.sizeOf155
  v75 := Tryz.zeroValue155
  t76 := Tryz.underlying156
  a76 := Tryz.isAgg156
  z76 := Tryz.sizeOf156
  v76 := Tryz.zeroValue156
  t127 := Tryz.underlying243
  a127 := Tryz.isAgg243
  z127 := Tryz.sizeOf243
  v127 := Tryz.zeroValue243
  t164 := Tryz.underlying282
  a164 := Tryz.isAgg282
  z164 := Tryz.sizeOf282
  v164 := Tryz.zeroValue282 }
theorem Tryz.Builder_Extra_156 : Builder.Extra Tryz.prog Tryz.lays156_ren := {
  sizeBuilder := by kernel_rfl
  liesBuilder := by kernel_rfl
  t5 := Tryz.underlying5
  a5 := Tryz.isAgg5
  z5 := Tryz.sizeOf5
  v5 := Tryz.zeroValue5
  infoByte := by kernel_rfl
  cellsByte := by kernel_rfl
  sizeByte := by kernel_rfl
  neB5 := by decide }
open Go.RowKit in
theorem Tryz.strings_Join (bk o c : Nat) (xs : List ByteArray) (sep : ByteArray) (w : World) (hcells : ∀ (j : Nat) x, xs[j]? = some x → w.cell? ⟨bk, o + j, none⟩ = some (.string x)) (hbk : bk < w.heap.size) (hN : xs.length ≤ 140737488355328) (hcap : xs.length ≤ c) (hlen : (Lib.join (xs.map (·.data.toList)) sep.data.toList).length ≤ 140737488355328) :
    Calls Tryz.prog 43 #[.slice (some ⟨bk, o, none⟩) xs.length c, .string sep] w fun e w' => e = .returned (.string ⟨(Lib.join (xs.map (·.data.toList)) sep.data.toList).toArray⟩) ∧ Below w.heap.size w w' := Any.strings_Join Tryz.lays156 Tryz.Builder_Extra_156 bk o c xs sep w hcells hbk hN hcap hlen
def Tryz.lays125_ren : Go.Shelf.Ren := ⟨fun | 125 => 211 | 128 => 257 | 129 => 205 | n => n, fun | 46 => 252 | 3 => 3 | 51 => 184 | 53 => 32 | 4 => 4 | 5 => 5 | 9 => 9 | n => n, fun | n => n⟩
theorem Tryz.lays125 : Go.Proofs.Lays.n125 Tryz.prog Tryz.lays125_ren := {
  mixed := by kernel_rfl
  f125 := Tryz.func211.trans (congrArg some (by kernel_rfl))
  f128 := Tryz.func257.trans (congrArg some (by kernel_rfl))
  f129 := Tryz.func205.trans (congrArg some (by kernel_rfl))
  t3 := Tryz.underlying3
  a3 := Tryz.isAgg3
  z3 := Tryz.sizeOf3
  v3 := Tryz.zeroValue3
  t4 := Tryz.underlying4
  a4 := Tryz.isAgg4
  z4 := Tryz.sizeOf4
  v4 := Tryz.zeroValue4
  t5 := Tryz.underlying5
  a5 := Tryz.isAgg5
  z5 := Tryz.sizeOf5
  v5 := Tryz.zeroValue5
  t9 := Tryz.underlying9
  a9 := Tryz.isAgg9
  z9 := Tryz.sizeOf9
  v9 := Tryz.zeroValue9
  t46 := Tryz.underlying252
  a46 := Tryz.isAgg252
  z46 := Tryz.sizeOf252
  v46 := Tryz.zeroValue252
  t51 := Tryz.underlying184
  a51 := Tryz.isAgg184
  z51 := Tryz.sizeOf184
  v51 := Tryz.zeroValue184
  t53 := Tryz.underlying32
  a53 := Tryz.isAgg32
  z53 := Tryz.sizeOf32
  v53 := Tryz.zeroValue32 }
theorem Tryz.bits_Len (x : Int) (w : World) (h0 : 0 ≤ x) (h1 : x ≤ 18446744073709551615) :
    Calls Tryz.prog 211 #[.int .u64 x] w fun e w' => e = .returned (.int .i64 (Lib.bitLen x.toNat)) ∧ w' = w := Any.bits_Len Tryz.lays125 x w h0 h1
def Tryz.lays137_ren : Go.Shelf.Ren := ⟨fun | 137 => 150 | 217 => 191 | 266 => 228 | n => n, fun | 9 => 9 | 5 => 5 | 3 => 3 | n => n, fun | n => n⟩
theorem Tryz.lays137 : Go.Proofs.Lays.n137 Tryz.prog Tryz.lays137_ren := {
  mixed := by kernel_rfl
  f137 := Tryz.func150.trans (congrArg some (by kernel_rfl))
  f217 := Tryz.func191.trans (congrArg some (by kernel_rfl))
  f266 := Tryz.func228.trans (congrArg some (by kernel_rfl))
  t3 := Tryz.underlying3
  a3 := Tryz.isAgg3
  z3 := Tryz.sizeOf3
  v3 := Tryz.zeroValue3
  t5 := Tryz.underlying5
  a5 := Tryz.isAgg5
  z5 := Tryz.sizeOf5
  v5 := Tryz.zeroValue5
  t9 := Tryz.underlying9
  a9 := Tryz.isAgg9
  z9 := Tryz.sizeOf9
  v9 := Tryz.zeroValue9 }
open Go.RowKit in
theorem Tryz.strings_IndexByte (s : ByteArray) (c : Int) (w : World) :
    Calls Tryz.prog 150 #[.string s, .int .u8 c] w fun e w' => e = .returned (.int .i64 (Lib.indexByte s.data.toList c.toNat.toUInt8)) ∧ w' = w := Any.strings_IndexByte Tryz.lays137 s c w
def Tryz.lays283_ren : Go.Shelf.Ren := ⟨fun | 283 => 166 | n => n, fun | 3 => 3 | 9 => 9 | 4 => 4 | n => n, fun | n => n⟩
theorem Tryz.lays283 : Go.Proofs.Lays.n283 Tryz.prog Tryz.lays283_ren := {
  mixed := by kernel_rfl
  f283 := Tryz.func166.trans (congrArg some (by kernel_rfl))
  t3 := Tryz.underlying3
  a3 := Tryz.isAgg3
  z3 := Tryz.sizeOf3
  v3 := Tryz.zeroValue3
  t4 := Tryz.underlying4
  a4 := Tryz.isAgg4
  z4 := Tryz.sizeOf4
  v4 := Tryz.zeroValue4
  t9 := Tryz.underlying9
  a9 := Tryz.isAgg9
  z9 := Tryz.sizeOf9
  v9 := Tryz.zeroValue9 }
open Go.Lib in
theorem Tryz.internal_strconv_small (i : Nat) (h : i < 100) (w : World) :
    Calls Tryz.prog 166 #[.int .i64 i] w fun e w' => e = .returned (.string ⟨(Lib.decDigits i).toArray⟩) ∧ w' = w := Any.internal_strconv_small Tryz.lays283 i h w
def Tryz.laysM284_ren : Go.Shelf.Ren := ⟨fun | 284 => 167 | 129 => 205 | 317 => 204 | 318 => 206 | n => n, fun | 53 => 32 | 3 => 3 | 212 => 299 | 0 => 0 | 4 => 4 | 46 => 252 | 5 => 5 | 9 => 9 | n => n, fun | 17 => 3 | n => n⟩
theorem Tryz.laysM284 : Go.Proofs.LaysM.n284 Tryz.prog Tryz.laysM284_ren := {
  mixed := by kernel_rfl
  f129 := Tryz.func205.trans (congrArg some (by kernel_rfl))
  f284 := Tryz.func167.trans (congrArg some (by kernel_rfl))
  f317 := Tryz.func204.trans (congrArg some (by kernel_rfl))
  f318 := Tryz.func206.trans (congrArg some (by kernel_rfl))
  t0 := Tryz.underlying0
  a0 := Tryz.isAgg0
  z0 := Tryz.sizeOf0
  v0 := Tryz.zeroValue0
  t3 := Tryz.underlying3
  a3 := Tryz.isAgg3
  z3 := Tryz.sizeOf3
  v3 := Tryz.zeroValue3
  t4 := Tryz.underlying4
  a4 := Tryz.isAgg4
  z4 := Tryz.sizeOf4
  v4 := Tryz.zeroValue4
  t5 := Tryz.underlying5
  a5 := Tryz.isAgg5
  z5 := Tryz.sizeOf5
  v5 := Tryz.zeroValue5
  t9 := Tryz.underlying9
  a9 := Tryz.isAgg9
  z9 := Tryz.sizeOf9
  v9 := Tryz.zeroValue9
  t46 := Tryz.underlying252
  a46 := Tryz.isAgg252
  z46 := Tryz.sizeOf252
  v46 := Tryz.zeroValue252
  t53 := Tryz.underlying32
  a53 := Tryz.isAgg32
  z53 := Tryz.sizeOf32
  v53 := Tryz.zeroValue32
  t212 := Tryz.underlying299
  a212 := Tryz.isAgg299
  z212 := Tryz.sizeOf299
  v212 := Tryz.zeroValue299
  g17 := by kernel_rfl
  i0 := by kernel_rfl
  i3 := by kernel_rfl
  i4 := by kernel_rfl
  i5 := by kernel_rfl
  i9 := by kernel_rfl
  i46 := by kernel_rfl
  i53 := by kernel_rfl
  i212 := by kernel_rfl
  m17 := by kernel_rfl }
open Go.Lib in
theorem Tryz.internal_strconv_numDigits (u : Nat) (h1 : 1 ≤ u) (h2 : u < 18446744073709551616) (w : World) (htab : Lib.TabIs Tryz.prog w "internal/strconv.uint64pow10" .u64 Lib.pow10Tab) :
    Calls Tryz.prog 167 #[.int .u64 u] w fun e w' => e = .returned (.int .i64 (Lib.nDigits u)) ∧ w' = w := Any.internal_strconv_numDigits Tryz.laysM284 u h1 h2 w htab
def Tryz.lays285_ren : Go.Shelf.Ren := ⟨fun | 285 => 168 | n => n, fun | 37 => 102 | 53 => 32 | 3 => 3 | 4 => 4 | 51 => 184 | 9 => 9 | 5 => 5 | 0 => 0 | n => n, fun | n => n⟩
theorem Tryz.lays285 : Go.Proofs.Lays.n285 Tryz.prog Tryz.lays285_ren := {
  mixed := by kernel_rfl
  f285 := Tryz.func168.trans (congrArg some (by kernel_rfl))
  t0 := Tryz.underlying0
  a0 := Tryz.isAgg0
  z0 := Tryz.sizeOf0
  v0 := Tryz.zeroValue0
  t3 := Tryz.underlying3
  a3 := Tryz.isAgg3
  z3 := Tryz.sizeOf3
  v3 := Tryz.zeroValue3
  t4 := Tryz.underlying4
  a4 := Tryz.isAgg4
  z4 := Tryz.sizeOf4
  v4 := Tryz.zeroValue4
  t5 := Tryz.underlying5
  a5 := Tryz.isAgg5
  z5 := Tryz.sizeOf5
  v5 := Tryz.zeroValue5
  t9 := Tryz.underlying9
  a9 := Tryz.isAgg9
  z9 := Tryz.sizeOf9
  v9 := Tryz.zeroValue9
  t37 := Tryz.underlying102
  a37 := Tryz.isAgg102
  z37 := Tryz.sizeOf102
  v37 := Tryz.zeroValue102
  t51 := Tryz.underlying184
  a51 := Tryz.isAgg184
  z51 := Tryz.sizeOf184
  v51 := Tryz.zeroValue184
  t53 := Tryz.underlying32
  a53 := Tryz.isAgg32
  z53 := Tryz.sizeOf32
  v53 := Tryz.zeroValue32 }
open Go.RowKit Go.Sort Go.Lib in
theorem Tryz.internal_strconv_formatBase10 (blk off cap : Nat) (u : Nat) (d : Array UInt8) (w : World) (hH : Holds (fun (b : UInt8) => Value.int .u8 (b.toNat : Int)) w blk off d) (hu : u < 10 ^ d.size) (hu64 : u < 18446744073709551616) (hsz : d.size < 4611686018427387904) :
    Calls Tryz.prog 168 #[.slice (some ⟨blk, off, none⟩) d.size cap, .int .u64 u] w fun e w' =>
      e = .returned (.tuple #[]) ∧ ∃ (n v' : Nat) (dk : Array UInt8), w' = (putRow (fun (b : UInt8) => Value.int .u8 (b.toNat : Int)) w blk off dk).drewN n ∧ FmtInv d.size u 0 v' dk := Any.internal_strconv_formatBase10 Tryz.lays285 blk off cap u d w hH hu hu64 hsz
def Tryz.laysM171_ren : Go.Shelf.Ren := ⟨fun | 171 => 72 | 243 => 128 | 246 => 180 | 283 => 166 | 284 => 167 | 285 => 168 | 286 => 169 | 129 => 205 | 317 => 204 | 318 => 206 | 319 => 207 | 320 => 208 | 337 => 246 | 338 => 247 | n => n, fun | 3 => 3 | 9 => 9 | 2 => 2 | 4 => 4 | 171 => 268 | 0 => 0 | 53 => 32 | 37 => 102 | 5 => 5 | 173 => 270 | 212 => 299 | 51 => 184 | 20 => 20 | 213 => 300 | 46 => 252 | 232 => 375 | 233 => 376 | n => n, fun | 17 => 3 | 18 => 11 | 19 => 12 | n => n⟩
theorem Tryz.laysM171 : Go.Proofs.LaysM.n171 Tryz.prog Tryz.laysM171_ren := {
  mixed := by kernel_rfl
  f129 := Tryz.func205.trans (congrArg some (by kernel_rfl))
  f171 := Tryz.func72.trans (congrArg some (by kernel_rfl))
  f243 := Tryz.func128.trans (congrArg some (by kernel_rfl))
  f246 := Tryz.func180.trans (congrArg some (by kernel_rfl))
  f283 := Tryz.func166.trans (congrArg some (by kernel_rfl))
  f284 := Tryz.func167.trans (congrArg some (by kernel_rfl))
  f285 := Tryz.func168.trans (congrArg some (by kernel_rfl))
  f286 := Tryz.func169.trans (congrArg some (by kernel_rfl))
  f317 := Tryz.func204.trans (congrArg some (by kernel_rfl))
  f318 := Tryz.func206.trans (congrArg some (by kernel_rfl))
  f319 := Tryz.func207.trans (congrArg some (by kernel_rfl))
  f320 := Tryz.func208.trans (congrArg some (by kernel_rfl))
  f337 := Tryz.func246.trans (congrArg some (by kernel_rfl))
  f338 := Tryz.func247.trans (congrArg some (by kernel_rfl))
  t0 := Tryz.underlying0
  a0 := Tryz.isAgg0
  z0 := Tryz.sizeOf0
  v0 := Tryz.zeroValue0
  t2 := Tryz.underlying2
  a2 := Tryz.isAgg2
  z2 := Tryz.sizeOf2
  v2 := Tryz.zeroValue2
  t3 := Tryz.underlying3
  a3 := Tryz.isAgg3
  z3 := Tryz.sizeOf3
  v3 := Tryz.zeroValue3
  t4 := Tryz.underlying4
  a4 := Tryz.isAgg4
  z4 := Tryz.sizeOf4
  v4 := Tryz.zeroValue4
  t5 := Tryz.underlying5
  a5 := Tryz.isAgg5
  z5 := Tryz.sizeOf5
  v5 := Tryz.zeroValue5
  t9 := Tryz.underlying9
  a9 := Tryz.isAgg9
  z9 := Tryz.sizeOf9
  v9 := Tryz.zeroValue9
  t20 := Tryz.underlying20
  a20 := Tryz.isAgg20
  z20 := Tryz.sizeOf20
  v20 := Tryz.zeroValue20
  t37 := Tryz.underlying102
  a37 := Tryz.isAgg102
  z37 := Tryz.sizeOf102
  v37 := Tryz.zeroValue102
  t46 := Tryz.underlying252
  a46 := Tryz.isAgg252
  z46 := Tryz.sizeOf252
  v46 := Tryz.zeroValue252
  t51 := Tryz.underlying184
  a51 := Tryz.isAgg184
  z51 := Tryz.sizeOf184
  v51 := Tryz.zeroValue184
  t53 := Tryz.underlying32
  a53 := Tryz.isAgg32
  z53 := Tryz.sizeOf32
  v53 := Tryz.zeroValue32
  t171 := Tryz.underlying268
  a171 := Tryz.isAgg268
  z171 := Tryz.sizeOf268
  v171 := Tryz.zeroValue268
  t173 := Tryz.underlying270
  a173 := Tryz.isAgg270
  z173 := Tryz.sizeOf270
  v173 := Tryz.zeroValue270
  t212 := Tryz.underlying299
  a212 := Tryz.isAgg299
  z212 := Tryz.sizeOf299
  v212 := Tryz.zeroValue299
  t213 := Tryz.underlying300
  a213 := Tryz.isAgg300
  z213 := Tryz.sizeOf300
  t232 := Tryz.underlying375
  a232 := Tryz.isAgg375
  z232 := Tryz.sizeOf375
  v232 := Tryz.zeroValue375
  t233 := Tryz.underlying376
  a233 := Tryz.isAgg376
  z233 := Tryz.sizeOf376
  v233 := Tryz.zeroValue376
  g17 := by kernel_rfl
  g18 := by kernel_rfl
  g19 := by kernel_rfl
  i0 := by kernel_rfl
  i2 := by kernel_rfl
  i3 := by kernel_rfl
  i4 := by kernel_rfl
  i5 := by kernel_rfl
  i9 := by kernel_rfl
  i20 := by kernel_rfl
  i37 := by kernel_rfl
  i46 := by kernel_rfl
  i51 := by kernel_rfl
  i53 := by kernel_rfl
  i171 := by kernel_rfl
  i173 := by kernel_rfl
  i212 := by kernel_rfl
  i232 := by kernel_rfl
  i233 := by kernel_rfl
  m17 := by kernel_rfl
  m18 := by kernel_rfl
  m19 := by kernel_rfl }
open Go.RowKit Go.Sort Go.Lib in
theorem Tryz.strconv_Itoa (n : Int) (h0 : -9223372036854775808 ≤ n) (h1 : n ≤ 9223372036854775807) (w : World) (htab : Lib.TabIs Tryz.prog w "internal/strconv.uint64pow10" .u64 Lib.pow10Tab) :
    Calls Tryz.prog 72 #[.int .i64 n] w fun e w' => e = .returned (.string ⟨(Lib.itoa n).toArray⟩) ∧ ∃ k os, w' = grow (w.drewN k) os := Any.strconv_Itoa Tryz.laysM171 n h0 h1 w htab
def Tryz.lays171_ren : Go.Shelf.Ren := ⟨fun | 171 => 72 | 243 => 128 | 246 => 180 | 283 => 166 | 284 => 167 | 285 => 168 | 286 => 169 | 129 => 205 | 317 => 204 | 318 => 206 | 319 => 207 | 320 => 208 | 337 => 246 | 338 => 247 | n => n, fun | 3 => 3 | 9 => 9 | 2 => 2 | 4 => 4 | 171 => 268 | 0 => 0 | 53 => 32 | 37 => 102 | 5 => 5 | 173 => 270 | 212 => 299 | 51 => 184 | 20 => 20 | 213 => 300 | 46 => 252 | 232 => 375 | 233 => 376 | n => n, fun | 17 => 3 | 18 => 11 | 19 => 12 | n => n⟩
theorem Tryz.lays171 : Go.Proofs.Lays.n171 Tryz.prog Tryz.lays171_ren := {
  mixed := by kernel_rfl
  f129 := Tryz.func205.trans (congrArg some (by kernel_rfl))
  f171 := Tryz.func72.trans (congrArg some (by kernel_rfl))
  f243 := Tryz.func128.trans (congrArg some (by kernel_rfl))
  f246 := Tryz.func180.trans (congrArg some (by kernel_rfl))
  f283 := Tryz.func166.trans (congrArg some (by kernel_rfl))
  f284 := Tryz.func167.trans (congrArg some (by kernel_rfl))
  f285 := Tryz.func168.trans (congrArg some (by kernel_rfl))
  f286 := Tryz.func169.trans (congrArg some (by kernel_rfl))
  f317 := Tryz.func204.trans (congrArg some (by kernel_rfl))
  f318 := Tryz.func206.trans (congrArg some (by kernel_rfl))
  f319 := Tryz.func207.trans (congrArg some (by kernel_rfl))
  f320 := Tryz.func208.trans (congrArg some (by kernel_rfl))
  f337 := Tryz.func246.trans (congrArg some (by kernel_rfl))
  f338 := Tryz.func247.trans (congrArg some (by kernel_rfl))
  t0 := Tryz.underlying0
  a0 := Tryz.isAgg0
  z0 := Tryz.sizeOf0
  v0 := Tryz.zeroValue0
  t2 := Tryz.underlying2
  a2 := Tryz.isAgg2
  z2 := Tryz.sizeOf2
  v2 := Tryz.zeroValue2
  t3 := Tryz.underlying3
  a3 := Tryz.isAgg3
  z3 := Tryz.sizeOf3
  v3 := Tryz.zeroValue3
  t4 := Tryz.underlying4
  a4 := Tryz.isAgg4
  z4 := Tryz.sizeOf4
  v4 := Tryz.zeroValue4
  t5 := Tryz.underlying5
  a5 := Tryz.isAgg5
  z5 := Tryz.sizeOf5
  v5 := Tryz.zeroValue5
  t9 := Tryz.underlying9
  a9 := Tryz.isAgg9
  z9 := Tryz.sizeOf9
  v9 := Tryz.zeroValue9
  t20 := Tryz.underlying20
  a20 := Tryz.isAgg20
  z20 := Tryz.sizeOf20
  v20 := Tryz.zeroValue20
  t37 := Tryz.underlying102
  a37 := Tryz.isAgg102
  z37 := Tryz.sizeOf102
  v37 := Tryz.zeroValue102
  t46 := Tryz.underlying252
  a46 := Tryz.isAgg252
  z46 := Tryz.sizeOf252
  v46 := Tryz.zeroValue252
  t51 := Tryz.underlying184
  a51 := Tryz.isAgg184
  z51 := Tryz.sizeOf184
  v51 := Tryz.zeroValue184
  t53 := Tryz.underlying32
  a53 := Tryz.isAgg32
  z53 := Tryz.sizeOf32
  v53 := Tryz.zeroValue32
  t171 := Tryz.underlying268
  a171 := Tryz.isAgg268
  z171 := Tryz.sizeOf268
  v171 := Tryz.zeroValue268
  t173 := Tryz.underlying270
  a173 := Tryz.isAgg270
  z173 := Tryz.sizeOf270
  v173 := Tryz.zeroValue270
  t212 := Tryz.underlying299
  a212 := Tryz.isAgg299
  z212 := Tryz.sizeOf299
  v212 := Tryz.zeroValue299
  t213 := Tryz.underlying300
  a213 := Tryz.isAgg300
  z213 := Tryz.sizeOf300
  t232 := Tryz.underlying375
  a232 := Tryz.isAgg375
  z232 := Tryz.sizeOf375
  v232 := Tryz.zeroValue375
  t233 := Tryz.underlying376
  a233 := Tryz.isAgg376
  z233 := Tryz.sizeOf376
  v233 := Tryz.zeroValue376
  g17 := by kernel_rfl
  g18 := by kernel_rfl
  g19 := by kernel_rfl }
open Go.RowKit Go.Sort Go.Lib in
theorem Tryz.strconv_Itoa_small (i : Nat) (hi : i < 100) (w : World) :
    Calls Tryz.prog 72 #[.int .i64 i] w fun e w' => e = .returned (.string ⟨(Lib.decDigits i).toArray⟩) ∧ w' = w := Any.strconv_Itoa_small Tryz.lays171 i hi w
def Tryz.laysC245_ren : Go.Shelf.Ren := ⟨fun | 245 => 174 | 279 => 214 | 280 => 215 | 281 => 216 | 282 => 217 | 316 => 258 | 171 => 72 | 205 => 259 | 243 => 128 | 246 => 180 | 283 => 166 | 284 => 167 | 285 => 168 | 286 => 169 | 129 => 205 | 317 => 204 | 318 => 206 | 319 => 207 | 320 => 208 | 337 => 246 | 338 => 247 | n => n, fun | 9 => 9 | 3 => 3 | 75 => 155 | 167 => 305 | 4 => 4 | 168 => 307 | 210 => 348 | 37 => 102 | 0 => 0 | 127 => 243 | 145 => 384 | 143 => 382 | 2 => 2 | 171 => 268 | 53 => 32 | 5 => 5 | 173 => 270 | 212 => 299 | 51 => 184 | 20 => 20 | 213 => 300 | 46 => 252 | 232 => 375 | 233 => 376 | 80 => 81 | n => n, fun | 15 => 6 | 16 => 7 | 17 => 3 | 18 => 11 | 19 => 12 | n => n⟩
theorem Tryz.laysC245 : Go.Proofs.LaysC.n245 Tryz.prog Tryz.laysC245_ren := {
  mixed := by kernel_rfl
  f129 := Tryz.func205.trans (congrArg some (by kernel_rfl))
  f171 := Tryz.func72.trans (congrArg some (by kernel_rfl))
  f205 := Tryz.func259.trans (congrArg some (by kernel_rfl))
  f243 := Tryz.func128.trans (congrArg some (by kernel_rfl))
  f245 := Tryz.func174.trans (congrArg some (by kernel_rfl))
  f246 := Tryz.func180.trans (congrArg some (by kernel_rfl))
  f279 := Tryz.func214.trans (congrArg some (by kernel_rfl))
  f280 := Tryz.func215.trans (congrArg some (by kernel_rfl))
  f281 := Tryz.func216.trans (congrArg some (by kernel_rfl))
  f282 := Tryz.func217.trans (congrArg some (by kernel_rfl))
  f283 := Tryz.func166.trans (congrArg some (by kernel_rfl))
  f284 := Tryz.func167.trans (congrArg some (by kernel_rfl))
  f285 := Tryz.func168.trans (congrArg some (by kernel_rfl))
  f286 := Tryz.func169.trans (congrArg some (by kernel_rfl))
  f316 := Tryz.func258.trans (congrArg some (by kernel_rfl))
  f317 := Tryz.func204.trans (congrArg some (by kernel_rfl))
  f318 := Tryz.func206.trans (congrArg some (by kernel_rfl))
  f319 := Tryz.func207.trans (congrArg some (by kernel_rfl))
  f320 := Tryz.func208.trans (congrArg some (by kernel_rfl))
  f337 := Tryz.func246.trans (congrArg some (by kernel_rfl))
  f338 := Tryz.func247.trans (congrArg some (by kernel_rfl))
  t0 := Tryz.underlying0
  a0 := Tryz.isAgg0
  z0 := Tryz.sizeOf0
  v0 := Tryz.zeroValue0
  t2 := Tryz.underlying2
  a2 := Tryz.isAgg2
  z2 := Tryz.sizeOf2
  v2 := Tryz.zeroValue2
  t3 := Tryz.underlying3
  a3 := Tryz.isAgg3
  z3 := Tryz.sizeOf3
  v3 := Tryz.zeroValue3
  t4 := Tryz.underlying4
  a4 := Tryz.isAgg4
  z4 := Tryz.sizeOf4
  v4 := Tryz.zeroValue4
  t5 := Tryz.underlying5
  a5 := Tryz.isAgg5
  z5 := Tryz.sizeOf5
  v5 := Tryz.zeroValue5
  t9 := Tryz.underlying9
  a9 := Tryz.isAgg9
  z9 := Tryz.sizeOf9
  v9 := Tryz.zeroValue9
  t20 := Tryz.underlying20
  a20 := Tryz.isAgg20
  z20 := Tryz.sizeOf20
  v20 := Tryz.zeroValue20
  t37 := Tryz.underlying102
  a37 := Tryz.isAgg102
  z37 := Tryz.sizeOf102
  v37 := Tryz.zeroValue102
  t46 := Tryz.underlying252
  a46 := Tryz.isAgg252
  z46 := Tryz.sizeOf252
  v46 := Tryz.zeroValue252
  t51 := Tryz.underlying184
  a51 := Tryz.isAgg184
  z51 := Tryz.sizeOf184
  v51 := Tryz.zeroValue184
  t53 := Tryz.underlying32
  a53 := Tryz.isAgg32
  z53 := Tryz.sizeOf32
  v53 := Tryz.zeroValue32
  t75 := Tryz.underlying155
  a75 := Tryz.isAgg155
  z75 := Tryz.sizeOf155
  v75 := Tryz.zeroValue155
  t127 := Tryz.underlying243
  a127 := Tryz.isAgg243
  z127 := Tryz.sizeOf243
  v127 := Tryz.zeroValue243
  t143 := Tryz.underlying382
  a143 := Tryz.isAgg382
  z143 := Tryz.sizeOf382
  v143 := Tryz.zeroValue382
  t145 := Tryz.underlying384
  a145 := Tryz.isAgg384
  z145 := Tryz.sizeOf384
  v145 := Tryz.zeroValue384
  t167 := Tryz.underlying305
  a167 := Tryz.isAgg305
  z167 := Tryz.sizeOf305
  v167 := Tryz.zeroValue305
  t168 := Tryz.underlying307
  a168 := Tryz.isAgg307
  z168 := Tryz.sizeOf307
  v168 := Tryz.zeroValue307
  t171 := Tryz.underlying268
  a171 := Tryz.isAgg268
  z171 := Tryz.sizeOf268
  v171 := Tryz.zeroValue268
  t173 := Tryz.underlying270
  a173 := Tryz.isAgg270
  z173 := Tryz.sizeOf270
  v173 := Tryz.zeroValue270
  t210 := Tryz.underlying348
  a210 := Tryz.isAgg348
  z210 := Tryz.sizeOf348
  v210 := Tryz.zeroValue348
  t212 := Tryz.underlying299
  a212 := Tryz.isAgg299
  z212 := Tryz.sizeOf299
  v212 := Tryz.zeroValue299
  t213 := Tryz.underlying300
  a213 := Tryz.isAgg300
  z213 := Tryz.sizeOf300
  t232 := Tryz.underlying375
  a232 := Tryz.isAgg375
  z232 := Tryz.sizeOf375
  v232 := Tryz.zeroValue375
  t233 := Tryz.underlying376
  a233 := Tryz.isAgg376
  z233 := Tryz.sizeOf376
  v233 := Tryz.zeroValue376
  g15 := by kernel_rfl
  g16 := by kernel_rfl
  g17 := by kernel_rfl
  g18 := by kernel_rfl
  g19 := by kernel_rfl
  t80 := Tryz.underlying81
  a80 := Tryz.isAgg81
  z80 := Tryz.sizeOf81
  v80 := Tryz.zeroValue81
  i0 := by kernel_rfl
  i2 := by kernel_rfl
  i3 := by kernel_rfl
  i4 := by kernel_rfl
  i5 := by kernel_rfl
  i9 := by kernel_rfl
  i20 := by kernel_rfl
  i37 := by kernel_rfl
  i46 := by kernel_rfl
  i51 := by kernel_rfl
  i53 := by kernel_rfl
  i75 := by kernel_rfl
  i80 := by kernel_rfl
  i127 := by kernel_rfl
  i143 := by kernel_rfl
  i145 := by kernel_rfl
  i167 := by kernel_rfl
  i168 := by kernel_rfl
  i171 := by kernel_rfl
  i173 := by kernel_rfl
  i210 := by kernel_rfl
  i212 := by kernel_rfl
  i232 := by kernel_rfl
  i233 := by kernel_rfl
  m15 := by kernel_rfl
  m16 := by kernel_rfl
  m17 := by kernel_rfl
  m18 := by kernel_rfl
  m19 := by kernel_rfl
  c0 := by kernel_rfl
  c2 := by kernel_rfl
  c3 := by kernel_rfl
  c4 := by kernel_rfl
  c5 := by kernel_rfl
  c9 := by kernel_rfl
  c20 := by kernel_rfl
  c37 := by kernel_rfl
  c46 := by kernel_rfl
  c51 := by kernel_rfl
  c53 := by kernel_rfl
  c75 := by kernel_rfl
  c80 := by kernel_rfl
  c127 := by kernel_rfl
  c143 := by kernel_rfl
  c145 := by kernel_rfl
  c167 := by kernel_rfl
  c168 := by kernel_rfl
  c171 := by kernel_rfl
  c173 := by kernel_rfl
  c210 := by kernel_rfl
  c212 := by kernel_rfl
  c213 := by kernel_rfl
  c232 := by kernel_rfl
  c233 := by kernel_rfl }
open Go.RowKit in
theorem Tryz.strconv_toError_syntax (fn s : ByteArray) (base bits : Int) (ev : Value) (w : World) (hlim : s.size ≤ 281474976710656) (hv : w.cell? ⟨6, 0, none⟩ = some ev) (hev : ev = .nilIface ∨ ∃ te pe, ev = .iface te pe) :
    Calls Tryz.prog 174 #[.string fn, .string s, .int .i64 base, .int .i64 bits, .iface 305 (.int .i64 2)] w fun e w' => ∃ N, e = .returned (.iface 307 (.pointer (some ⟨N, 0, none⟩))) ∧ w.heap.size ≤ N ∧ w'.heap[N]? = some (.cells #[.string fn, .string s, ev] 348 (0, 0)) ∧ Below w.heap.size w w' := Any.strconv_toError_syntax Tryz.laysC245 fn s base bits ev w hlim hv hev
def Tryz.laysC172_ren : Go.Shelf.Ren := ⟨fun | 172 => 240 | 244 => 285 | 245 => 174 | 247 => 307 | 279 => 214 | 280 => 215 | 281 => 216 | 282 => 217 | 287 => 173 | 316 => 258 | 171 => 72 | 205 => 259 | 321 => 212 | 322 => 213 | 243 => 128 | 246 => 180 | 283 => 166 | 284 => 167 | 285 => 168 | 286 => 169 | 129 => 205 | 317 => 204 | 318 => 206 | 319 => 207 | 320 => 208 | 337 => 246 | 338 => 247 | n => n, fun | 9 => 9 | 3 => 3 | 75 => 155 | 76 => 156 | 4 => 4 | 5 => 5 | 167 => 305 | 37 => 102 | 0 => 0 | 85 => 394 | 2 => 2 | 168 => 307 | 53 => 32 | 175 => 224 | 46 => 252 | 210 => 348 | 127 => 243 | 145 => 384 | 143 => 382 | 21 => 21 | 171 => 268 | 173 => 270 | 212 => 299 | 51 => 184 | 20 => 20 | 213 => 300 | 232 => 375 | 233 => 376 | 80 => 81 | n => n, fun | 15 => 6 | 16 => 7 | 17 => 3 | 18 => 11 | 19 => 12 | n => n⟩
theorem Tryz.laysC172 : Go.Proofs.LaysC.n172 Tryz.prog Tryz.laysC172_ren := {
  mixed := by kernel_rfl
  f129 := Tryz.func205.trans (congrArg some (by kernel_rfl))
  f171 := Tryz.func72.trans (congrArg some (by kernel_rfl))
  f172 := Tryz.func240.trans (congrArg some (by kernel_rfl))
  f205 := Tryz.func259.trans (congrArg some (by kernel_rfl))
  f243 := Tryz.func128.trans (congrArg some (by kernel_rfl))
  f244 := Tryz.func285.trans (congrArg some (by kernel_rfl))
  f245 := Tryz.func174.trans (congrArg some (by kernel_rfl))
  f246 := Tryz.func180.trans (congrArg some (by kernel_rfl))
  f247 := Tryz.func307.trans (congrArg some (by kernel_rfl))
  f279 := Tryz.func214.trans (congrArg some (by kernel_rfl))
  f280 := Tryz.func215.trans (congrArg some (by kernel_rfl))
  f281 := Tryz.func216.trans (congrArg some (by kernel_rfl))
  f282 := Tryz.func217.trans (congrArg some (by kernel_rfl))
  f283 := Tryz.func166.trans (congrArg some (by kernel_rfl))
  f284 := Tryz.func167.trans (congrArg some (by kernel_rfl))
  f285 := Tryz.func168.trans (congrArg some (by kernel_rfl))
  f286 := Tryz.func169.trans (congrArg some (by kernel_rfl))
  f287 := Tryz.func173.trans (congrArg some (by kernel_rfl))
  f316 := Tryz.func258.trans (congrArg some (by kernel_rfl))
  f317 := Tryz.func204.trans (congrArg some (by kernel_rfl))
  f318 := Tryz.func206.trans (congrArg some (by kernel_rfl))
  f319 := Tryz.func207.trans (congrArg some (by kernel_rfl))
  f320 := Tryz.func208.trans (congrArg some (by kernel_rfl))
  f321 := Tryz.func212.trans (congrArg some (by kernel_rfl))
  f322 := Tryz.func213.trans (congrArg some (by kernel_rfl))
  f337 := Tryz.func246.trans (congrArg some (by kernel_rfl))
  f338 := Tryz.func247.trans (congrArg some (by kernel_rfl))
  t0 := Tryz.underlying0
  a0 := Tryz.isAgg0
  z0 := Tryz.sizeOf0
  v0 := Tryz.zeroValue0
  t2 := Tryz.underlying2
  a2 := Tryz.isAgg2
  z2 := Tryz.sizeOf2
  v2 := Tryz.zeroValue2
  t3 := Tryz.underlying3
  a3 := Tryz.isAgg3
  z3 := Tryz.sizeOf3
  v3 := Tryz.zeroValue3
  t4 := Tryz.underlying4
  a4 := Tryz.isAgg4
  z4 := Tryz.sizeOf4
  v4 := Tryz.zeroValue4
  t5 := Tryz.underlying5
  a5 := Tryz.isAgg5
  z5 := Tryz.sizeOf5
  v5 := Tryz.zeroValue5
  t9 := Tryz.underlying9
  a9 := Tryz.isAgg9
  z9 := Tryz.sizeOf9
  v9 := Tryz.zeroValue9
  t20 := Tryz.underlying20
  a20 := Tryz.isAgg20
  z20 := Tryz.sizeOf20
  v20 := Tryz.zeroValue20
  t21 := Tryz.underlying21
  a21 := Tryz.isAgg21
  z21 := Tryz.sizeOf21
  v21 := Tryz.zeroValue21
  t37 := Tryz.underlying102
  a37 := Tryz.isAgg102
  z37 := Tryz.sizeOf102
  v37 := Tryz.zeroValue102
  t46 := Tryz.underlying252
  a46 := Tryz.isAgg252
  z46 := Tryz.sizeOf252
  v46 := Tryz.zeroValue252
  t51 := Tryz.underlying184
  a51 := Tryz.isAgg184
  z51 := Tryz.sizeOf184
  v51 := Tryz.zeroValue184
  t53 := Tryz.underlying32
  a53 := Tryz.isAgg32
  z53 := Tryz.sizeOf32
  v53 := Tryz.zeroValue32
  t75 := Tryz.underlying155
  a75 := Tryz.isAgg155
  z75 := Tryz.sizeOf155
  v75 := Tryz.zeroValue155
  t76 := Tryz.underlying156
  a76 := Tryz.isAgg156
  z76 := Tryz.sizeOf156
  v76 := Tryz.zeroValue156
  t85 := Tryz.underlying394
  a85 := Tryz.isAgg394
  z85 := Tryz.sizeOf394
  v85 := Tryz.zeroValue394
  t127 := Tryz.underlying243
  a127 := Tryz.isAgg243
  z127 := Tryz.sizeOf243
  v127 := Tryz.zeroValue243
  t143 := Tryz.underlying382
  a143 := Tryz.isAgg382
  z143 := Tryz.sizeOf382
  v143 := Tryz.zeroValue382
  t145 := Tryz.underlying384
  a145 := Tryz.isAgg384
  z145 := Tryz.sizeOf384
  v145 := Tryz.zeroValue384
  t167 := Tryz.underlying305
  a167 := Tryz.isAgg305
  z167 := Tryz.sizeOf305
  v167 := Tryz.zeroValue305
  t168 := Tryz.underlying307
  a168 := Tryz.isAgg307
  z168 := Tryz.sizeOf307
  v168 := Tryz.zeroValue307
  t171 := Tryz.underlying268
  a171 := Tryz.isAgg268
  z171 := Tryz.sizeOf268
  v171 := Tryz.zeroValue268
  t173 := Tryz.underlying270
  a173 := Tryz.isAgg270
  z173 := Tryz.sizeOf270
  v173 := Tryz.zeroValue270
  t175 := Tryz.underlying224
  a175 := Tryz.isAgg224
  z175 := Tryz.sizeOf224
  v175 := Tryz.zeroValue224
  t210 := Tryz.underlying348
  a210 := Tryz.isAgg348
  z210 := Tryz.sizeOf348
  v210 := Tryz.zeroValue348
  t212 := Tryz.underlying299
  a212 := Tryz.isAgg299
  z212 := Tryz.sizeOf299
  v212 := Tryz.zeroValue299
  t213 := Tryz.underlying300
  a213 := Tryz.isAgg300
  z213 := Tryz.sizeOf300
  t232 := Tryz.underlying375
  a232 := Tryz.isAgg375
  z232 := Tryz.sizeOf375
  v232 := Tryz.zeroValue375
  t233 := Tryz.underlying376
  a233 := Tryz.isAgg376
  z233 := Tryz.sizeOf376
  v233 := Tryz.zeroValue376
  g15 := by kernel_rfl
  g16 := by kernel_rfl
  g17 := by kernel_rfl
  g18 := by kernel_rfl
  g19 := by kernel_rfl
  t80 := Tryz.underlying81
  a80 := Tryz.isAgg81
  z80 := Tryz.sizeOf81
  v80 := Tryz.zeroValue81
  i0 := by kernel_rfl
  i2 := by kernel_rfl
  i3 := by kernel_rfl
  i4 := by kernel_rfl
  i5 := by kernel_rfl
  i9 := by kernel_rfl
  i20 := by kernel_rfl
  i21 := by kernel_rfl
  i37 := by kernel_rfl
  i46 := by kernel_rfl
  i51 := by kernel_rfl
  i53 := by kernel_rfl
  i75 := by kernel_rfl
  i76 := by kernel_rfl
  i80 := by kernel_rfl
  i85 := by kernel_rfl
  i127 := by kernel_rfl
  i143 := by kernel_rfl
  i145 := by kernel_rfl
  i167 := by kernel_rfl
  i168 := by kernel_rfl
  i171 := by kernel_rfl
  i173 := by kernel_rfl
  i175 := by kernel_rfl
  i210 := by kernel_rfl
  i212 := by kernel_rfl
  i232 := by kernel_rfl
  i233 := by kernel_rfl
  m15 := by kernel_rfl
  m16 := by kernel_rfl
  m17 := by kernel_rfl
  m18 := by kernel_rfl
  m19 := by kernel_rfl
  c0 := by kernel_rfl
  c2 := by kernel_rfl
  c3 := by kernel_rfl
  c4 := by kernel_rfl
  c5 := by kernel_rfl
  c9 := by kernel_rfl
  c20 := by kernel_rfl
  c21 := by kernel_rfl
  c37 := by kernel_rfl
  c46 := by kernel_rfl
  c51 := by kernel_rfl
  c53 := by kernel_rfl
  c75 := by kernel_rfl
  c76 := by kernel_rfl
  c80 := by kernel_rfl
  c85 := by kernel_rfl
  c127 := by kernel_rfl
  c143 := by kernel_rfl
  c145 := by kernel_rfl
  c167 := by kernel_rfl
  c168 := by kernel_rfl
  c171 := by kernel_rfl
  c173 := by kernel_rfl
  c175 := by kernel_rfl
  c210 := by kernel_rfl
  c212 := by kernel_rfl
  c213 := by kernel_rfl
  c232 := by kernel_rfl
  c233 := by kernel_rfl }
def Tryz.lays287_ren : Go.Shelf.Ren := ⟨fun | 287 => 173 | 321 => 212 | 322 => 213 | n => n, fun | 9 => 9 | 3 => 3 | 53 => 32 | 75 => 155 | 4 => 4 | 167 => 305 | 5 => 5 | 46 => 252 | 37 => 102 | 0 => 0 | 21 => 21 | 80 => 81 | n => n, fun | n => n⟩
theorem Tryz.lays287 : Go.Proofs.Lays.n287 Tryz.prog Tryz.lays287_ren := {
  mixed := by kernel_rfl
  f287 := Tryz.func173.trans (congrArg some (by kernel_rfl))
  f321 := Tryz.func212.trans (congrArg some (by kernel_rfl))
  f322 := Tryz.func213.trans (congrArg some (by kernel_rfl))
  t0 := Tryz.underlying0
  a0 := Tryz.isAgg0
  z0 := Tryz.sizeOf0
  v0 := Tryz.zeroValue0
  t3 := Tryz.underlying3
  a3 := Tryz.isAgg3
  z3 := Tryz.sizeOf3
  v3 := Tryz.zeroValue3
  t4 := Tryz.underlying4
  a4 := Tryz.isAgg4
  z4 := Tryz.sizeOf4
  v4 := Tryz.zeroValue4
  t5 := Tryz.underlying5
  a5 := Tryz.isAgg5
  z5 := Tryz.sizeOf5
  v5 := Tryz.zeroValue5
  t9 := Tryz.underlying9
  a9 := Tryz.isAgg9
  z9 := Tryz.sizeOf9
  v9 := Tryz.zeroValue9
  t21 := Tryz.underlying21
  a21 := Tryz.isAgg21
  z21 := Tryz.sizeOf21
  v21 := Tryz.zeroValue21
  t37 := Tryz.underlying102
  a37 := Tryz.isAgg102
  z37 := Tryz.sizeOf102
  v37 := Tryz.zeroValue102
  t46 := Tryz.underlying252
  a46 := Tryz.isAgg252
  z46 := Tryz.sizeOf252
  v46 := Tryz.zeroValue252
  t53 := Tryz.underlying32
  a53 := Tryz.isAgg32
  z53 := Tryz.sizeOf32
  v53 := Tryz.zeroValue32
  t75 := Tryz.underlying155
  a75 := Tryz.isAgg155
  z75 := Tryz.sizeOf155
  v75 := Tryz.zeroValue155
  t167 := Tryz.underlying305
  a167 := Tryz.isAgg305
  z167 := Tryz.sizeOf305
  v167 := Tryz.zeroValue305 }
open Go.RowKit in
theorem Tryz.strconv_toError_range (fn s : ByteArray) (base bits : Int) (ev : Value) (w : World) (hlim : s.size ≤ 281474976710656) (hv : w.cell? ⟨7, 0, none⟩ = some ev) (hev : ev = .nilIface ∨ ∃ te pe, ev = .iface te pe) :
    Calls Tryz.prog 174 #[.string fn, .string s, .int .i64 base, .int .i64 bits, .iface 305 (.int .i64 1)] w fun e w' => ∃ N, e = .returned (.iface 307 (.pointer (some ⟨N, 0, none⟩))) ∧ w.heap.size ≤ N ∧ w'.heap[N]? = some (.cells #[.string fn, .string s, ev] 348 (0, 0)) ∧ Below w.heap.size w w' := Any.strconv_toError_range Tryz.laysC245 fn s base bits ev w hlim hv hev
open Go.RowKit in
theorem Tryz.strconv_Atoi_ok (s : ByteArray) (hmax : s.size ≤ 9223372036854775806) (v : Int) (h : Lib.atoiAll s.data.toList = .ok v) (w : World) :
    Calls Tryz.prog 240 #[.string s] w fun e w' => e = .returned (.tuple #[.int .i64 v, .nilIface]) ∧ (w' = w ∨ ∃ t, w' = Lib.bytesWorld w 5 t) := Any.strconv_Atoi_ok Tryz.laysC172 s hmax v h w
open Go.RowKit in
theorem Tryz.strconv_Atoi_range (s : ByteArray) (hlim : s.size ≤ 281474976710656) (h : Lib.atoiAll s.data.toList = .range) (ev : Value) (w : World) (hv : w.cell? ⟨7, 0, none⟩ = some ev) (hev : ev = .nilIface ∨ ∃ te pe, ev = .iface te pe) :
    Calls Tryz.prog 240 #[.string s] w fun e w' => ∃ N, e = .returned (.tuple #[.int .i64 (Lib.atoiSat s.data.toList), .iface 307 (.pointer (some ⟨N, 0, none⟩))]) ∧ w.heap.size ≤ N ∧ w'.heap[N]? = some (.cells #[.string ⟨#[65, 116, 111, 105]⟩, .string s, ev] 348 (0, 0)) ∧ Below w.heap.size w w' := Any.strconv_Atoi_range Tryz.laysC172 s hlim h ev w hv hev
open Go.RowKit in
theorem Tryz.internal_strconv_ParseUint_10_at64 (t : ByteArray) (hmax : t.size ≤ 9223372036854775806) (w : World) :
    Calls Tryz.prog 173 #[.string t, .int .i64 10, .int .i64 64] w fun e w' => e = .returned (Lib.uintTupleM 305 18446744073709551615 (Lib.parseUintB 64 t.data.toList)) ∧ (w' = w ∨ w' = Lib.bytesWorld w 5 t) := Any.internal_strconv_ParseUint_10_at64 Tryz.lays287 t hmax w
def Tryz.lays145_ren : Go.Shelf.Ren := ⟨fun | 145 => 157 | 220 => 194 | 219 => 236 | 217 => 191 | 225 => 279 | 224 => 280 | 267 => 281 | 266 => 228 | 314 => 305 | n => n, fun | 9 => 9 | 4 => 4 | 59 => 170 | 3 => 3 | 5 => 5 | 46 => 252 | 146 => 371 | 51 => 184 | n => n, fun | 1 => 1 | n => n⟩
theorem Tryz.lays145 : Go.Proofs.Lays.n145 Tryz.prog Tryz.lays145_ren := {
  mixed := by kernel_rfl
  f145 := Tryz.func157.trans (congrArg some (by kernel_rfl))
  f217 := Tryz.func191.trans (congrArg some (by kernel_rfl))
  f219 := Tryz.func236.trans (congrArg some (by kernel_rfl))
  f220 := Tryz.func194.trans (congrArg some (by kernel_rfl))
  f224 := Tryz.func280.trans (congrArg some (by kernel_rfl))
  f225 := Tryz.func279.trans (congrArg some (by kernel_rfl))
  f266 := Tryz.func228.trans (congrArg some (by kernel_rfl))
  f267 := Tryz.func281.trans (congrArg some (by kernel_rfl))
  f314 := Tryz.func305.trans (congrArg some (by kernel_rfl))
  t3 := Tryz.underlying3
  a3 := Tryz.isAgg3
  z3 := Tryz.sizeOf3
  v3 := Tryz.zeroValue3
  t4 := Tryz.underlying4
  a4 := Tryz.isAgg4
  z4 := Tryz.sizeOf4
  v4 := Tryz.zeroValue4
  t5 := Tryz.underlying5
  a5 := Tryz.isAgg5
  z5 := Tryz.sizeOf5
  v5 := Tryz.zeroValue5
  t9 := Tryz.underlying9
  a9 := Tryz.isAgg9
  z9 := Tryz.sizeOf9
  v9 := Tryz.zeroValue9
  t46 := Tryz.underlying252
  a46 := Tryz.isAgg252
  z46 := Tryz.sizeOf252
  v46 := Tryz.zeroValue252
  t51 := Tryz.underlying184
  a51 := Tryz.isAgg184
  z51 := Tryz.sizeOf184
  v51 := Tryz.zeroValue184
  t59 := Tryz.underlying170
  a59 := Tryz.isAgg170
  z59 := Tryz.sizeOf170
  v59 := Tryz.zeroValue170
  t146 := Tryz.underlying371
  a146 := Tryz.isAgg371
  z146 := Tryz.sizeOf371
  v146 := Tryz.zeroValue371
  g1 := by kernel_rfl }
open Go.RowKit Go.Lib in
theorem Tryz.strings_Cut (s sep : ByteArray) (m : Int) (w : World) (hs : s.size < 4294967281) (hm : w.cell? ⟨1, 0, none⟩ = some (.int .i64 m)) :
    Calls Tryz.prog 157 #[.string s, .string sep] w fun e w' => e = .returned (.tuple #[.string ⟨(Lib.cut s.data.toList sep.data.toList).1.toArray⟩, .string ⟨(Lib.cut s.data.toList sep.data.toList).2.1.toArray⟩, .bool (Lib.cut s.data.toList sep.data.toList).2.2]) ∧ ∃ n, w' = w.drewN n := Any.strings_Cut Tryz.lays145 s sep m w hs hm
def Tryz.lays99_ren : Go.Shelf.Ren := ⟨fun | 99 => 85 | 206 => 142 | n => n, fun | 9 => 9 | 4 => 4 | 3 => 3 | n => n, fun | n => n⟩
theorem Tryz.lays99 : Go.Proofs.Lays.n99 Tryz.prog Tryz.lays99_ren := {
  mixed := by kernel_rfl
  f99 := Tryz.func85.trans (congrArg some (by kernel_rfl))
  f206 := Tryz.func142.trans (congrArg some (by kernel_rfl))
  t3 := Tryz.underlying3
  a3 := Tryz.isAgg3
  z3 := Tryz.sizeOf3
  v3 := Tryz.zeroValue3
  t4 := Tryz.underlying4
  a4 := Tryz.isAgg4
  z4 := Tryz.sizeOf4
  v4 := Tryz.zeroValue4
  t9 := Tryz.underlying9
  a9 := Tryz.isAgg9
  z9 := Tryz.sizeOf9
  v9 := Tryz.zeroValue9 }
open Go.RowKit Go.Lib in
theorem Tryz.strings_HasPrefix (s p : ByteArray) (w : World) :
    Calls Tryz.prog 85 #[.string s, .string p] w fun e w' => e = .returned (.bool (Lib.hasPrefix s.data.toList p.data.toList)) ∧ w' = w := Any.strings_HasPrefix Tryz.lays99 s p w
def Tryz.lays146_ren : Go.Shelf.Ren := ⟨fun | 146 => 158 | 221 => 195 | 268 => 237 | 138 => 238 | 143 => 239 | 195 => 282 | 197 => 283 | 218 => 284 | 219 => 236 | 260 => 306 | 217 => 191 | 225 => 279 | 224 => 280 | 267 => 281 | 266 => 228 | 314 => 305 | n => n, fun | 9 => 9 | 31 => 34 | 3 => 3 | 4 => 4 | 0 => 0 | 105 => 368 | 21 => 21 | 5 => 5 | 46 => 252 | 119 => 402 | 139 => 405 | 138 => 404 | 146 => 371 | 51 => 184 | n => n, fun | 1 => 1 | 3 => 13 | 4 => 14 | n => n⟩
theorem Tryz.lays146 : Go.Proofs.Lays.n146 Tryz.prog Tryz.lays146_ren := {
  mixed := by kernel_rfl
  f138 := Tryz.func238.trans (congrArg some (by kernel_rfl))
  f143 := Tryz.func239.trans (congrArg some (by kernel_rfl))
  f146 := Tryz.func158.trans (congrArg some (by kernel_rfl))
  f195 := Tryz.func282.trans (congrArg some (by kernel_rfl))
  f197 := Tryz.func283.trans (congrArg some (by kernel_rfl))
  f217 := Tryz.func191.trans (congrArg some (by kernel_rfl))
  f218 := Tryz.func284.trans (congrArg some (by kernel_rfl))
  f219 := Tryz.func236.trans (congrArg some (by kernel_rfl))
  f221 := Tryz.func195.trans (congrArg some (by kernel_rfl))
  f224 := Tryz.func280.trans (congrArg some (by kernel_rfl))
  f225 := Tryz.func279.trans (congrArg some (by kernel_rfl))
  f260 := Tryz.func306.trans (congrArg some (by kernel_rfl))
  f266 := Tryz.func228.trans (congrArg some (by kernel_rfl))
  f267 := Tryz.func281.trans (congrArg some (by kernel_rfl))
  f268 := Tryz.func237.trans (congrArg some (by kernel_rfl))
  f314 := Tryz.func305.trans (congrArg some (by kernel_rfl))
  t0 := Tryz.underlying0
  a0 := Tryz.isAgg0
  z0 := Tryz.sizeOf0
  v0 := Tryz.zeroValue0
  t3 := Tryz.underlying3
  a3 := Tryz.isAgg3
  z3 := Tryz.sizeOf3
  v3 := Tryz.zeroValue3
  t4 := Tryz.underlying4
  a4 := Tryz.isAgg4
  z4 := Tryz.sizeOf4
  v4 := Tryz.zeroValue4
  t5 := Tryz.underlying5
  a5 := Tryz.isAgg5
  z5 := Tryz.sizeOf5
  v5 := Tryz.zeroValue5
  t9 := Tryz.underlying9
  a9 := Tryz.isAgg9
  z9 := Tryz.sizeOf9
  v9 := Tryz.zeroValue9
  t21 := Tryz.underlying21
  a21 := Tryz.isAgg21
  z21 := Tryz.sizeOf21
  v21 := Tryz.zeroValue21
  t31 := Tryz.underlying34
  a31 := Tryz.isAgg34
  z31 := Tryz.sizeOf34
  v31 := Tryz.zeroValue34
  t46 := Tryz.underlying252
  a46 := Tryz.isAgg252
  z46 := Tryz.sizeOf252
  v46 := Tryz.zeroValue252
  t51 := Tryz.underlying184
  a51 := Tryz.isAgg184
  z51 := Tryz.sizeOf184
  v51 := Tryz.zeroValue184
  t105 := Tryz.underlying368
  a105 := Tryz.isAgg368
  z105 := Tryz.sizeOf368
  v105 := Tryz.zeroValue368
  t119 := Tryz.underlying402
  a119 := Tryz.isAgg402
  z119 := Tryz.sizeOf402
  t138 := Tryz.underlying404
  a138 := Tryz.isAgg404
  z138 := Tryz.sizeOf404
  v138 := Tryz.zeroValue404
  t139 := Tryz.underlying405
  a139 := Tryz.isAgg405
  z139 := Tryz.sizeOf405
  v139 := Tryz.zeroValue405
  t146 := Tryz.underlying371
  a146 := Tryz.isAgg371
  z146 := Tryz.sizeOf371
  v146 := Tryz.zeroValue371
  g1 := by kernel_rfl
  g3 := by kernel_rfl
  g4 := by kernel_rfl }
open Go.RowKit Go.Lib in
theorem Tryz.strings_Split (s sep : ByteArray) (m : Int) (w : World) (hs : s.size < 4294967281) (hm : w.cell? ⟨1, 0, none⟩ = some (.int .i64 m)) (h1 : 1 ≤ sep.size) :
    Calls Tryz.prog 158 #[.string s, .string sep] w fun e w' =>
      e = .returned (.slice (some ⟨w.heap.size, 0, none⟩) (Lib.countB s sep + 1) (Lib.countB s sep + 1)) ∧ w' = w.alloc (.cells ((Lib.splitB sep 0 (Lib.countB s sep) s).map Value.string).toArray 9) := Any.strings_Split Tryz.lays146 (by kernel_rfl) s sep m w hs hm h1
def Tryz.lays212_ren : Go.Shelf.Ren := ⟨fun | 212 => 245 | 263 => 288 | 264 => 289 | n => n, fun | 46 => 252 | 51 => 184 | 146 => 371 | 53 => 32 | 148 => 373 | n => n, fun | n => n⟩
theorem Tryz.lays212 : Go.Proofs.Lays.n212 Tryz.prog Tryz.lays212_ren := {
  mixed := by kernel_rfl
  f212 := Tryz.func245.trans (congrArg some (by kernel_rfl))
  f263 := Tryz.func288.trans (congrArg some (by kernel_rfl))
  f264 := Tryz.func289.trans (congrArg some (by kernel_rfl))
  t46 := Tryz.underlying252
  a46 := Tryz.isAgg252
  z46 := Tryz.sizeOf252
  v46 := Tryz.zeroValue252
  t51 := Tryz.underlying184
  a51 := Tryz.isAgg184
  z51 := Tryz.sizeOf184
  v51 := Tryz.zeroValue184
  t53 := Tryz.underlying32
  a53 := Tryz.isAgg32
  z53 := Tryz.sizeOf32
  v53 := Tryz.zeroValue32
  t146 := Tryz.underlying371
  a146 := Tryz.isAgg371
  z146 := Tryz.sizeOf371
  v146 := Tryz.zeroValue371
  t148 := Tryz.underlying373
  a148 := Tryz.isAgg373
  z148 := Tryz.sizeOf373
  v148 := Tryz.zeroValue373 }
open Go.RowKit Go.Lib in
theorem Tryz.bits_Mul (x y : Nat) (hx : x < 18446744073709551616) (hy : y < 18446744073709551616) (w : World) :
    Calls Tryz.prog 245 #[.int .u64 x, .int .u64 y] w fun e w' => e = .returned (.tuple #[.int .u64 ((x * y / 18446744073709551616 : Nat) : Int), .int .u64 ((x * y % 18446744073709551616 : Nat) : Int)]) ∧ w' = w := Any.bits_Mul Tryz.lays212 x y hx hy w
def Tryz.laysSlJ14_ren : Go.Shelf.Ren := ⟨fun | 14 => 110 | 15 => 163 | n => n, fun | 26 => 215 | 22 => 102 | 3 => 3 | 4 => 4 | 0 => 0 | 9 => 9 | 20 => 20 | 5 => 5 | n => n, fun | n => n⟩
theorem Tryz.laysSlJ14 : Go.Proofs.SlLaysJ.n14 Tryz.prog Tryz.laysSlJ14_ren := {
  mixed := by kernel_rfl
  f14 := Tryz.func110.trans (congrArg some (by kernel_rfl))
  f15 := Tryz.func163.trans (congrArg some (by kernel_rfl))
  t0 := Tryz.underlying0
  a0 := Tryz.isAgg0
  z0 := Tryz.sizeOf0
  v0 := Tryz.zeroValue0
  t3 := Tryz.underlying3
  a3 := Tryz.isAgg3
  z3 := Tryz.sizeOf3
  v3 := Tryz.zeroValue3
  t4 := Tryz.underlying4
  a4 := Tryz.isAgg4
  z4 := Tryz.sizeOf4
  v4 := Tryz.zeroValue4
  t9 := Tryz.underlying9
  a9 := Tryz.isAgg9
  z9 := Tryz.sizeOf9
  v9 := Tryz.zeroValue9
  t20 := Tryz.underlying20
  a20 := Tryz.isAgg20
  z20 := Tryz.sizeOf20
  v20 := Tryz.zeroValue20
  t22 := Tryz.underlying102
  a22 := Tryz.isAgg102
  z22 := Tryz.sizeOf102
  v22 := Tryz.zeroValue102
  t26 := Tryz.underlying215
  a26 := Tryz.isAgg215
  z26 := Tryz.sizeOf215
  v26 := Tryz.zeroValue215
  t5 := Tryz.underlying5
  z5 := Tryz.sizeOf5
  i5 := by kernel_rfl }
open Go.RowKit Go.Lib in
theorem Tryz.bytes_Join_many (b o n c : Nat) (vs : List Value) (ls : List (List UInt8)) (sv : Value) (sep : List UInt8) (w : World) (hn : ls.length = n) (h2 : 2 ≤ n) (hP : Lib.PartsAt w ⟨b, o, none⟩ vs ls) (hcap : n ≤ c) (hS : Lib.HoldsBytes w sv sep) (hn47 : n ≤ 140737488355328) (hlen : Lib.lens ls + sep.length * (n - 1) ≤ 140737488355328) :
    Calls Tryz.prog 110 #[.slice (some ⟨b, o, none⟩) n c, sv] w fun e w' => ∃ v', e = .returned v' ∧ Lib.FreshBytes w.heap.size w' v' (Lib.join ls sep) ∧ Below w.heap.size w w' := Any.bytes_Join_many Tryz.laysSlJ14 b o n c vs ls sv sep w hn h2 hP hcap hS hn47 hlen
end Go.Proofs

namespace Go.Proofs.YteenjgfbbkdlhaaGreatDoor.Sx
open Go
attribute [local irreducible] Calls
def selfV (b : Nat) : Value := .pointer (some ⟨b, 0, none⟩)
theorem con_of_calls {P : Program} {k : FuncId} {args : Array Value} {w : World} {Gs : List Fact} {R : Value → List Fact → Prop} (h : Calls P k args w fun e w' => ∃ v, e = .returned v ∧ Fin w Gs R v w') : Con P k args w Gs R := h
theorem fin_one {w w' : World} {f f' : Fact} {R : Value → List Fact → Prop} {v : Value} (hR : R v [f']) (hc : Chg f.D w w') (hp : f'.p w') (ho : f'.own = true) (hD : ∀ k, f'.D k → f.D k ∧ k < w'.heap.size) : Fin w [f] R v w' := by
  have hu : Un [f] = f.D := by funext k; simp [Un]
  refine ⟨[f'], hR, by rw [hu]; exact hc, ⟨fun g hg => ?_, fun g hg k hk => ?_, List.pairwise_singleton _ _⟩, ⟨ho, trivial⟩, fun g hg k hk => ?_⟩
  · obtain rfl := List.mem_singleton.1 hg; exact hp
  · obtain rfl := List.mem_singleton.1 hg; exact (hD k hk).2
  · obtain rfl := List.mem_singleton.1 hg; rw [hu]; exact .inl (hD k hk).1
theorem copyCheck_c (w : World) (b : Nat) (p x : Value) (hp : p = .pointer none ∨ p = selfV b) (h : (bkF b ty_strings_Builder [p, x]).p w) :
    Con Tryz.prog n_strings_Builder_copyCheck #[selfV b] w [bkF b ty_strings_Builder [p, x]] fun v Fs => v = .tuple #[] ∧ Fs = [bkF b ty_strings_Builder [selfV b, x]] := by
  have hb : w.heap[b]? = some (.cells #[p, x] ty_strings_Builder (0, 0)) := h
  have hlt : b < w.heap.size := (Array.getElem?_eq_some_iff.1 hb).1
  have h0 : w.cell? ⟨b, 0, none⟩ = some p := by rw [cell_of_row w b 0 _ _ _ hb]; rfl
  rcases hp with rfl | rfl
  · refine con_of_calls (Calls.mono (Any.Builder_copyCheck_fresh { Tryz.lays156 with } Tryz.Builder_Extra_156.toX72 b w h0 (by simp [World.shape?, hb]; rfl) (by simp [World.frozen?, hb])) ?_)
    rintro e w' ⟨rfl, rfl⟩
    have h2 := heap_setCell_same w b 0 #[.pointer none, x] ty_strings_Builder (selfV b) hb
    refine ⟨_, rfl, fin_one (f' := bkF b ty_strings_Builder [selfV b, x]) ⟨rfl, rfl⟩ ⟨rfl, rfl, rfl, by simp [World.setCell], fun k _ hk => heap_setCell_other w _ k _ hk⟩ h2 rfl (fun k hk => ⟨hk, ?_⟩)⟩
    obtain rfl : k = b := hk
    simpa [World.setCell] using hlt
  · refine con_of_calls (Calls.mono (Any.Builder_copyCheck_used { Tryz.lays156 with } Tryz.Builder_Extra_156.toX72 b w h0) ?_)
    rintro e w' ⟨rfl, rfl⟩
    refine ⟨_, rfl, fin_one (f' := bkF b ty_strings_Builder [selfV b, x]) ⟨rfl, rfl⟩ (Chg.refl _ _) h rfl (fun k hk => ⟨hk, ?_⟩)⟩
    obtain rfl : k = b := hk
    exact hlt
def bldF (b : Nat) (p : Value) (A : Option Addr) (l : List UInt8) (c : Nat) : List Fact := [bkF b ty_strings_Builder [p, .slice A l.length c], browF ty_uint8 A l c]
theorem writeByte_c (w : World) (b : Nat) (p : Value) (A : Option Addr) (l : List UInt8) (c : Nat) (x : UInt8) (hp : p = .pointer none ∨ p = selfV b) (hl : l.length < 140737488355328) (hm : Mem w (bldF b p A l c)) :
    Con Tryz.prog n_strings_Builder_WriteByte #[selfV b, byte x] w (bldF b p A l c) fun v Fs => v = .nilIface ∧ ∃ A' c', Fs = bldF b (selfV b) A' (l ++ [x]) c' := by
  have g := good_strings_Builder_WriteByte w (Un (bldF b p A l c))
  refine con_of_sx (cx := cx_strings_Builder_WriteByte w (Un (bldF b p A l c))) g b_strings_Builder_WriteByte rfl rfl (β := Va.z) [.c (.v (selfV b)), .c (.v (byte x))] 0 [] _ rfl rfl (hm.sat0 rfl (fun f hf _ k hk => ⟨f, hf, hk⟩)) ?_
  refine call_con [0] (fun β w' hs => copyCheck_c w' b p _ hp (hs.get 0 rfl)) ?_
  rintro v Fs ⟨rfl, rfl⟩
  refine ⟨.slice A l.length c, fun β w' hs => by
    have hb : w'.heap[b]? = some (.cells #[selfV b, .slice A l.length c] ty_strings_Builder (0, 0)) := hs.get 0 rfl
    show w'.cell? ⟨b, 1, none⟩ = _
    rw [cell_of_row w' b 1 _ _ _ hb]; rfl, ?_⟩
  intro b2
  refine ⟨2, l.length, l.length + 1, l.map byte, [byte x], (l ++ [x]).map byte, rfl, fun β w' hs => row_rd (hs.get 0 rfl), bytes_one [x], rfl, by simp, by rw [maxLen_eq]; omega, by show (l.length + 1) * 1 ≤ _; omega, ?_⟩
  intro A' c' h1 h2 h3
  refine ⟨_, fun β w' hs => hs.bkSet 1 (o := 1) (us := [.slice A' (l.length + 1) c']) rfl (Nat.le_refl 2) (fun u hu => by obtain rfl := List.mem_singleton.1 hu; rfl), ?_⟩
  intro β w' hs
  have e : (l ++ [x]).length = l.length + 1 := by simp
  refine hs.fin [1, 2] ⟨rfl, A', c', ?_⟩
  show [bkF b ty_strings_Builder [selfV b, .slice A' (l.length + 1) c'], rowF ty_uint8 1 (.slice A' (l.length + 1) c') (l.length + 1) ((l ++ [x]).map byte)] = _
  rw [← e]
  rfl
theorem Mem.none (w : World) : Mem w [] := ⟨fun _ q => (by cases q), fun _ q => (by cases q), List.Pairwise.nil⟩
theorem cellsU8 : Tryz.prog.cellsOf ty_uint8 = 1 := by kernel_rfl
theorem ptr_byte : Tryz.prog.underlying ty_ptr_uint8 = some (.pointer ty_uint8) := by kernel_rfl
theorem text_c (w : World) (b : Nat) (p : Value) (A : Option Addr) (l : List UInt8) (c : Nat) (hne : l ≠ []) (hm : Mem w (bldF b p A l c)) :
    Con Tryz.prog n_strings_Builder_String #[selfV b] w (bldF b p A l c) fun v Fs => v = .string ⟨l.toArray⟩ ∧ Fs = [] := by
  have g := good_strings_Builder_String w (Un (bldF b p A l c))
  have hl0 : l.length ≠ 0 := by simpa using hne
  have hrow : w.ownsRow 0 ty_uint8 1 (.slice A l.length c) l.length (l.map byte) := hm.fact _ (List.mem_cons_of_mem _ List.mem_cons_self)
  obtain ⟨gb, rfl, hlc, hcm⟩ : ∃ gb, A = some ⟨gb, 0, none⟩ ∧ l.length ≤ c ∧ c ≤ maxLen := by
    rcases hrow.2 with ⟨_, hz⟩ | ⟨gb, cap, cur, hv, _, _, h1, h2, _⟩
    · exact absurd hz hl0
    · injection hv with h3 h4 h5
      subst h5
      exact ⟨gb, h3, h1, h2⟩
  refine con_of_sx (cx := cx_strings_Builder_String w (Un (bldF b p (some ⟨gb, 0, none⟩) l c))) g b_strings_Builder_String rfl rfl (β := Va.z) [.c (.v (selfV b))] 0 [] _ rfl rfl (hm.sat0 rfl (fun f hf _ k hk => ⟨f, hf, hk⟩)) ?_
  refine draw_rule g p_strings_Builder_String_1 (by kernel_rfl) [] [bkF b ty_strings_Builder [p, .slice (some ⟨gb, 0, none⟩) l.length c]] (Sub.of (List.nil_sublist _) (List.sublist_append_left [_] [_])) ?_
  have hcell : ∀ (cx : Cx) (n : Nat) (β : Va) (w' : World), Sat cx β n [] [bkF b ty_strings_Builder [p, .slice (some ⟨gb, 0, none⟩) l.length c]] w' → w'.cell? ⟨b, 1, none⟩ = some (.slice (some ⟨gb, 0, none⟩) l.length c) := fun cx n β w' hs => by
    have hb : w'.heap[b]? = some (.cells #[p, .slice (some ⟨gb, 0, none⟩) l.length c] ty_strings_Builder (0, 0)) := hs.get 0 rfl
    rw [cell_of_row w' b 1 _ _ _ hb]; rfl
  refine ⟨.slice (some ⟨gb, 0, none⟩) l.length c, hcell _ _, ?_⟩
  refine ⟨.slice (some ⟨gb, 0, none⟩) l.length c, hcell _ _, ?_⟩
  refine ⟨[], _, .c (.v (.pointer (some ⟨gb, 0, none⟩))), fun β w' ty hs => ⟨w', ?_, hs⟩, trivial, Sub.of (List.nil_sublist _) (List.sublist_append_left [_] [_]), ?_⟩
  · have := Lib.run_unsafeSliceData_row (P := Tryz.prog) w' #[ty_sl_uint8] ty ⟨gb, 0, none⟩ l.length c (by omega)
    simp only [builtin, Sem.run_bind]
    erw [this]
    rfl
  refine ⟨[], [bkF b ty_strings_Builder [p, .slice (some ⟨gb, 0, none⟩) l.length c]], .c (.v (.string ⟨l.toArray⟩)), fun β w' ty hs => ⟨w'.freeze ⟨gb, 0, none⟩ l.length, ?_, ?_⟩, trivial, Sub.refl, ?_⟩
  · have hrow' : w'.ownsRow 0 ty_uint8 1 (.slice (some ⟨gb, 0, none⟩) l.length c) l.length (l.map byte) := hs.get 1 rfl
    obtain ⟨cur, hg, hcs⟩ : ∃ cur, w'.heap[gb]? = some (.cells cur ty_uint8 (0, 0)) ∧ cur.size = c * 1 := by
      rcases hrow'.2 with ⟨_, hz⟩ | ⟨g', cap, cur, hv, _, hg, _, _, h3, _⟩
      · exact absurd hz hl0
      · injection hv with h4 h5 h6
        injection h4 with h4
        injection h4 with h4
        subst h4 h6
        exact ⟨cur, hg, h3⟩
    have := Lib.run_unsafeString_row (P := Tryz.prog) w' ty_ptr_uint8 3 ty ty_uint8 ptr_byte cellsU8 gb cur.size (by simp [World.shape?, hg]) l hne (by omega) (by rw [maxLen_eq] at hcm; omega) (fun j x hx => by
      have hr := row_rd hrow'
      obtain ⟨ad, q, hc⟩ := hr.2 (by omega)
      obtain rfl := Option.some.inj q
      exact hc j (byte x) (by simp [hx]))
    simp only [builtin, Sem.run_bind]
    erw [this]
    rfl
  · refine hs.swap [1] ⟨rfl, trivial⟩ (Fs := []) (Chg.mono (freeze_chg _ _ _) (fun i _ q => ⟨_, List.mem_singleton.2 rfl, ?_⟩)) (Mem.none _) (fun _ q => by cases q)
    obtain rfl : i = gb := q
    rfl
  intro β w' hs
  exact hs.fin [] ⟨rfl, rfl⟩
end Go.Proofs.YteenjgfbbkdlhaaGreatDoor.Sx

namespace Go.Proofs.YteenjgfbbkdlhaaGreatDoor.Sx
open Go
def u32 (x : UInt32) : Value := .int .u32 (x.toNat : Int)
theorem wrap_u32 (x : Int) : IntKind.u32.wrap x = x % 4294967296 := by simp [IntKind.wrap, IntKind.bits, IntKind.signed]
theorem wrap32_nat (x : Nat) : IntKind.u32.wrap (x : Int) = ((UInt32.ofNat x).toNat : Int) := by
  rw [wrap_u32, UInt32.toNat_ofNat']
  omega
theorem add32 (a b : UInt32) : IntKind.u32.wrap ((a.toNat : Int) + (b.toNat : Int)) = ((a + b).toNat : Int) := by
  rw [wrap_u32, UInt32.toNat_add]
  omega
theorem ofInt32 (a : UInt32) : BitVec.ofInt 32 (a.toNat : Int) = a.toBitVec := by
  apply BitVec.eq_of_toNat_eq
  rw [BitVec.toNat_ofInt]
  have := a.toNat_lt
  have e : a.toBitVec.toNat = a.toNat := rfl
  rw [e]
  omega
theorem back32 (x : BitVec 32) : IntKind.u32.wrap (x.toNat : Int) = ((UInt32.ofBitVec x).toNat : Int) := by
  rw [wrap_u32]
  have := x.isLt
  have e : (UInt32.ofBitVec x).toNat = x.toNat := rfl
  rw [e]
  omega
theorem xor32 (a b : UInt32) : bits .xor .u32 (a.toNat : Int) (b.toNat : Int) = ((a ^^^ b).toNat : Int) := by
  show IntKind.u32.wrap (((BitVec.ofInt 32 (a.toNat : Int)) ^^^ (BitVec.ofInt 32 (b.toNat : Int))).toNat : Int) = _
  rw [ofInt32, ofInt32, back32]
  rfl
theorem and32 (a b : UInt32) : bits .and .u32 (a.toNat : Int) (b.toNat : Int) = ((a &&& b).toNat : Int) := by
  show IntKind.u32.wrap (((BitVec.ofInt 32 (a.toNat : Int)) &&& (BitVec.ofInt 32 (b.toNat : Int))).toNat : Int) = _
  rw [ofInt32, ofInt32, back32]
  rfl
theorem or32 (a b : UInt32) : bits .or .u32 (a.toNat : Int) (b.toNat : Int) = ((a ||| b).toNat : Int) := by
  show IntKind.u32.wrap (((BitVec.ofInt 32 (a.toNat : Int)) ||| (BitVec.ofInt 32 (b.toNat : Int))).toNat : Int) = _
  rw [ofInt32, ofInt32, back32]
  rfl
theorem not32 (a : UInt32) : bits .xor .u32 (if IntKind.u32.signed then -1 else IntKind.u32.max) (a.toNat : Int) = ((~~~ a).toNat : Int) := by
  show IntKind.u32.wrap (((BitVec.ofInt 32 4294967295) ^^^ (BitVec.ofInt 32 (a.toNat : Int))).toNat : Int) = _
  rw [ofInt32, back32]
  have e : UInt32.ofBitVec (BitVec.ofInt 32 4294967295 ^^^ a.toBitVec) = ~~~ a := by
    apply UInt32.toBitVec_inj.1
    show BitVec.ofInt 32 4294967295 ^^^ a.toBitVec = ~~~ a.toBitVec
    have : BitVec.ofInt 32 4294967295 = BitVec.allOnes 32 := by decide
    rw [this, BitVec.allOnes_xor]
  rw [e]
theorem shl32 (a : UInt32) (n : Nat) (hn : n < 32) : IntKind.u32.wrap ((a.toNat : Int) * 2 ^ (min (n : Int).toNat IntKind.u32.bits)) = ((a <<< UInt32.ofNat n).toNat : Int) := by
  have h1 : min (n : Int).toNat IntKind.u32.bits = n := by show min n 32 = n; omega
  rw [h1, wrap_u32, UInt32.toNat_shiftLeft, UInt32.toNat_ofNat', Nat.mod_eq_of_lt (show n < 2 ^ 32 by omega), Nat.mod_eq_of_lt hn, Nat.shiftLeft_eq]
  have : ((a.toNat : Int) * 2 ^ n) = ((a.toNat * 2 ^ n : Nat) : Int) := by push_cast; rfl
  rw [this]
  omega
theorem shr32 (a : UInt32) (n : Nat) (hn : n < 32) : (a.toNat : Int).fdiv (2 ^ (min (n : Int).toNat IntKind.u32.bits)) = ((a >>> UInt32.ofNat n).toNat : Int) := by
  have h1 : min (n : Int).toNat IntKind.u32.bits = n := by show min n 32 = n; omega
  rw [h1, UInt32.toNat_shiftRight, UInt32.toNat_ofNat', Nat.mod_eq_of_lt (show n < 2 ^ 32 by omega), Nat.mod_eq_of_lt hn, Nat.shiftRight_eq_div_pow]
  have : (2 ^ n : Int) = ((2 ^ n : Nat) : Int) := by push_cast; rfl
  rw [this, Int.fdiv_eq_ediv_of_nonneg _ (Int.natCast_nonneg _)]
  exact (Int.natCast_ediv _ _).symm
#print axioms shr32
end Go.Proofs.YteenjgfbbkdlhaaGreatDoor.Sx

namespace Go.Proofs.YteenjgfbbkdlhaaGreatDoor.Sha
def K : List UInt32 := [
    0x428a2f98, 0x71374491, 0xb5c0fbcf, 0xe9b5dba5, 0x3956c25b, 0x59f111f1, 0x923f82a4, 0xab1c5ed5,
    0xd807aa98, 0x12835b01, 0x243185be, 0x550c7dc3, 0x72be5d74, 0x80deb1fe, 0x9bdc06a7, 0xc19bf174,
    0xe49b69c1, 0xefbe4786, 0x0fc19dc6, 0x240ca1cc, 0x2de92c6f, 0x4a7484aa, 0x5cb0a9dc, 0x76f988da,
    0x983e5152, 0xa831c66d, 0xb00327c8, 0xbf597fc7, 0xc6e00bf3, 0xd5a79147, 0x06ca6351, 0x14292967,
    0x27b70a85, 0x2e1b2138, 0x4d2c6dfc, 0x53380d13, 0x650a7354, 0x766a0abb, 0x81c2c92e, 0x92722c85,
    0xa2bfe8a1, 0xa81a664b, 0xc24b8b70, 0xc76c51a3, 0xd192e819, 0xd6990624, 0xf40e3585, 0x106aa070,
    0x19a4c116, 0x1e376c08, 0x2748774c, 0x34b0bcb5, 0x391c0cb3, 0x4ed8aa4a, 0x5b9cca4f, 0x682e6ff3,
    0x748f82ee, 0x78a5636f, 0x84c87814, 0x8cc70208, 0x90befffa, 0xa4506ceb, 0xbef9a3f7, 0xc67178f2]
def rotr (x : UInt32) (n : Nat) : UInt32 := x >>> UInt32.ofNat n ||| x <<< UInt32.ofNat (32 - n)
theorem rotl_eq (x : UInt32) (n : Nat) : x <<< UInt32.ofNat (32 - n) ||| x >>> UInt32.ofNat n = rotr x n := by unfold rotr; exact UInt32.or_comm _ _
def word (a b c d : UInt8) : UInt32 := UInt32.ofNat (a.toNat * 16777216 + b.toNat * 65536 + c.toNat * 256 + d.toNat)
def wordAt (p : List UInt8) (i : Nat) : UInt32 := word (p.getD (4 * i) 0) (p.getD (4 * i + 1) 0) (p.getD (4 * i + 2) 0) (p.getD (4 * i + 3) 0)
def s0 (a : UInt32) : UInt32 := rotr a 7 ^^^ rotr a 18 ^^^ a >>> 3
def s1 (b : UInt32) : UInt32 := rotr b 17 ^^^ rotr b 19 ^^^ b >>> 10
def nxt (w : List UInt32) (i : Nat) : UInt32 := w.getD (i - 16) 0 + s0 (w.getD (i - 15) 0) + w.getD (i - 7) 0 + s1 (w.getD (i - 2) 0)
def sched (p : List UInt8) : Nat → List UInt32
  | 0 => []
  | n + 1 => let w := sched p n; w ++ [if n < 16 then wordAt p n else nxt w n]
theorem sched_len (p : List UInt8) : ∀ n, (sched p n).length = n
  | 0 => rfl
  | n + 1 => by simp [sched, sched_len p n]
def W (p : List UInt8) : List UInt32 := sched p 64
theorem W_len (p : List UInt8) : (W p).length = 64 := sched_len p 64
structure S8 where
  a : UInt32
  b : UInt32
  c : UInt32
  d : UInt32
  e : UInt32
  f : UInt32
  g : UInt32
  h : UInt32
def S8.l (s : S8) : List UInt32 := [s.a, s.b, s.c, s.d, s.e, s.f, s.g, s.h]
def first : S8 := ⟨0x6a09e667, 0xbb67ae85, 0x3c6ef372, 0xa54ff53a, 0x510e527f, 0x9b05688c, 0x1f83d9ab, 0x5be0cd19⟩
def S8.x (s : S8) (k w : UInt32) : UInt32 := s.h + (rotr s.e 6 ^^^ rotr s.e 11 ^^^ rotr s.e 25) + (s.e &&& s.f ^^^ ~~~ s.e &&& s.g) + k + w
def S8.y (s : S8) : UInt32 := rotr s.a 2 ^^^ rotr s.a 13 ^^^ rotr s.a 22
def S8.z (s : S8) : UInt32 := s.a &&& s.b ^^^ s.a &&& s.c ^^^ s.b &&& s.c
def S8.round (s : S8) (k w : UInt32) : S8 := ⟨s.x k w + s.y + s.z, s.a, s.b, s.c, s.d + s.x k w, s.e, s.f, s.g⟩
def rounds (s : S8) (w : List UInt32) : Nat → S8
  | 0 => s
  | n + 1 => (rounds s w n).round (K.getD n 0) (w.getD n 0)
def S8.add (s t : S8) : S8 := ⟨s.a + t.a, s.b + t.b, s.c + t.c, s.d + t.d, s.e + t.e, s.f + t.f, s.g + t.g, s.h + t.h⟩
def step (s : S8) (p : List UInt8) : S8 := s.add (rounds s (W p) 64)
def go : Nat → S8 → List UInt8 → S8
  | 0, s, _ => s
  | n + 1, s, p => go n (step s (p.take 64)) (p.drop 64)
def b4 (x : UInt32) : List UInt8 := [(x >>> 24).toUInt8, (x >>> 16).toUInt8, (x >>> 8).toUInt8, x.toUInt8]
def out (s : S8) : List UInt8 := s.l.flatMap b4
def long (n : Nat) : List UInt8 := [56, 48, 40, 32, 24, 16, 8, 0].map fun k => UInt8.ofNat (n / 2 ^ k)
def zeros (n : Nat) : Nat := (119 - n % 64) % 64
def ends (n : Nat) : List UInt8 := 0x80 :: (List.replicate (zeros n) 0 ++ long (8 * n))
theorem long_len (n : Nat) : (long n).length = 8 := rfl
theorem ends_len (n : Nat) : (ends n).length = 9 + zeros n := by simp [ends, long_len]; omega
theorem pad_mod (p : List UInt8) : (p ++ ends p.length).length % 64 = 0 := by
  rw [List.length_append, ends_len]; unfold zeros; omega
def sum (p : List UInt8) : List UInt8 := let q := p ++ ends p.length; out (go (q.length / 64) first q)
theorem out_len (s : S8) : (out s).length = 32 := rfl
theorem sum_len (p : List UInt8) : (sum p).length = 32 := out_len _
end Go.Proofs.YteenjgfbbkdlhaaGreatDoor.Sha

namespace Go.Proofs.YteenjgfbbkdlhaaGreatDoor.Nam
structure Fm where
  size : Nat
  mask : UInt8
  lead : UInt8
  least : Nat
def fms : List Fm := [⟨1, 0x80, 0, 0⟩, ⟨2, 0xe0, 0xc0, 0x80⟩, ⟨3, 0xf0, 0xe0, 0x800⟩, ⟨4, 0xf8, 0xf0, 0x10000⟩]
def sign (r : Nat) : Bool := decide (r ≤ 1114111) && (decide (r < 55296) || decide (57343 < r))
def tailR : List UInt8 → Nat → Option Nat
  | [], r => some r
  | b :: t, r => if b.toNat / 64 = 2 then tailR t (r * 64 + b.toNat % 64) else none
theorem tailR_none : ∀ {l : List UInt8} {r : Nat}, (∃ b ∈ l, b.toNat / 64 ≠ 2) → tailR l r = none
  | [], _, ⟨_, h, _⟩ => by cases h
  | x :: t, r, ⟨b, hb, hn⟩ => by
    simp only [tailR]
    split
    · rename_i hx
      rcases List.mem_cons.1 hb with rfl | hb
      · exact absurd hx hn
      · exact tailR_none ⟨b, hb, hn⟩
    · rfl
def fits (f : Fm) (s : List UInt8) : Bool := match s with
  | [] => false
  | b :: _ => decide (b &&& f.mask = f.lead) && decide (f.size ≤ s.length)
def tryF (f : Fm) (s : List UInt8) : Option Nat := match s with
  | [] => none
  | b :: t => match tailR (t.take (f.size - 1)) (b &&& ~~~f.mask).toNat with
    | some r => if f.least ≤ r ∧ sign r = true then some r else none
    | none => none
def decL (s : List UInt8) : Option Nat × Nat := match fms.find? fun f => fits f s with
  | some f => match tryF f s with
    | some r => (some r, f.size)
    | none => (none, 1)
  | none => (none, 1)
theorem decL_size {s : List UInt8} (hs : s ≠ []) : 1 ≤ (decL s).2 ∧ (decL s).2 ≤ s.length := by
  have h1 : 0 < s.length := List.length_pos_iff.2 hs
  unfold decL
  split
  · rename_i f hf
    have hff := List.find?_some hf
    have hm := List.mem_of_find?_eq_some hf
    have hsz : 1 ≤ f.size := by
      simp only [fms, List.mem_cons, List.not_mem_nil, or_false] at hm
      rcases hm with rfl | rfl | rfl | rfl <;> decide
    have hle : f.size ≤ s.length := by
      unfold fits at hff
      split at hff
      · cases hff
      · simp only [Bool.and_eq_true, decide_eq_true_eq] at hff
        exact hff.2
    split
    · exact ⟨hsz, hle⟩
    · exact ⟨Nat.le_refl 1, h1⟩
  · exact ⟨Nat.le_refl 1, h1⟩
theorem u8_all {p : UInt8 → Prop} (h : ∀ n : Fin 256, p (UInt8.ofNat n.1)) (b : UInt8) : p b := by
  have := h ⟨b.toNat, b.toNat_lt⟩
  simpa using this
theorem one_form (b : UInt8) : ∀ f ∈ fms, ∀ g ∈ fms, b &&& f.mask = f.lead → b &&& g.mask = g.lead → f.size = g.size := by
  have h : ∀ n : Fin 256, ∀ f ∈ fms, ∀ g ∈ fms, (UInt8.ofNat n.1) &&& f.mask = f.lead → (UInt8.ofNat n.1) &&& g.mask = g.lead → f.size = g.size := by
    have key : ∀ n : Fin 256, (fms.all fun f => fms.all fun g => !decide ((UInt8.ofNat n.1) &&& f.mask = f.lead) || !decide ((UInt8.ofNat n.1) &&& g.mask = g.lead) || decide (f.size = g.size)) = true := by decide +kernel
    intro n f hf g hg h1 h2
    have := List.all_eq_true.1 (List.all_eq_true.1 (key n) f hf) g hg
    simp only [Bool.or_eq_true, Bool.not_eq_true', decide_eq_false_iff_not, decide_eq_true_eq] at this
    rcases this with (q | q) | q
    · exact absurd h1 q
    · exact absurd h2 q
    · exact q
  exact u8_all (p := fun b => ∀ f ∈ fms, ∀ g ∈ fms, b &&& f.mask = f.lead → b &&& g.mask = g.lead → f.size = g.size) h b
theorem size_inj : ∀ f ∈ fms, ∀ g ∈ fms, f.size = g.size → f = g := by
  intro f hf g hg h
  simp only [fms, List.mem_cons, List.not_mem_nil, or_false] at hf hg
  rcases hf with rfl | rfl | rfl | rfl <;> rcases hg with rfl | rfl | rfl | rfl <;> first | rfl | cases h
theorem find_form {b : UInt8} {t : List UInt8} {f : Fm} (hf : f ∈ fms) (hb : b &&& f.mask = f.lead) : fms.find? (fun g => fits g (b :: t)) = if f.size ≤ (b :: t).length then some f else none := by
  cases hq : fms.find? (fun g => fits g (b :: t)) with
  | none =>
    have h := List.find?_eq_none.1 hq f hf
    rw [if_neg]
    intro q
    exact h (by simp only [fits, Bool.and_eq_true, decide_eq_true_eq]; exact ⟨hb, q⟩)
  | some g =>
    have hg := List.mem_of_find?_eq_some hq
    have h1 := List.find?_some hq
    simp only [fits, Bool.and_eq_true, decide_eq_true_eq] at h1
    obtain rfl := size_inj g hg f hf (one_form b g hg f hf h1.1 hb)
    rw [if_pos h1.2]
def runes : List UInt8 → List (Option Nat)
  | [] => []
  | b :: t => (decL (b :: t)).1 :: runes ((b :: t).drop (decL (b :: t)).2)
termination_by s => s.length
decreasing_by
  have := decL_size (s := b :: t) (by simp)
  simp only [List.length_drop, List.length_cons] at this ⊢
  omega
theorem runes_nil : runes [] = [] := by rw [runes]
theorem runes_cons {s : List UInt8} (hs : s ≠ []) : runes s = (decL s).1 :: runes (s.drop (decL s).2) := by
  cases s with
  | nil => exact absurd rfl hs
  | cons b t => rw [runes]
end Go.Proofs.YteenjgfbbkdlhaaGreatDoor.Nam

namespace Go.Proofs.YteenjgfbbkdlhaaGreatDoor.Bx
structure Term where
  kind : Nat
  key : List UInt8
  text : List UInt8
  rounds : Nat
  list : List Nat
  mask : List UInt8
def vint (n : Nat) : List UInt8 := if h : n < 128 then [UInt8.ofNat n] else UInt8.ofNat (n % 128 + 128) :: vint (n / 128)
termination_by n
decreasing_by omega
theorem vint_lt {n : Nat} (h : n < 128) : vint n = [UInt8.ofNat n] := by rw [vint, dif_pos h]
theorem vint_ge {n : Nat} (h : ¬ n < 128) : vint n = UInt8.ofNat (n % 128 + 128) :: vint (n / 128) := by rw [vint, dif_neg h]
theorem u8_inj {a b : Nat} (ha : a < 256) (hb : b < 256) (h : UInt8.ofNat a = UInt8.ofNat b) : a = b := by
  have := congrArg UInt8.toNat h
  simp only [UInt8.toNat_ofNat'] at this
  omega
theorem vint_inj : ∀ (a b : Nat) (x y : List UInt8), vint a ++ x = vint b ++ y → a = b ∧ x = y := by
  intro a
  induction a using Nat.strongRecOn with
  | _ a ih =>
    intro b x y h
    by_cases ha : a < 128
    · by_cases hb : b < 128
      · rw [vint_lt ha, vint_lt hb] at h
        simp only [List.cons_append, List.nil_append, List.cons.injEq] at h
        exact ⟨u8_inj (by omega) (by omega) h.1, h.2⟩
      · rw [vint_lt ha, vint_ge hb] at h
        simp only [List.cons_append, List.nil_append, List.cons.injEq] at h
        have := u8_inj (by omega) (by omega) h.1
        omega
    · by_cases hb : b < 128
      · rw [vint_ge ha, vint_lt hb] at h
        simp only [List.cons_append, List.nil_append, List.cons.injEq] at h
        have := u8_inj (by omega) (by omega) h.1
        omega
      · rw [vint_ge ha, vint_ge hb] at h
        simp only [List.cons_append, List.cons.injEq] at h
        have h1 := u8_inj (by omega) (by omega) h.1
        obtain ⟨h2, h3⟩ := ih (a / 128) (by omega) (b / 128) x y h.2
        exact ⟨by omega, h3⟩
theorem vints_inj : ∀ (l m : List Nat) (x y : List UInt8), l.length = m.length → l.flatMap vint ++ x = m.flatMap vint ++ y → l = m ∧ x = y
  | [], [], x, y, _, h => ⟨rfl, h⟩
  | [], _ :: _, _, _, hl, _ => by cases hl
  | _ :: _, [], _, _, hl, _ => by cases hl
  | a :: l, b :: m, x, y, hl, h => by
    simp only [List.flatMap_cons, List.append_assoc] at h
    obtain ⟨rfl, h2⟩ := vint_inj a b _ _ h
    obtain ⟨rfl, h3⟩ := vints_inj l m x y (by simpa using hl) h2
    exact ⟨rfl, h3⟩
def print (t : Term) : List UInt8 := [t.kind, t.rounds, t.key.length, t.text.length, t.list.length].flatMap vint ++ t.list.flatMap vint ++ (t.key ++ t.text ++ t.mask)
theorem print_inj {s t : Term} (h : print s = print t) : s = t := by
  obtain ⟨k, a, b, r, l, m⟩ := s
  obtain ⟨k', a', b', r', l', m'⟩ := t
  simp only [print, List.append_assoc] at h
  obtain ⟨h1, h2⟩ := vints_inj [k, r, a.length, b.length, l.length] [k', r', a'.length, b'.length, l'.length] _ _ rfl h
  simp only [List.cons.injEq, and_true] at h1
  obtain ⟨rfl, rfl, h3, h4, h5⟩ := h1
  obtain ⟨rfl, h6⟩ := vints_inj l l' _ _ h5 h2
  obtain ⟨rfl, h7⟩ := List.append_inj h6 h3
  obtain ⟨rfl, rfl⟩ := List.append_inj h7 h4
  rfl
def front : List UInt8 := [0xf1, 84, 82, 77] ++ List.replicate 24 0
theorem front_len : front.length = 28 := rfl
def be4 (n : Nat) : List UInt8 := [UInt8.ofNat (n / 16777216), UInt8.ofNat (n / 65536), UInt8.ofNat (n / 256), UInt8.ofNat n]
def handle (n : Nat) : List UInt8 := front ++ be4 n
theorem handle_len (n : Nat) : (handle n).length = 32 := rfl
def num : List UInt8 → Nat := List.foldl (fun n b => n * 256 + b.toNat) 0
def looks (p : List UInt8) : Option Nat := if p.length = 32 ∧ p.take 28 = front then some (num (p.drop 28)) else none
theorem num_be4 {n : Nat} (h : n < 4294967296) : num (be4 n) = n := by
  simp only [num, be4, List.foldl, UInt8.toNat_ofNat']
  omega
open Classical in
noncomputable def place (t : Term) : List Term → Option Nat
  | [] => none
  | x :: r => if x = t then some 0 else (place t r).map (· + 1)
theorem place_some {t : Term} : ∀ {L : List Term} {i : Nat}, place t L = some i → L[i]? = some t
  | x :: r, i, h => by
    simp only [place] at h
    split at h
    · rename_i q; obtain rfl := Option.some.inj h; simp [q]
    · obtain ⟨j, hj, rfl⟩ := Option.map_eq_some_iff.1 h
      simpa using place_some hj
theorem place_none {t : Term} : ∀ {L : List Term}, place t L = none → t ∉ L
  | [], _ => List.not_mem_nil
  | x :: r, h => by
    simp only [place] at h
    split at h
    · cases h
    · rename_i q
      have h' : place t r = none := by simpa using h
      intro hm
      rcases List.mem_cons.1 hm with rfl | hm
      · exact q rfl
      · exact place_none h' hm
structure Box where
  sym : Bool
  full : Bool
  L : List Term
def noughts : List UInt8 := List.replicate 32 0
open Classical in
noncomputable def Box.tag (b : Box) (t : Term) : List UInt8 × Box := match place t b.L with
  | some i => (handle (i + 1), b)
  | none => if 4096 ≤ b.L.length then (noughts, { b with full := true }) else (handle (b.L.length + 1), { b with L := b.L ++ [t] })
def xorB (a b : List UInt8) : List UInt8 := List.zipWith (· ^^^ ·) a b
def Box.opens (b : Box) (tag : List UInt8) : Option (List Nat × List UInt8) :=
  if tag.length = 32 then
    if b.sym = true ∧ tag.take 28 = front then
      if num (tag.drop 28) < 1 ∨ b.L.length < num (tag.drop 28) then none
      else match b.L[num (tag.drop 28) - 1]? with
        | some t => if t.kind = 4 then some (t.list, t.mask) else some ([num (tag.drop 28)], noughts)
        | none => none
    else some ([], tag)
  else none
theorem opens_raw {b : Box} {tag : List UInt8} (h : tag.length = 32) (hn : ¬ (b.sym = true ∧ tag.take 28 = front)) : b.opens tag = some ([], tag) := by unfold Box.opens; rw [if_pos h, if_neg hn]
theorem opens_in {b : Box} {tag : List UInt8} {n : Nat} {t : Term} (h : tag.length = 32) (hs : b.sym = true) (hf : tag.take 28 = front) (hn : num (tag.drop 28) = n) (ho : ¬ (n < 1 ∨ b.L.length < n)) (ht : b.L[n - 1]? = some t) :
    b.opens tag = if t.kind = 4 then some (t.list, t.mask) else some ([n], noughts) := by
  subst hn; unfold Box.opens; rw [if_pos h, if_pos ⟨hs, hf⟩, if_neg ho, ht]
end Go.Proofs.YteenjgfbbkdlhaaGreatDoor.Bx

namespace Go.Proofs.YteenjgfbbkdlhaaGreatDoor.Sx
open Go
attribute [local irreducible] Calls
theorem mark_c (w : World) : Con Tryz.prog n_box_mark #[] w [] fun v Fs => ∃ b, v = .slice (some ⟨b, 0, none⟩) 28 28 ∧ Fs = [browF ty_uint8 (some ⟨b, 0, none⟩) Bx.front 28] := by
  have g := good_box_mark w (Un [])
  refine con_of_sx (cx := cx_box_mark w (Un [])) g b_box_mark rfl rfl (β := Va.z) [] 0 [] [] rfl rfl (Sat.start rfl) ?_
  refine ⟨28, 28, rfl, rfl, Nat.le_refl _, by decide, by decide, ?_⟩
  intro b
  intro b2
  refine ⟨_, _, .c (.v (.int .i64 4)), fun β w' ty hs => hs.copyRow g 1 rfl (row_rd (hs.get 0 rfl)) (bytes_one [241, 84, 82, 77]) ty _ rfl, trivial, ?_⟩
  intro β w' hs
  exact hs.fin [1] ⟨b, rfl, rfl⟩
theorem wrap_u8b (x : Nat) : IntKind.u8.wrap (x : Int) = ((UInt8.ofNat x).toNat : Int) := by
  rw [wrap_u8, UInt8.toNat_ofNat']
  omega
theorem shr_nat (n k : Nat) : (n : Int).fdiv (2 ^ k) = ((n / 2 ^ k : Nat) : Int) := by
  have : (2 ^ k : Int) = ((2 ^ k : Nat) : Int) := by push_cast; rfl
  rw [this, Int.fdiv_eq_ediv_of_nonneg _ (Int.natCast_nonneg _)]
  exact (Int.natCast_ediv _ _).symm
theorem handle_c (w : World) (n : Nat) : Con Tryz.prog n_box_Handle #[.int .i64 n] w [] fun v Fs => ∃ A c, v = .slice A 32 c ∧ 32 ≤ c ∧ c ≤ maxLen ∧ Fs = [browF ty_uint8 A (Bx.handle n) c] := by
  have g := good_box_Handle w (Un [])
  refine con_of_sx (cx := cx_box_Handle w (Un [])) g b_box_Handle rfl rfl (β := Va.z) [.c (.v (.int .i64 n))] 0 [] [] rfl rfl (Sat.start rfl) ?_
  refine call_con [] (fun β w' hs => mark_c w') ?_
  rintro v Fs ⟨b, rfl, rfl⟩
  refine ⟨by decide, _, shr_nat n 24, _, wrap_u8b _, by decide, _, shr_nat n 16, _, wrap_u8b _, by decide, _, shr_nat n 8, _, wrap_u8b _, _, wrap_u8b _, ?_⟩
  intro b2
  refine ⟨1, 28, 32, _, (Bx.be4 n).map byte, (Bx.handle n).map byte, rfl, fun β w' hs => row_rd (hs.get 0 rfl), bytes_one (Bx.be4 n), rfl, by rw [Bx.handle, List.map_append], by decide, by decide, ?_⟩
  intro A c h1 h2 h3
  intro β w' hs
  exact hs.fin [1] ⟨A, c, rfl, h1, h2, rfl⟩
end Go.Proofs.YteenjgfbbkdlhaaGreatDoor.Sx

namespace Go.Proofs.YteenjgfbbkdlhaaGreatDoor.Sx
open Go Sha
attribute [local irreducible] Calls
theorem rotl_c (w : World) (x : UInt32) (n : Nat) (h1 : 1 ≤ n) (h2 : n < 32) : Pu Tryz.prog n_math_bits_RotateLeft32 #[u32 x, .int .i64 (-(n : Int))] w (u32 (rotr x n)) := by
  refine pu_of (calls_of_sx (cx := cx_math_bits_RotateLeft32 w None_) (good_math_bits_RotateLeft32 w None_) b_math_bits_RotateLeft32 rfl rfl (β := Va.z) [.c (.v (u32 x)), .c (.v (.int .i64 (-(n : Int))))] 0 [] [] rfl rfl (Sat.start rfl) ?_)
  refine ⟨_, rfl, ?_⟩
  refine ⟨((32 - n : Nat) : Int), ?_, ?_⟩
  · have : ∀ n : _root_.Fin 32, 1 ≤ n.val → bits .and .u64 (IntKind.u64.wrap (-(n.val : Int))) 31 = ((32 - n.val : Nat) : Int) := by decide
    exact this ⟨n, h2⟩ h1
  refine ⟨by omega, _, shl32 x (32 - n) (by omega), ?_⟩
  refine ⟨(n : Int), by show IntKind.u64.wrap _ = _; simp only [IntKind.wrap, IntKind.bits, IntKind.signed]; simp; omega, ?_⟩
  refine ⟨by omega, _, shr32 x n h2, ?_⟩
  refine ⟨_, or32 _ _, ?_⟩
  intro β w' hs
  refine ⟨?_, hs.chg⟩
  rw [← rotl_eq]
  rfl
theorem or_add {x y k : Nat} (h : y < 2 ^ k) : 2 ^ k * x ||| y = 2 ^ k * x + y := (Nat.two_pow_add_eq_or_of_lt h x).symm
theorem word_or (a b c d : UInt8) : ((UInt32.ofNat a.toNat <<< UInt32.ofNat 24 ||| UInt32.ofNat b.toNat <<< UInt32.ofNat 16) ||| UInt32.ofNat c.toNat <<< UInt32.ofNat 8) ||| UInt32.ofNat d.toNat = word a b c d := by
  apply UInt32.toNat_inj.1
  have h1 := a.toNat_lt
  have h2 := b.toNat_lt
  have h3 := c.toNat_lt
  have h4 := d.toNat_lt
  have sh : ∀ (x : UInt8) (n : Nat), n ≤ 24 → (UInt32.ofNat x.toNat <<< UInt32.ofNat n).toNat = 2 ^ n * x.toNat := by
    intro x n hn
    have hx := x.toNat_lt
    rw [UInt32.toNat_shiftLeft, UInt32.toNat_ofNat', UInt32.toNat_ofNat', Nat.mod_eq_of_lt (show n < 2 ^ 32 by omega), Nat.mod_eq_of_lt (show n < 32 by omega), Nat.shiftLeft_eq, Nat.mod_eq_of_lt (show x.toNat < 2 ^ 32 by omega), Nat.mul_comm]
    refine Nat.mod_eq_of_lt ?_
    have : 2 ^ n ≤ 2 ^ 24 := Nat.pow_le_pow_right (by omega) hn
    calc 2 ^ n * x.toNat ≤ 2 ^ 24 * x.toNat := Nat.mul_le_mul_right _ this
      _ < 2 ^ 32 := by omega
  unfold word
  simp only [UInt32.toNat_or, sh a 24 (by omega), sh b 16 (by omega), sh c 8 (by omega), UInt32.toNat_ofNat']
  rw [Nat.mod_eq_of_lt (show d.toNat < 2 ^ 32 by omega)]
  rw [or_add (show 2 ^ 16 * b.toNat < 2 ^ 24 by omega)]
  rw [show 2 ^ 24 * a.toNat + 2 ^ 16 * b.toNat = 2 ^ 16 * (256 * a.toNat + b.toNat) by omega, or_add (show 2 ^ 8 * c.toNat < 2 ^ 16 by omega)]
  rw [show 2 ^ 16 * (256 * a.toNat + b.toNat) + 2 ^ 8 * c.toNat = 2 ^ 8 * (256 * (256 * a.toNat + b.toNat) + c.toNat) by omega, or_add (show d.toNat < 2 ^ 8 by omega)]
  omega
theorem word_c (w : World) (A : Option Addr) (l : List UInt8) (c : Nat) (hr : Bs w A l) (x y z u : UInt8) (h0 : l[0]? = some x) (h1 : l[1]? = some y) (h2 : l[2]? = some z) (h3 : l[3]? = some u) :
    Pu Tryz.prog n_sha_word #[.slice A l.length c] w (u32 (word x y z u)) := by
  obtain ⟨k0, e0⟩ := List.getElem?_eq_some_iff.1 h0
  obtain ⟨k1, e1⟩ := List.getElem?_eq_some_iff.1 h1
  obtain ⟨k2, e2⟩ := List.getElem?_eq_some_iff.1 h2
  obtain ⟨k3, e3⟩ := List.getElem?_eq_some_iff.1 h3
  have g := good_sha_word w None_
  obtain ⟨ad, hA⟩ := Bs.addr hr (by omega)
  have cv : ∀ b : UInt8, IntKind.u32.wrap (b.toNat : Int) = ((UInt32.ofNat b.toNat).toNat : Int) := fun b => wrap32_nat _
  refine pu_of (calls_of_sx (cx := cx_sha_word w None_) g b_sha_word rfl rfl (β := Va.z) [.c (.v (.slice A l.length c))] 0 [] [bsF A l] rfl rfl ((Sat.start rfl).rd (fun _ h => by cases h) hr) ?_)
  refine draw_rule g p_sha_word_1 (by kernel_rfl) _ _ Sub.refl ?_
  refine ⟨ad, 0, hA, rfl, k0, byte x, fun β w hs => by rw [← e0]; exact Bs.cell (hs.get 0 rfl : Bs w A _) hA (j := 0) k0, ?_⟩
  refine ⟨_, cv x, by omega, _, shl32 (UInt32.ofNat x.toNat) 24 (by omega), ?_⟩
  refine ⟨ad, 1, hA, rfl, k1, byte y, fun β w hs => by rw [← e1]; exact Bs.cell (hs.get 0 rfl : Bs w A _) hA (j := 1) k1, ?_⟩
  refine ⟨_, cv y, by omega, _, shl32 (UInt32.ofNat y.toNat) 16 (by omega), ?_⟩
  refine ⟨_, or32 _ _, ?_⟩
  refine ⟨ad, 2, hA, rfl, k2, byte z, fun β w hs => by rw [← e2]; exact Bs.cell (hs.get 0 rfl : Bs w A _) hA (j := 2) k2, ?_⟩
  refine ⟨_, cv z, by omega, _, shl32 (UInt32.ofNat z.toNat) 8 (by omega), ?_⟩
  refine ⟨_, or32 _ _, ?_⟩
  refine ⟨ad, 3, hA, rfl, k3, byte u, fun β w hs => by rw [← e3]; exact Bs.cell (hs.get 0 rfl : Bs w A _) hA (j := 3) k3, ?_⟩
  refine ⟨_, cv u, _, or32 _ _, ?_⟩
  intro β w' hs
  refine ⟨?_, hs.chg⟩
  rw [← word_or]
  rfl
def sl32 (x : UInt32) : SL := .v (u32 x)
def arr (n : Nat) (ws : List UInt32) : List SL := (ws ++ List.replicate (n - ws.length) 0).map sl32
theorem arr_len {n : Nat} {ws : List UInt32} (h : ws.length ≤ n) : (arr n ws).length = n := by simp [arr]; omega
theorem arr_get {n : Nat} {ws : List UInt32} {i : Nat} (h : i < ws.length) : (arr n ws)[i]? = some (sl32 (ws.getD i 0)) := by
  simp only [arr, List.getElem?_map]
  rw [List.getElem?_append_left h, List.getElem?_eq_getElem h]
  simp [List.getD, List.getElem?_eq_getElem h]
theorem arr_set {n : Nat} {ws : List UInt32} (h : ws.length < n) (x : UInt32) : (arr n ws).set ws.length (sl32 x) = arr n (ws ++ [x]) := by
  obtain ⟨k, rfl⟩ : ∃ k, n = ws.length + (k + 1) := ⟨n - ws.length - 1, by omega⟩
  simp only [arr, List.length_append, List.length_cons, List.length_nil]
  rw [show ws.length + (k + 1) - ws.length = k + 1 by omega, show ws.length + (k + 1) - (ws.length + (0 + 1)) = k by omega, List.replicate_succ]
  simp
theorem arr_full {n : Nat} {ws : List UInt32} (h : ws.length = n) : arr n ws = ws.map sl32 := by simp [arr, h]
theorem arr_one (ws : List UInt32) : allOne (ws.map sl32) = true := allOne_of fun x hx => by obtain ⟨y, _, rfl⟩ := List.mem_map.1 hx; rfl
theorem arr_val (β : Va) (ws : List UInt32) : (ws.map sl32).map (SL.val β) = ws.map u32 := by rw [List.map_map]; rfl
theorem getD_drop (l : List UInt8) (i j : Nat) (h : i + j < l.length) : (l.drop i)[j]? = some (l.getD (i + j) 0) := by
  rw [List.getElem?_drop, List.getElem?_eq_getElem h]
  simp [List.getD, List.getElem?_eq_getElem h]
theorem spread_c (w : World) (A : Option Addr) (l : List UInt8) (c : Nat) (hr : Bs w A l) (hc : l.length ≤ c) (hl : 64 ≤ l.length) (hm : c ≤ maxLen) :
    Pu Tryz.prog n_sha_spread #[.slice A l.length c] w (.agg ((W l).map u32).toArray) := by
  obtain ⟨ws, hws⟩ : ∃ ws, W l = ws := ⟨_, rfl⟩
  have hwl : ws.length = 64 := by rw [← hws]; exact W_len l
  rw [hws]
  have g := good_sha_spread w None_
  refine pu_of (calls_of_sx (cx := cx_sha_spread w None_) g b_sha_spread rfl rfl (β := Va.z) [.c (.v (.slice A l.length c))] 0 [] [bsF A l] rfl rfl ((Sat.start rfl).rd (fun _ h => by cases h) hr) ?_)
  have e0 : arr 64 [] = ti332.zero.map SL.v := by simp only [arr, List.nil_append, List.length_nil, List.map_replicate]; rfl
  refine loop_rule (ι := Nat) 2 (fun i => [(0, .c (.v (.slice A l.length c))), (2, .c (.p 0 0)), (3, .c (.p 1 0)), (10, .c (.v (.int .i64 i)))]) (fun i => [⟨1, 332, arr 64 (sched l i)⟩, ⟨0, 332, arr 64 []⟩]) (fun _ => [bsF A l])
    (fun i => i ≤ 16) (fun i => 16 - i) 0 (Nat.zero_le _) (Ent.mk' ⟨rfl, rfl, rfl, rfl, trivial⟩ rfl (fun β w' hs => by rw [show sched l 0 = [] from rfl, e0]; exact hs)) g ?_
  intro i hi
  refine BIf.dec (fun hlt => ?_) (fun hge => ?_)
  · have hlt : i < 16 := by omega
    rw [maxLen_eq] at hm
    refine ⟨((4 * i : Nat) : Int), by rw [wrap_i64 (by omega) (by omega)]; omega, ?_⟩
    refine ⟨c, l.length, 4 * i, (l.drop (4 * i)).length, c - 4 * i, _, rfl, rfl, rfl, Nat.le_refl _, hc, by omega, by rw [List.length_drop], rfl, rfl, ?_⟩
    refine call_pu (fun β w' hs => word_c w' _ (l.drop (4 * i)) _ (Bs.cutB (hs.get 0 rfl : Bs w' A l) (j := l.length) hc (by omega) (Nat.le_refl _) (by rw [List.take_of_length_le (by simp)])) _ _ _ _
      (getD_drop l (4 * i) 0 (by omega)) (getD_drop l (4 * i) 1 (by omega)) (getD_drop l (4 * i) 2 (by omega)) (getD_drop l (4 * i) 3 (by omega))) ?_
    refine ⟨i, rfl, by omega, ?_⟩
    have hsl : (sched l i).length = i := sched_len l i
    refine m_true (b := Nat.ble (0 + i * 1 + 1) (arr 64 (sched l i)).length) (by rw [arr_len (by omega), Nat.ble_eq]; omega) ?_
    refine ⟨((i + 1 : Nat) : Int), by rw [wrap_i64 (by omega) (by omega)]; rfl, ?_⟩
    refine ⟨i + 1, by omega, by omega, Ent.mk' ⟨rfl, rfl, rfl, rfl, trivial⟩ rfl (fun β w' hs => ?_)⟩
    have e1 : putAll (arr 64 (sched l i)) (0 + i * 1) [sl32 (wordAt l i)] = arr 64 (sched l (i + 1)) := by
      rw [putAll, putAll, putAt_eq, Nat.zero_add, Nat.mul_one]
      have := arr_set (n := 64) (ws := sched l i) (by omega) (wordAt l i)
      rw [hsl] at this
      rw [this, sched, if_pos hlt]
    rw [← e1]
    exact hs
  · obtain rfl : i = 16 := by omega
    rw [maxLen_eq] at hm
    refine loop_rule (ι := Nat) 2 (fun i => [(0, .c (.v (.slice A l.length c))), (2, .c (.p 0 0)), (3, .c (.p 1 0)), (5, .c (.v (.int .i64 i)))]) (fun i => [⟨1, 332, arr 64 (sched l i)⟩, ⟨0, 332, arr 64 []⟩]) (fun _ => [bsF A l])
      (fun i => 16 ≤ i ∧ i ≤ 64) (fun i => 64 - i) 16 ⟨by omega, by omega⟩ (Ent.same ⟨rfl, rfl, rfl, rfl, trivial⟩ rfl) g ?_
    rintro i ⟨hi1, hi2⟩
    refine BIf.dec (fun hlt => ?_) (fun hge => ?_)
    · have hlt : i < 64 := by omega
      have hsl : (sched l i).length = i := sched_len l i
      have ld : ∀ {k : Nat}, k < i → nth (arr 64 (sched l i)) (0 + k * 1) = some (sl32 ((sched l i).getD k 0)) := fun {k} hk => by
        rw [nth_eq, Nat.zero_add, Nat.mul_one]; exact arr_get (by omega)
      refine draw_rule g p_sha_spread_10 (by kernel_rfl) _ _ Sub.refl ?_
      refine ⟨((i - 15 : Nat) : Int), by rw [wrap_i64 (by omega) (by omega)]; omega, i - 15, rfl, by omega, ?_⟩
      conv => whnf
      generalize hn : nth _ _ = o
      obtain rfl : o = some (sl32 ((sched l i).getD (i - 15) 0)) := hn.symm.trans (ld (by omega))
      clear hn
      refine ⟨((i - 2 : Nat) : Int), by rw [wrap_i64 (by omega) (by omega)]; omega, i - 2, rfl, by omega, ?_⟩
      conv => whnf
      generalize hn : nth _ _ = o
      obtain rfl : o = some (sl32 ((sched l i).getD (i - 2) 0)) := hn.symm.trans (ld (by omega))
      clear hn
      obtain ⟨xa, hxa⟩ : ∃ xa, (sched l i).getD (i - 15) 0 = xa := ⟨_, rfl⟩
      obtain ⟨xb, hxb⟩ : ∃ xb, (sched l i).getD (i - 2) 0 = xb := ⟨_, rfl⟩
      rw [hxa, hxb]
      refine call_pu (fun β w' hs => rotl_c w' xa 7 (by omega) (by omega)) ?_
      refine call_pu (fun β w' hs => rotl_c w' xa 18 (by omega) (by omega)) ?_
      refine ⟨_, xor32 _ _, by omega, _, shr32 xa 3 (by omega), _, xor32 _ _, ?_⟩
      refine call_pu (fun β w' hs => rotl_c w' xb 17 (by omega) (by omega)) ?_
      refine call_pu (fun β w' hs => rotl_c w' xb 19 (by omega) (by omega)) ?_
      refine ⟨_, xor32 _ _, by omega, _, shr32 xb 10 (by omega), _, xor32 _ _, ?_⟩
      refine draw_rule g p_sha_spread_13 (by kernel_rfl) _ _ Sub.refl ?_
      refine ⟨((i - 16 : Nat) : Int), by rw [wrap_i64 (by omega) (by omega)]; omega, i - 16, rfl, by omega, ?_⟩
      conv => whnf
      generalize hn : nth _ _ = o
      obtain rfl : o = some (sl32 ((sched l i).getD (i - 16) 0)) := hn.symm.trans (ld (by omega))
      clear hn
      refine ⟨_, add32 _ _, ?_⟩
      refine ⟨((i - 7 : Nat) : Int), by rw [wrap_i64 (by omega) (by omega)]; omega, i - 7, rfl, by omega, ?_⟩
      conv => whnf
      generalize hn : nth _ _ = o
      obtain rfl : o = some (sl32 ((sched l i).getD (i - 7) 0)) := hn.symm.trans (ld (by omega))
      clear hn
      refine ⟨_, add32 _ _, _, add32 _ _, i, rfl, by omega, ?_⟩
      refine m_true (b := Nat.ble (0 + i * 1 + 1) (arr 64 (sched l i)).length) (by rw [arr_len (by omega), Nat.ble_eq]; omega) ?_
      refine ⟨((i + 1 : Nat) : Int), by rw [wrap_i64 (by omega) (by omega)]; rfl, ?_⟩
      refine ⟨i + 1, ⟨by omega, by omega⟩, by omega, Ent.mk' ⟨rfl, rfl, rfl, rfl, trivial⟩ rfl (fun β w' hs => ?_)⟩
      have e1 : putAll (arr 64 (sched l i)) (0 + i * 1) [sl32 ((sched l i).getD (i - 16) 0 + s0 xa + (sched l i).getD (i - 7) 0 + s1 xb)] = arr 64 (sched l (i + 1)) := by
        rw [putAll, putAll, putAt_eq, Nat.zero_add, Nat.mul_one]
        have := arr_set (n := 64) (ws := sched l i) (by omega) ((sched l i).getD (i - 16) 0 + s0 xa + (sched l i).getD (i - 7) 0 + s1 xb)
        rw [hsl] at this
        rw [this, sched, if_neg (by omega), nxt, hxa, hxb]
      rw [← e1]
      exact hs
    · have hi64 : i = 64 := by omega
      have e2 : arr 64 (sched l i) = ws.map sl32 := by
        rw [← hws, hi64]
        exact arr_full (sched_len l 64)
      clear hi64 hi1 hi2 hge
      rw [e2]
      conv => whnf
      generalize hn : takeAt _ _ _ = o
      obtain rfl : o = some (ws.map sl32) := hn.symm.trans (takeAt_all (by rw [List.length_map, hwl]; rfl))
      clear hn
      conv => whnf
      generalize h1 : Nat.beq _ _ = b1
      generalize h2 : allOne _ = b2
      obtain rfl : b1 = true := h1.symm.trans (by rw [List.length_map, hwl]; rfl)
      obtain rfl : b2 = true := h2.symm.trans (arr_one ws)
      clear h1 h2
      conv => whnf
      generalize h1 : Nat.ble _ _ = b1
      obtain rfl : b1 = true := h1.symm.trans (by rw [List.length_map, hwl]; rfl)
      clear h1
      conv => whnf
      generalize hn : resOf _ _ _ _ = o
      obtain rfl : o = some [.agg (ws.map sl32)] := hn.symm.trans (by
        have hp : putAll (arr 64 []) 0 (ws.map sl32) = ws.map sl32 := putAll_full (by rw [List.length_map, hwl]; rfl)
        show (match takeAt (putAll (arr 64 []) 0 (ws.map sl32)) 0 64 with | some xs => some [SV.agg xs] | none => none) = _
        rw [hp, takeAt_all (by rw [List.length_map, hwl])])
      clear hn
      intro β w' hs
      refine ⟨?_, hs.chg⟩
      show Value.agg ((ws.map sl32).map (SL.val β)).toArray = _
      rw [arr_val]
def oddF (g : Nat) : Fact := rdF 1 (some ⟨g, 0, none⟩) 64 (K.map u32)
def stF (b ty : Nat) (s : S8) : Fact := bkF b ty (s.l.map u32)
theorem rounds_succ (s : S8) (w : List UInt32) (n : Nat) : rounds s w (n + 1) = (rounds s w n).round (K.getD n 0) (w.getD n 0) := rfl
theorem K_len : K.length = 64 := rfl
theorem odd_cell {g : Nat} {w : World} (h : (oddF g).p w) {i : Nat} (hi : i < 64) : w.cell? ((⟨g, 0, none⟩ : Addr).add (i * 1)) = some (u32 (K.getD i 0)) := by
  obtain ⟨_, h2⟩ := h
  obtain ⟨ad, q, hc⟩ := h2 (by omega)
  obtain rfl := Option.some.inj q
  rw [Nat.mul_one]
  refine hc i _ ?_
  rw [List.getElem?_map, List.getElem?_eq_getElem (by rw [K_len]; exact hi)]
  simp [List.getD, List.getElem?_eq_getElem (show i < K.length by rw [K_len]; exact hi)]
def mix (s t : S8) (i : Nat) : List SL := ((s.add t).l.take i ++ s.l.drop i).map sl32
theorem mix_len (s t : S8) : ∀ i, i < 9 → (mix s t i).length = 8
  | 0, _ => rfl | 1, _ => rfl | 2, _ => rfl | 3, _ => rfl | 4, _ => rfl | 5, _ => rfl | 6, _ => rfl | 7, _ => rfl | 8, _ => rfl
  | n + 9, h => by omega
theorem mix_get (s t : S8) : ∀ i, i < 8 → nth (mix s t i) i = some (sl32 (s.l.getD i 0))
  | 0, _ => rfl | 1, _ => rfl | 2, _ => rfl | 3, _ => rfl | 4, _ => rfl | 5, _ => rfl | 6, _ => rfl | 7, _ => rfl
  | n + 8, h => by omega
theorem mix_set (s t : S8) : ∀ i, i < 8 → putAll (mix s t i) i [sl32 (s.l.getD i 0 + t.l.getD i 0)] = mix s t (i + 1)
  | 0, _ => rfl | 1, _ => rfl | 2, _ => rfl | 3, _ => rfl | 4, _ => rfl | 5, _ => rfl | 6, _ => rfl | 7, _ => rfl
  | n + 8, h => by omega
theorem l_get (t : S8) : ∀ i, i < 8 → (t.l.map sl32)[i]? = some (sl32 (t.l.getD i 0))
  | 0, _ => rfl | 1, _ => rfl | 2, _ => rfl | 3, _ => rfl | 4, _ => rfl | 5, _ => rfl | 6, _ => rfl | 7, _ => rfl
  | n + 8, h => by omega
theorem step_c (w : World) (b ty : Nat) (s : S8) (A : Option Addr) (l : List UInt8) (c : Nat) (hm : Mem w [stF b ty s, bsF A l, oddF 5]) (hc : l.length ≤ c) (hl : 64 ≤ l.length) (hcm : c ≤ maxLen) :
    Con Tryz.prog n_sha_state_step #[.pointer (some ⟨b, 0, none⟩), .slice A l.length c] w [stF b ty s] fun v Fs => v = .tuple #[] ∧ Fs = [stF b ty (Sha.step s l)] := by
  obtain ⟨ws, hws⟩ : ∃ ws, W l = ws := ⟨_, rfl⟩
  have hwl : ws.length = 64 := by rw [← hws]; exact W_len l
  have g := good_sha_state_step w (Un [stF b ty s]) (bs := [b])
  have hs0 : Sat (cx_sha_state_step w (Un [stF b ty s]) [b]) (Va.of fun _ => b) 1 [] [stF b ty s, bsF A l, oddF 5] w :=
    hm.sat rfl (ownIn (Gs := [stF b ty s]) (Rs := [bsF A l, oddF 5]) (fun g hg => by
      rcases List.mem_cons.1 hg with rfl | hg
      · rfl
      · obtain rfl := List.mem_singleton.1 hg; rfl)) ⟨Nat.le_refl _, fun i hi => by
        have hi1 : i < 1 := hi
        have hi0 : i = 0 := by omega
        rw [hi0]; rfl⟩
  have hs1 := hs0.toBk 0 rfl 0 Nat.zero_lt_one rfl
  refine con_of_sx (cx := cx_sha_state_step w (Un [stF b ty s]) [b]) g b_sha_state_step rfl rfl (β := Va.of fun _ => b) [.c (.p 0 0), .c (.v (.slice A l.length c))] 1 [⟨0, ty, s.l.map sl32⟩] [bsF A l, oddF 5] rfl rfl (by rw [List.map_map] at hs1; exact hs1) ?_
  refine call_pu (fun β w' hs => spread_c w' A l c (hs.get 0 rfl) hc hl hcm) ?_
  rw [hws]
  have ea : ofValue (.agg (ws.map u32).toArray) = .agg (ws.map sl32) := by simp only [ofValue, List.map_map]; rfl
  rw [ea]
  conv => whnf
  generalize h1 : Nat.beq _ _ = b1
  generalize h2 : allOne _ = b2
  obtain rfl : b1 = true := h1.symm.trans (by rw [List.length_map, hwl]; rfl)
  obtain rfl : b2 = true := h2.symm.trans (arr_one ws)
  clear h1 h2
  conv => whnf
  generalize h1 : Nat.ble _ _ = b1
  obtain rfl : b1 = true := h1.symm.trans (by rw [List.length_map, hwl]; rfl)
  clear h1
  refine draw_rule g p_sha_state_step_1 (by kernel_rfl) _ _ Sub.refl ?_
  refine ⟨0, rfl, by decide, ?_⟩
  refine ⟨1, rfl, by decide, ?_⟩
  refine ⟨2, rfl, by decide, ?_⟩
  refine ⟨3, rfl, by decide, ?_⟩
  refine ⟨4, rfl, by decide, ?_⟩
  refine ⟨5, rfl, by decide, ?_⟩
  refine ⟨6, rfl, by decide, ?_⟩
  refine ⟨7, rfl, by decide, ?_⟩
  have hp : putAll (ti332.zero.map SL.v) 0 (ws.map sl32) = ws.map sl32 := putAll_full (by rw [List.length_map, hwl]; rfl)
  refine loop_rule (ι := Nat) 2 (fun i => [(0, .c (.p 0 0)), (4, .c (.p 1 0)), (5, .c (sl32 (rounds s ws i).a)), (6, .c (sl32 (rounds s ws i).b)), (7, .c (sl32 (rounds s ws i).c)), (8, .c (sl32 (rounds s ws i).d)), (9, .c (sl32 (rounds s ws i).e)), (10, .c (sl32 (rounds s ws i).f)), (11, .c (sl32 (rounds s ws i).g)), (12, .c (sl32 (rounds s ws i).h)), (55, .c (.v (.int .i64 i)))])
    (fun _ => [⟨1, 332, ws.map sl32⟩, ⟨0, ty, s.l.map sl32⟩]) (fun _ => [bsF A l, oddF 5])
    (fun i => i ≤ 64) (fun i => 64 - i) 0 (Nat.zero_le _) (Ent.mk' ⟨rfl, rfl, rfl, rfl, rfl, rfl, rfl, rfl, rfl, rfl, rfl, trivial⟩ rfl (fun β w' hs => by rw [← hp]; exact hs)) g ?_
  intro i hi
  obtain ⟨r, hr⟩ : ∃ r, rounds s ws i = r := ⟨_, rfl⟩
  rw [hr]
  obtain ⟨xa, xb, xc, xd, xe, xf, xg, xh⟩ := r
  refine BIf.dec (fun hlt => ?_) (fun hge => ?_)
  · have hlt : i < 64 := by omega
    refine call_pu (fun β w' hs => rotl_c w' xe 6 (by omega) (by omega)) ?_
    refine call_pu (fun β w' hs => rotl_c w' xe 11 (by omega) (by omega)) ?_
    refine ⟨_, xor32 _ _, ?_⟩
    refine call_pu (fun β w' hs => rotl_c w' xe 25 (by omega) (by omega)) ?_
    refine ⟨_, xor32 _ _, ?_⟩
    refine ⟨_, and32 _ _, _, not32 _, _, and32 _ _, _, xor32 _ _, ?_⟩
    refine draw_rule g p_sha_state_step_7 (by kernel_rfl) _ _ Sub.refl ?_
    refine ⟨_, add32 _ _, _, add32 _ _, i, rfl, hlt, u32 (K.getD i 0), fun β w' hs => odd_cell (hs.get 1 rfl) hlt, _, add32 _ _, i, rfl, hlt, ?_⟩
    conv => whnf
    generalize hn : nth _ _ = o
    obtain rfl : o = some (sl32 (ws.getD i 0)) := hn.symm.trans (by
      show nth (ws.map sl32) (0 + i * 1) = _
      rw [nth_eq, Nat.zero_add, Nat.mul_one, List.getElem?_map, List.getElem?_eq_getElem (by omega)]
      simp [List.getD, List.getElem?_eq_getElem (show i < ws.length by omega)])
    clear hn
    refine ⟨_, add32 _ _, ?_⟩
    refine call_pu (fun β w' hs => rotl_c w' xa 2 (by omega) (by omega)) ?_
    refine call_pu (fun β w' hs => rotl_c w' xa 13 (by omega) (by omega)) ?_
    refine ⟨_, xor32 _ _, ?_⟩
    refine call_pu (fun β w' hs => rotl_c w' xa 22 (by omega) (by omega)) ?_
    refine ⟨_, xor32 _ _, ?_⟩
    refine ⟨_, and32 _ _, _, and32 _ _, _, xor32 _ _, _, and32 _ _, _, xor32 _ _, ?_⟩
    refine ⟨_, add32 _ _, _, add32 _ _, _, add32 _ _, ?_⟩
    refine ⟨((i + 1 : Nat) : Int), by rw [wrap_i64 (by omega) (by omega)]; rfl, ?_⟩
    refine ⟨i + 1, by omega, by omega, Ent.same ?_ rfl⟩
    rw [rounds_succ, hr]
    exact ⟨rfl, rfl, rfl, rfl, rfl, rfl, rfl, rfl, rfl, rfl, rfl, trivial⟩
  · obtain ⟨t, ht⟩ : ∃ t, (⟨xa, xb, xc, xd, xe, xf, xg, xh⟩ : S8) = t := ⟨_, rfl⟩
    have hst : Sha.step s l = s.add t := by
      have : i = 64 := by omega
      rw [Sha.step, hws, ← ht, ← hr, this]
    rw [hst]
    refine loop_rule (ι := Nat) 2 (fun i => [(0, .c (.p 0 0)), (129, .agg [sl32 xa, sl32 xb, sl32 xc, sl32 xd, sl32 xe, sl32 xf, sl32 xg, sl32 xh]), (130, .c (.v (.int .i64 i)))])
      (fun i => [⟨1, 332, ws.map sl32⟩, ⟨0, ty, mix s t i⟩]) (fun _ => [bsF A l, oddF 5])
      (fun i => i ≤ 8) (fun i => 8 - i) 0 (Nat.zero_le _) (Ent.same ⟨rfl, rfl, rfl, trivial⟩ rfl) g ?_
    intro j hj
    refine BIf.dec (fun hlt => ?_) (fun hge => ?_)
    · have hlt : j < 8 := by omega
      refine ⟨j, sl32 (t.l.getD j 0), rfl, hlt, by rw [← ht]; show ((⟨xa, xb, xc, xd, xe, xf, xg, xh⟩ : S8).l.map sl32)[j * 1]? = _; rw [Nat.mul_one]; exact l_get _ j hlt, ?_⟩
      refine draw_rule g p_sha_state_step_15 (by kernel_rfl) [] [bsF A l, oddF 5] (Sub.of (List.nil_sublist _) (List.Sublist.refl _)) ?_
      refine ⟨j, rfl, hlt, ?_⟩
      conv => whnf
      generalize hn : nth _ _ = o
      obtain rfl : o = some (sl32 (s.l.getD j 0)) := hn.symm.trans (by
        show nth (mix s t j) (0 + j * 1) = _
        rw [Nat.zero_add, Nat.mul_one]
        exact mix_get s t j hlt)
      clear hn
      refine ⟨Sub.of (List.nil_sublist _) (List.Sublist.refl _), _, add32 _ _, j, rfl, hlt, ?_⟩
      conv => whnf
      generalize h1 : Nat.ble _ _ = b1
      obtain rfl : b1 = true := h1.symm.trans (by
        show Nat.ble (0 + j * 1 + 1) (mix s t j).length = true
        rw [mix_len s t j (by omega), Nat.ble_eq]; omega)
      clear h1
      refine ⟨Sub.of (List.nil_sublist _) (List.Sublist.refl _), ?_⟩
      refine ⟨((j + 1 : Nat) : Int), by rw [wrap_i64 (by omega) (by omega)]; rfl, ?_⟩
      refine ⟨j + 1, by omega, by omega, Ent.mk' ⟨rfl, rfl, rfl, trivial⟩ rfl (fun β w' hs => ?_)⟩
      have e1 := mix_set s t j hlt
      rw [← e1]
      have e3 : 0 + j * 1 = j := by omega
      have hs2 : Sat (cx_sha_state_step w (Un [stF b ty s]) [b]) β 2 [⟨1, 332, ws.map sl32⟩, ⟨0, ty, putAll (mix s t j) (0 + j * 1) [sl32 (s.l.getD j 0 + t.l.getD j 0)]⟩] [bsF A l, oddF 5] w' := hs
      rw [e3] at hs2
      exact hs2
    · obtain rfl : j = 8 := by omega
      intro β w' hs
      have h1 := hs.weaken (List.sublist_cons_self _ _) (List.Sublist.refl _)
      have h2 := h1.ofBk
      have hb : β 0 = b := h2.fix.2 0 (Nat.zero_lt_one)
      refine h2.fin [0] ⟨rfl, ?_⟩
      show [bkF (β 0) ty ((mix s t 8).map (SL.val β))] = [stF b ty (s.add t)]
      rw [hb]
      rfl
theorem u8_of32 (x : UInt32) : IntKind.u8.wrap (x.toNat : Int) = (x.toUInt8.toNat : Int) := by
  rw [show IntKind.u8.wrap (x.toNat : Int) = (x.toNat : Int) % 256 by simp [IntKind.wrap, IntKind.bits, IntKind.signed], UInt32.toNat_toUInt8]
  omega
def outN (s : S8) (i : Nat) : List UInt8 := (s.l.take i).flatMap b4
theorem outN_succ (s : S8) : ∀ i, i < 8 → outN s i ++ b4 (s.l.getD i 0) = outN s (i + 1)
  | 0, _ => rfl | 1, _ => rfl | 2, _ => rfl | 3, _ => rfl | 4, _ => rfl | 5, _ => rfl | 6, _ => rfl | 7, _ => rfl
  | n + 8, h => by omega
theorem stbytes_c (w : World) (b ty : Nat) (s : S8) (hm : Mem w [stF b ty s]) :
    Con Tryz.prog n_sha_state_bytes #[.pointer (some ⟨b, 0, none⟩)] w [stF b ty s] fun v Fs => ∃ A c, v = .slice A 32 c ∧ 32 ≤ c ∧ c ≤ maxLen ∧ Fs = [stF b ty s, browF ty_uint8 A (out s) c] := by
  have g := good_sha_state_bytes w (Un [stF b ty s]) (bs := [b])
  have hs0 : Sat (cx_sha_state_bytes w (Un [stF b ty s]) [b]) (Va.of fun _ => b) 1 [] [stF b ty s] w :=
    hm.sat rfl (ownIn (Gs := [stF b ty s]) (Rs := []) (fun g hg => by cases hg)) ⟨Nat.le_refl _, fun i hi => by
        have hi1 : i < 1 := hi
        have hi0 : i = 0 := by omega
        rw [hi0]; rfl⟩
  have hs1 := hs0.toBk 0 rfl 0 Nat.zero_lt_one rfl
  rw [List.map_map] at hs1
  refine con_of_sx (cx := cx_sha_state_bytes w (Un [stF b ty s]) [b]) g b_sha_state_bytes rfl rfl (β := Va.of fun _ => b) [.c (.p 0 0)] 1 [⟨0, ty, s.l.map sl32⟩] [browF ty_uint8 none [] 0] rfl rfl (hs1.nilRow _ _) ?_
  refine loop_rule (ι := Nat × Option Addr × Nat) 1 (fun i => [(6, .c (.p 0 0)), (7, .c (.v (.int .i64 i.1))), (3, .c (.v (.slice i.2.1 (4 * i.1) i.2.2)))]) (fun _ => [⟨0, ty, s.l.map sl32⟩])
    (fun i => [rowF ty_uint8 1 (.slice i.2.1 (4 * i.1) i.2.2) (4 * i.1) ((outN s i.1).map byte)])
    (fun i => i.1 ≤ 8 ∧ 4 * i.1 ≤ i.2.2 ∧ i.2.2 ≤ maxLen) (fun i => 8 - i.1) (0, none, 0) ⟨Nat.zero_le _, Nat.zero_le _, Nat.zero_le _⟩ (Ent.same ⟨rfl, rfl, rfl, trivial⟩ rfl) g ?_
  rintro ⟨i, A, c⟩ ⟨hi, hc, hcm⟩
  simp only at hi hc hcm
  refine BIf.dec (fun hlt => ?_) (fun hge => ?_)
  · have hlt : i < 8 := by omega
    obtain ⟨x, hx⟩ : ∃ x, s.l.getD i 0 = x := ⟨_, rfl⟩
    refine ⟨i, rfl, hlt, ?_⟩
    conv => whnf
    generalize hn : nth _ _ = o
    obtain rfl : o = some (sl32 x) := hn.symm.trans (by
      show nth (s.l.map sl32) (0 + i * 1) = _
      rw [Nat.zero_add, Nat.mul_one, ← hx, nth_eq]
      exact l_get s i hlt)
    clear hn
    refine ⟨by omega, _, shr32 x 24 (by omega), _, u8_of32 _, by omega, _, shr32 x 16 (by omega), _, u8_of32 _, by omega, _, shr32 x 8 (by omega), _, u8_of32 _, _, u8_of32 _, ?_⟩
    intro b2
    refine ⟨1, 4 * i, 4 * (i + 1), (outN s i).map byte, (b4 x).map byte, _, rfl, fun β w hs => row_rd (hs.get 0 rfl), bytes_one _, by omega, rfl, by rw [maxLen_eq]; omega, by show 4 * (i + 1) * 1 ≤ _; omega, ?_⟩
    intro A' c' h1 h2 _
    refine ⟨((i + 1 : Nat) : Int), by rw [wrap_i64 (by omega) (by omega)]; rfl, ?_⟩
    refine ⟨(i + 1, A', c'), ⟨by show i + 1 ≤ 8; omega, h1, h2⟩, by show 8 - (i + 1) < 8 - i; omega, Ent.mk' ⟨rfl, rfl, rfl, trivial⟩ rfl (fun β w' hs => ?_)⟩
    have e1 := outN_succ s i hlt
    rw [hx] at e1
    have h3 := hs.weaken (List.Sublist.refl _) (List.sublist_cons_self _ _)
    show Sat _ _ _ _ [rowF ty_uint8 1 (.slice A' (4 * (i + 1)) c') (4 * (i + 1)) ((outN s (i + 1)).map byte)] _
    rw [← e1, List.map_append]
    exact h3
  · obtain rfl : i = 8 := by omega
    intro β w' hs
    have h2 := hs.ofBk
    have hb : β 0 = b := h2.fix.2 0 (Nat.zero_lt_one)
    refine h2.fin [0, 1] ⟨A, c, rfl, hc, hcm, ?_⟩
    show [bkF (β 0) ty ((s.l.map sl32).map (SL.val β)), _] = [stF b ty s, _]
    rw [hb]
    rfl
theorem wrap_u8n (x : Nat) : IntKind.u8.wrap (x : Int) = ((UInt8.ofNat x).toNat : Int) := by
  rw [show IntKind.u8.wrap (x : Int) = (x : Int) % 256 by simp [IntKind.wrap, IntKind.bits, IntKind.signed], UInt8.toNat_ofNat']
  omega
theorem wrap_u64' (x : Int) : IntKind.u64.wrap x = x % 18446744073709551616 := by simp [IntKind.wrap, IntKind.bits, IntKind.signed]
theorem longN_succ (n : Nat) : ∀ i, i < 8 → (Sha.long n).take i ++ [UInt8.ofNat (n / 2 ^ (8 * (7 - i)))] = (Sha.long n).take (i + 1)
  | 0, _ => rfl | 1, _ => rfl | 2, _ => rfl | 3, _ => rfl | 4, _ => rfl | 5, _ => rfl | 6, _ => rfl | 7, _ => rfl
  | n + 8, h => by omega
theorem long_c (w : World) (n : Nat) :
    Con Tryz.prog n_sha_long #[.int .u64 n] w [] fun v Fs => ∃ A c, v = .slice A 8 c ∧ 8 ≤ c ∧ c ≤ maxLen ∧ Fs = [browF ty_uint8 A (Sha.long n) c] := by
  have g := good_sha_long w (Un [])
  refine con_of_sx (cx := cx_sha_long w (Un [])) g b_sha_long rfl rfl (β := Va.z) [.c (.v (.int .u64 n))] 0 [] [browF ty_uint8 none [] 0] rfl rfl ((Sat.start rfl).nilRow _ _) ?_
  refine loop_rule (ι := Nat × Option Addr × Nat) 0 (fun i => [(0, .c (.v (.int .u64 n))), (5, .c (.v (.int .i64 i.1))), (3, .c (.v (.slice i.2.1 i.1 i.2.2)))]) (fun _ => [])
    (fun i => [rowF ty_uint8 1 (.slice i.2.1 i.1 i.2.2) i.1 (((Sha.long n).take i.1).map byte)])
    (fun i => i.1 ≤ 8 ∧ i.1 ≤ i.2.2 ∧ i.2.2 ≤ maxLen) (fun i => 8 - i.1) (0, none, 0) ⟨Nat.zero_le _, Nat.zero_le _, Nat.zero_le _⟩ (Ent.same ⟨rfl, rfl, rfl, trivial⟩ rfl) g ?_
  rintro ⟨i, A, c⟩ ⟨hi, hc, hcm⟩
  simp only at hi hc hcm
  refine BIf.dec (fun hlt => ?_) (fun hge => ?_)
  · have hlt : i < 8 := by omega
    refine ⟨((7 - i : Nat) : Int), by rw [wrap_i64 (by omega) (by omega)]; omega, ((8 * (7 - i) : Nat) : Int), by rw [wrap_i64 (by omega) (by omega)]; omega, ?_⟩
    refine ⟨by omega, ((n / 2 ^ (8 * (7 - i)) : Nat) : Int), ?_, _, wrap_u8n _, ?_⟩
    · have h1 : min ((8 * (7 - i) : Nat) : Int).toNat IntKind.u64.bits = 8 * (7 - i) := by show min (8 * (7 - i)) 64 = _; omega
      rw [h1]
      have : (2 ^ (8 * (7 - i)) : Int) = ((2 ^ (8 * (7 - i)) : Nat) : Int) := by push_cast; rfl
      rw [this, Int.fdiv_eq_ediv_of_nonneg _ (Int.natCast_nonneg _)]
      exact (Int.natCast_ediv _ _).symm
    intro b2
    refine ⟨1, i, i + 1, ((Sha.long n).take i).map byte, [UInt8.ofNat (n / 2 ^ (8 * (7 - i)))].map byte, _, rfl, fun β w hs => row_rd (hs.get 0 rfl), bytes_one _, rfl, rfl, by rw [maxLen_eq]; omega, by show (i + 1) * 1 ≤ _; omega, ?_⟩
    intro A' c' h1 h2 _
    refine ⟨((i + 1 : Nat) : Int), by rw [wrap_i64 (by omega) (by omega)]; rfl, ?_⟩
    refine ⟨(i + 1, A', c'), ⟨by show i + 1 ≤ 8; omega, h1, h2⟩, by show 8 - (i + 1) < 8 - i; omega, Ent.mk' ⟨rfl, rfl, rfl, trivial⟩ rfl (fun β w' hs => ?_)⟩
    have h3 := hs.weaken (List.Sublist.refl _) (List.sublist_cons_self _ _)
    show Sat _ _ _ _ [rowF ty_uint8 1 (.slice A' (i + 1) c') (i + 1) (((Sha.long n).take (i + 1)).map byte)] _
    rw [← longN_succ n i hlt, List.map_append]
    exact h3
  · obtain rfl : i = 8 := by omega
    intro β w' hs
    exact hs.fin [0] ⟨A, c, rfl, hc, hcm, rfl⟩
theorem ends_c (w : World) (n : Nat) (hn : n ≤ 140737488355328) :
    Con Tryz.prog n_sha_ends #[.int .u64 n] w [] fun v Fs => ∃ A c, v = .slice A (Sha.ends n).length c ∧ (Sha.ends n).length ≤ c ∧ c ≤ maxLen ∧ Fs = [browF ty_uint8 A (Sha.ends n) c] := by
  have g := good_sha_ends w (Un [])
  have hz : zeros n < 64 := by unfold zeros; omega
  refine con_of_sx (cx := cx_sha_ends w (Un [])) g b_sha_ends rfl rfl (β := Va.z) [.c (.v (.int .u64 n))] 0 [] [] rfl rfl (Sat.start rfl) ?_
  intro b0
  refine loop_rule (ι := Nat × Option Addr × Nat) 0 (fun i => [(0, .c (.v (.int .u64 n))), (3, .c (.v (.slice i.2.1 (i.1 + 1) i.2.2)))]) (fun _ => [])
    (fun i => [rowF ty_uint8 1 (.slice i.2.1 (i.1 + 1) i.2.2) (i.1 + 1) (((0x80 : UInt8) :: List.replicate i.1 0).map byte)])
    (fun i => i.1 ≤ zeros n ∧ i.1 + 1 ≤ i.2.2 ∧ i.2.2 ≤ maxLen) (fun i => zeros n - i.1) (0, some ⟨b0, 0, none⟩, 1) ⟨Nat.zero_le _, Nat.le_refl _, by show 1 ≤ maxLen; decide⟩ (Ent.same ⟨rfl, rfl, trivial⟩ rfl) g ?_
  rintro ⟨i, A, c⟩ ⟨hi, hc, hcm⟩
  simp only at hi hc hcm
  obtain ⟨r, hr⟩ : ∃ r : Nat, (n + (i + 1) + 8) % 64 = r := ⟨_, rfl⟩
  refine ⟨((i + 1 : Nat) : Int), by rw [wrap_u64']; omega, ((n + (i + 1) : Nat) : Int), by rw [wrap_u64']; omega, ((n + (i + 1) + 8 : Nat) : Int), by rw [wrap_u64']; omega, by omega, (r : Int), by rw [Int.tmod_eq_emod_of_nonneg (by omega)]; omega, ?_⟩
  refine BIf.not (BIf.dec (fun h0 => ?_) (fun h0 => ?_))
  · have hiz : i = zeros n := by unfold zeros at *; omega
    refine ⟨((8 * n : Nat) : Int), by rw [wrap_u64']; omega, ?_⟩
    refine call_con [] (fun β w' hs => long_c w' (8 * n)) ?_
    rintro v Fs ⟨A2, c2, rfl, h1, h2, rfl⟩
    have hl : (Sha.ends n).length = i + 1 + 8 := by rw [Sha.ends_len, hiz]; omega
    refine ⟨1, i + 1, (Sha.ends n).length, _, (Sha.long (8 * n)).map byte, (Sha.ends n).map byte, rfl, fun β w hs => row_rd (hs.get 0 rfl), bytes_one _, hl.symm, by rw [← List.map_append, hiz]; rfl, by rw [maxLen_eq, hl]; omega, by show (Sha.ends n).length * 1 ≤ _; omega, ?_⟩
    intro A' c' h3 h4 _
    intro β w' hs
    exact hs.fin [1] ⟨A', c', rfl, h3, h4, rfl⟩
  · have hiz : i < zeros n := by
      rcases Nat.lt_or_ge i (zeros n) with h | h
      · exact h
      · exfalso
        apply h0
        have : i = zeros n := by omega
        subst this
        unfold zeros at hr
        omega
    intro b2
    refine ⟨1, i + 1, i + 1 + 1, ((0x80 : UInt8) :: List.replicate i 0).map byte, [(0 : UInt8)].map byte, _, rfl, fun β w hs => row_rd (hs.get 0 rfl), bytes_one _, rfl, rfl, by rw [maxLen_eq]; omega, by show (i + 1 + 1) * 1 ≤ _; omega, ?_⟩
    intro A' c' h1 h2 _
    refine ⟨(i + 1, A', c'), ⟨hiz, h1, h2⟩, by show zeros n - (i + 1) < zeros n - i; omega, Ent.mk' ⟨rfl, rfl, trivial⟩ rfl (fun β w' hs => ?_)⟩
    have h3 := hs.weaken (List.Sublist.refl _) (List.sublist_cons_self _ _)
    show Sat _ _ _ _ [rowF ty_uint8 1 (.slice A' (i + 1 + 1) c') (i + 1 + 1) (((0x80 : UInt8) :: List.replicate (i + 1) 0).map byte)] _
    rw [List.replicate_succ', ← List.cons_append, List.map_append]
    exact h3
end Go.Proofs.YteenjgfbbkdlhaaGreatDoor.Sx
