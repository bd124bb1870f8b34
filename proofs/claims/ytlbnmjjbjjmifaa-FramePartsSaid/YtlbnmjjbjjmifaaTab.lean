/- Printed by sxgen.py: the types of this translation, and for each function its context for the executor. -/
import Derived.Test.YtlbnmjjbjjmifaaSxUse
import Derived.Test.YtlbnmjjbjjmifaaProg
namespace Go.Proofs.Ytlbnmjjbjjmifaa.Sx
open Go
noncomputable def ti3 : TI := { desc := .int .i64, agg := false, size := 1, bytes := 8, zero := [.int .i64 0], fields := [], ftys := [] }
theorem ok3 : TiOk Try.prog 3 ti3 := ⟨by kernel_rfl, by kernel_rfl, rfl, by kernel_rfl, by kernel_rfl, by kernel_rfl⟩
noncomputable def ti5 : TI := { desc := .int .u8, agg := false, size := 1, bytes := 1, zero := [.int .u8 0], fields := [], ftys := [] }
theorem ok5 : TiOk Try.prog 5 ti5 := ⟨by kernel_rfl, by kernel_rfl, rfl, by kernel_rfl, by kernel_rfl, by kernel_rfl⟩
noncomputable def ti9 : TI := { desc := .string, agg := false, size := 1, bytes := 16, zero := [.string ByteArray.empty], fields := [], ftys := [] }
theorem ok9 : TiOk Try.prog 9 ti9 := ⟨by kernel_rfl, by kernel_rfl, rfl, by kernel_rfl, by kernel_rfl, by kernel_rfl⟩
noncomputable def ti22 : TI := { desc := .slice 5, agg := false, size := 1, bytes := 24, zero := [.slice none 0 0], fields := [], ftys := [] }
theorem ok22 : TiOk Try.prog 22 ti22 := ⟨by kernel_rfl, by kernel_rfl, rfl, by kernel_rfl, by kernel_rfl, by kernel_rfl⟩
noncomputable def ti27 : TI := { desc := .struct, agg := true, size := 2, bytes := 32, zero := [.int .u8 0, .slice none 0 0], fields := [(0, 1), (1, 1)], ftys := [5, 22] }
theorem ok27 : TiOk Try.prog 27 ti27 := ⟨by kernel_rfl, by kernel_rfl, rfl, by kernel_rfl, by kernel_rfl, by kernel_rfl⟩
noncomputable def ti28 : TI := { desc := .int .i64, agg := false, size := 1, bytes := 8, zero := [.int .i64 0], fields := [], ftys := [] }
theorem ok28 : TiOk Try.prog 28 ti28 := ⟨by kernel_rfl, by kernel_rfl, rfl, by kernel_rfl, by kernel_rfl, by kernel_rfl⟩
noncomputable def ti33 : TI := { desc := .struct, agg := true, size := 2, bytes := 32, zero := [.int .u8 0, .slice none 0 0], fields := [(0, 1), (1, 1)], ftys := [5, 22] }
theorem ok33 : TiOk Try.prog 33 ti33 := ⟨by kernel_rfl, by kernel_rfl, rfl, by kernel_rfl, by kernel_rfl, by kernel_rfl⟩
noncomputable def ti42 : TI := { desc := .int .u16, agg := false, size := 1, bytes := 2, zero := [.int .u16 0], fields := [], ftys := [] }
theorem ok42 : TiOk Try.prog 42 ti42 := ⟨by kernel_rfl, by kernel_rfl, rfl, by kernel_rfl, by kernel_rfl, by kernel_rfl⟩
noncomputable def ti43 : TI := { desc := .pointer 73, agg := false, size := 1, bytes := 8, zero := [.pointer none], fields := [], ftys := [] }
theorem ok43 : TiOk Try.prog 43 ti43 := ⟨by kernel_rfl, by kernel_rfl, rfl, by kernel_rfl, by kernel_rfl, by kernel_rfl⟩
noncomputable def ti52 : TI := { desc := .slice 57, agg := false, size := 1, bytes := 24, zero := [.slice none 0 0], fields := [], ftys := [] }
theorem ok52 : TiOk Try.prog 52 ti52 := ⟨by kernel_rfl, by kernel_rfl, rfl, by kernel_rfl, by kernel_rfl, by kernel_rfl⟩
noncomputable def ti53 : TI := { desc := .pointer 55, agg := false, size := 1, bytes := 8, zero := [.pointer none], fields := [], ftys := [] }
theorem ok53 : TiOk Try.prog 53 ti53 := ⟨by kernel_rfl, by kernel_rfl, rfl, by kernel_rfl, by kernel_rfl, by kernel_rfl⟩
noncomputable def ti55 : TI := { desc := .struct, agg := true, size := 2, bytes := 32, zero := [.slice none 0 0, .int .i64 0], fields := [(0, 1), (1, 1)], ftys := [22, 3] }
theorem ok55 : TiOk Try.prog 55 ti55 := ⟨by kernel_rfl, by kernel_rfl, rfl, by kernel_rfl, by kernel_rfl, by kernel_rfl⟩
noncomputable def ti57 : TI := { desc := .struct, agg := true, size := 3, bytes := 40, zero := [.int .u8 0, .slice none 0 0, .int .u8 0], fields := [(0, 1), (1, 1), (2, 1)], ftys := [5, 22, 5] }
theorem ok57 : TiOk Try.prog 57 ti57 := ⟨by kernel_rfl, by kernel_rfl, rfl, by kernel_rfl, by kernel_rfl, by kernel_rfl⟩
noncomputable def ti60 : TI := { desc := .slice 27, agg := false, size := 1, bytes := 24, zero := [.slice none 0 0], fields := [], ftys := [] }
theorem ok60 : TiOk Try.prog 60 ti60 := ⟨by kernel_rfl, by kernel_rfl, rfl, by kernel_rfl, by kernel_rfl, by kernel_rfl⟩
noncomputable def ti65 : TI := { desc := .slice 22, agg := false, size := 1, bytes := 24, zero := [.slice none 0 0], fields := [], ftys := [] }
theorem ok65 : TiOk Try.prog 65 ti65 := ⟨by kernel_rfl, by kernel_rfl, rfl, by kernel_rfl, by kernel_rfl, by kernel_rfl⟩
noncomputable def ti66 : TI := { desc := .slice 33, agg := false, size := 1, bytes := 24, zero := [.slice none 0 0], fields := [], ftys := [] }
theorem ok66 : TiOk Try.prog 66 ti66 := ⟨by kernel_rfl, by kernel_rfl, rfl, by kernel_rfl, by kernel_rfl, by kernel_rfl⟩
noncomputable def ti70 : TI := { desc := .int .u64, agg := false, size := 1, bytes := 8, zero := [.int .u64 0], fields := [], ftys := [] }
theorem ok70 : TiOk Try.prog 70 ti70 := ⟨by kernel_rfl, by kernel_rfl, rfl, by kernel_rfl, by kernel_rfl, by kernel_rfl⟩
noncomputable def ti73 : TI := { desc := .struct, agg := true, size := 2, bytes := 32, zero := [.slice none 0 0, .int .i64 0], fields := [(0, 1), (1, 1)], ftys := [22, 28] }
theorem ok73 : TiOk Try.prog 73 ti73 := ⟨by kernel_rfl, by kernel_rfl, rfl, by kernel_rfl, by kernel_rfl, by kernel_rfl⟩
abbrev ty_int64 : TypeId := 2
abbrev ty_int : TypeId := 3
abbrev ty_bool : TypeId := 4
abbrev ty_uint8 : TypeId := 5
abbrev ty_abi_BoundsErrorCode : TypeId := 6
abbrev ty_runtime_boundsError : TypeId := 8
abbrev ty_string : TypeId := 9
abbrev ty_runtime_errorString : TypeId := 10
abbrev ty_runtime_plainError : TypeId := 11
abbrev ty_uintptr : TypeId := 12
abbrev ty_runtime_errorAddressString : TypeId := 14
abbrev ty_ptr_runtime_TypeAssertionError : TypeId := 15
abbrev ty_ptr_runtime_PanicNilError : TypeId := 16
abbrev ty_ptr_abi_Type : TypeId := 17
abbrev ty_maps_unhashableTypeError : TypeId := 19
abbrev ty_int32 : TypeId := 21
abbrev ty_sl_uint8 : TypeId := 22
abbrev ty_frame_Frame : TypeId := 27
abbrev ty_api_Errno : TypeId := 28
abbrev ty_ostiaryref06_Frame : TypeId := 33
abbrev ty_uint16 : TypeId := 42
abbrev ty_ptr_frame_Reader : TypeId := 43
abbrev ty_uint : TypeId := 46
abbrev ty_sl_ostiarylaw06_Op : TypeId := 52
abbrev ty_ptr_ostiaryref06_Reader : TypeId := 53
abbrev ty_ostiaryref06_Reader : TypeId := 55
abbrev ty_ostiarylaw06_Op : TypeId := 57
abbrev ty_sl_frame_Frame : TypeId := 60
abbrev ty_sl_sl_uint8 : TypeId := 65
abbrev ty_sl_ostiaryref06_Frame : TypeId := 66
abbrev ty_uint64 : TypeId := 70
abbrev ty_frame_Reader : TypeId := 73
abbrev ty_iter_Seq_ostiary_frame_Frame : TypeId := 75
abbrev ty_runtime_TypeAssertionError : TypeId := 80
abbrev ty_0_ptr_runtime_PanicNilError : TypeId := 81
abbrev ty_runtime_PanicNilError : TypeId := 83
abbrev ty_uint32 : TypeId := 84
abbrev ty_abi_TFlag : TypeId := 85
abbrev ty_abi_Kind : TypeId := 86
abbrev ty_ptr_uint8 : TypeId := 88
abbrev ty_abi_NameOff : TypeId := 89
abbrev ty_abi_TypeOff : TypeId := 90
abbrev ty_abi_Type : TypeId := 92
theorem mixed : Try.prog.follows .mixedOrders = true := by kernel_rfl
/-- ostiary/ostiarylaw06.FramePacks -/
noncomputable def cx_ostiarylaw06_FramePacks (W0 : World) (S : Nat → Prop) (bs : List Nat := []) : Cx := ⟨Try.prog, W0, S, 79, [(3, ti3), (5, ti5), (22, ti22), (27, ti27), (28, ti28), (33, ti33)], [8, 9, 10, 11, 12, 13, 14, 15], bs, none, []⟩
abbrev n_ostiarylaw06_FramePacks : FuncId := 3
theorem b_ostiarylaw06_FramePacks : Try.prog.funcs[n_ostiarylaw06_FramePacks]? = some Try.f3 := Try.func3
theorem good_ostiarylaw06_FramePacks (W0 : World) (S : Nat → Prop) (bs : List Nat := []) : Good (cx_ostiarylaw06_FramePacks W0 S bs) := ⟨List.forall_mem_cons.2 ⟨ok3, List.forall_mem_cons.2 ⟨ok5, List.forall_mem_cons.2 ⟨ok22, List.forall_mem_cons.2 ⟨ok27, List.forall_mem_cons.2 ⟨ok28, List.forall_mem_cons.2 ⟨ok33, (fun _ h => by cases h)⟩⟩⟩⟩⟩⟩, List.forall_mem_cons.2 ⟨by kernel_rfl, List.forall_mem_cons.2 ⟨by kernel_rfl, List.forall_mem_cons.2 ⟨by kernel_rfl, List.forall_mem_cons.2 ⟨by kernel_rfl, List.forall_mem_cons.2 ⟨by kernel_rfl, List.forall_mem_cons.2 ⟨by kernel_rfl, List.forall_mem_cons.2 ⟨by kernel_rfl, List.forall_mem_cons.2 ⟨by kernel_rfl, (fun _ h => by cases h)⟩⟩⟩⟩⟩⟩⟩⟩, mixed⟩
/-- ostiary/ostiarylaw06.FrameUnpacks -/
noncomputable def cx_ostiarylaw06_FrameUnpacks (W0 : World) (S : Nat → Prop) (bs : List Nat := []) : Cx := ⟨Try.prog, W0, S, 79, [(3, ti3), (5, ti5), (22, ti22), (27, ti27), (28, ti28), (33, ti33)], [8, 9, 10, 13, 14, 15, 16], bs, none, []⟩
abbrev n_ostiarylaw06_FrameUnpacks : FuncId := 4
theorem b_ostiarylaw06_FrameUnpacks : Try.prog.funcs[n_ostiarylaw06_FrameUnpacks]? = some Try.f4 := Try.func4
theorem good_ostiarylaw06_FrameUnpacks (W0 : World) (S : Nat → Prop) (bs : List Nat := []) : Good (cx_ostiarylaw06_FrameUnpacks W0 S bs) := ⟨List.forall_mem_cons.2 ⟨ok3, List.forall_mem_cons.2 ⟨ok5, List.forall_mem_cons.2 ⟨ok22, List.forall_mem_cons.2 ⟨ok27, List.forall_mem_cons.2 ⟨ok28, List.forall_mem_cons.2 ⟨ok33, (fun _ h => by cases h)⟩⟩⟩⟩⟩⟩, List.forall_mem_cons.2 ⟨by kernel_rfl, List.forall_mem_cons.2 ⟨by kernel_rfl, List.forall_mem_cons.2 ⟨by kernel_rfl, List.forall_mem_cons.2 ⟨by kernel_rfl, List.forall_mem_cons.2 ⟨by kernel_rfl, List.forall_mem_cons.2 ⟨by kernel_rfl, List.forall_mem_cons.2 ⟨by kernel_rfl, (fun _ h => by cases h)⟩⟩⟩⟩⟩⟩⟩, mixed⟩
/-- ostiary/ostiarylaw06.FrameBreaks -/
noncomputable def cx_ostiarylaw06_FrameBreaks (W0 : World) (S : Nat → Prop) (bs : List Nat := []) : Cx := ⟨Try.prog, W0, S, 106, [(3, ti3), (5, ti5), (22, ti22), (27, ti27), (28, ti28), (33, ti33), (42, ti42), (43, ti43)], [8, 9, 12, 17, 18, 19, 20, 21], bs, none, []⟩
abbrev n_ostiarylaw06_FrameBreaks : FuncId := 5
theorem b_ostiarylaw06_FrameBreaks : Try.prog.funcs[n_ostiarylaw06_FrameBreaks]? = some Try.f5 := Try.func5
theorem good_ostiarylaw06_FrameBreaks (W0 : World) (S : Nat → Prop) (bs : List Nat := []) : Good (cx_ostiarylaw06_FrameBreaks W0 S bs) := ⟨List.forall_mem_cons.2 ⟨ok3, List.forall_mem_cons.2 ⟨ok5, List.forall_mem_cons.2 ⟨ok22, List.forall_mem_cons.2 ⟨ok27, List.forall_mem_cons.2 ⟨ok28, List.forall_mem_cons.2 ⟨ok33, List.forall_mem_cons.2 ⟨ok42, List.forall_mem_cons.2 ⟨ok43, (fun _ h => by cases h)⟩⟩⟩⟩⟩⟩⟩⟩, List.forall_mem_cons.2 ⟨by kernel_rfl, List.forall_mem_cons.2 ⟨by kernel_rfl, List.forall_mem_cons.2 ⟨by kernel_rfl, List.forall_mem_cons.2 ⟨by kernel_rfl, List.forall_mem_cons.2 ⟨by kernel_rfl, List.forall_mem_cons.2 ⟨by kernel_rfl, List.forall_mem_cons.2 ⟨by kernel_rfl, List.forall_mem_cons.2 ⟨by kernel_rfl, (fun _ h => by cases h)⟩⟩⟩⟩⟩⟩⟩⟩, mixed⟩
/-- ostiary/ostiarylaw06.FrameReads -/
noncomputable def cx_ostiarylaw06_FrameReads (W0 : World) (S : Nat → Prop) (bs : List Nat := []) : Cx := ⟨Try.prog, W0, S, 134, [(3, ti3), (5, ti5), (22, ti22), (27, ti27), (33, ti33), (43, ti43), (52, ti52), (53, ti53), (55, ti55), (57, ti57), (60, ti60)], [8, 9, 10, 15, 17, 18, 19, 20, 21, 22, 23, 24, 25], bs, none, []⟩
abbrev n_ostiarylaw06_FrameReads : FuncId := 6
theorem b_ostiarylaw06_FrameReads : Try.prog.funcs[n_ostiarylaw06_FrameReads]? = some Try.f6 := Try.func6
def p_ostiarylaw06_FrameReads_31 : Plan := .take 0 (.take 1 (.take 2 (.take 3 (.take 4 (.take 5 (.take 6 (.take 7 (.take 8 (.take 9 (.exec 10 (.take 11 (.take 12 (.done)))))))))))))
def p_ostiarylaw06_FrameReads_36 : Plan := .take 0 (.take 1 (.take 2 (.take 3 (.take 4 (.take 5 (.take 6 (.take 7 (.take 8 (.take 9 (.take 10 (.done)))))))))))
theorem good_ostiarylaw06_FrameReads (W0 : World) (S : Nat → Prop) (bs : List Nat := []) : Good (cx_ostiarylaw06_FrameReads W0 S bs) := ⟨List.forall_mem_cons.2 ⟨ok3, List.forall_mem_cons.2 ⟨ok5, List.forall_mem_cons.2 ⟨ok22, List.forall_mem_cons.2 ⟨ok27, List.forall_mem_cons.2 ⟨ok33, List.forall_mem_cons.2 ⟨ok43, List.forall_mem_cons.2 ⟨ok52, List.forall_mem_cons.2 ⟨ok53, List.forall_mem_cons.2 ⟨ok55, List.forall_mem_cons.2 ⟨ok57, List.forall_mem_cons.2 ⟨ok60, (fun _ h => by cases h)⟩⟩⟩⟩⟩⟩⟩⟩⟩⟩⟩, List.forall_mem_cons.2 ⟨by kernel_rfl, List.forall_mem_cons.2 ⟨by kernel_rfl, List.forall_mem_cons.2 ⟨by kernel_rfl, List.forall_mem_cons.2 ⟨by kernel_rfl, List.forall_mem_cons.2 ⟨by kernel_rfl, List.forall_mem_cons.2 ⟨by kernel_rfl, List.forall_mem_cons.2 ⟨by kernel_rfl, List.forall_mem_cons.2 ⟨by kernel_rfl, List.forall_mem_cons.2 ⟨by kernel_rfl, List.forall_mem_cons.2 ⟨by kernel_rfl, List.forall_mem_cons.2 ⟨by kernel_rfl, List.forall_mem_cons.2 ⟨by kernel_rfl, List.forall_mem_cons.2 ⟨by kernel_rfl, (fun _ h => by cases h)⟩⟩⟩⟩⟩⟩⟩⟩⟩⟩⟩⟩⟩, mixed⟩
/-- ostiary/ostiarylaw06.FrameParts -/
noncomputable def cx_ostiarylaw06_FrameParts (W0 : World) (S : Nat → Prop) (bs : List Nat := []) : Cx := ⟨Try.prog, W0, S, 111, [(3, ti3), (5, ti5), (22, ti22), (27, ti27), (28, ti28), (33, ti33), (43, ti43), (60, ti60), (65, ti65), (66, ti66)], [8, 9, 12, 15, 17, 18, 20, 21, 23], bs, none, []⟩
abbrev n_ostiarylaw06_FrameParts : FuncId := 7
theorem b_ostiarylaw06_FrameParts : Try.prog.funcs[n_ostiarylaw06_FrameParts]? = some Try.f7 := Try.func7
def p_ostiarylaw06_FrameParts_11 : Plan := .take 0 (.take 1 (.take 3 (.take 4 (.alt 2 (.exec 5 (.exec 6 (.take 7 (.take 8 (.done))))) (.exec 5 (.exec 2 (.exec 6 (.take 7 (.take 8 (.done))))))))))
def p_ostiarylaw06_FrameParts_30 : Plan := .take 0 (.take 1 (.take 2 (.take 3 (.take 4 (.take 5 (.take 6 (.take 7 (.exec 8 (.take 9 (.done))))))))))
theorem good_ostiarylaw06_FrameParts (W0 : World) (S : Nat → Prop) (bs : List Nat := []) : Good (cx_ostiarylaw06_FrameParts W0 S bs) := ⟨List.forall_mem_cons.2 ⟨ok3, List.forall_mem_cons.2 ⟨ok5, List.forall_mem_cons.2 ⟨ok22, List.forall_mem_cons.2 ⟨ok27, List.forall_mem_cons.2 ⟨ok28, List.forall_mem_cons.2 ⟨ok33, List.forall_mem_cons.2 ⟨ok43, List.forall_mem_cons.2 ⟨ok60, List.forall_mem_cons.2 ⟨ok65, List.forall_mem_cons.2 ⟨ok66, (fun _ h => by cases h)⟩⟩⟩⟩⟩⟩⟩⟩⟩⟩, List.forall_mem_cons.2 ⟨by kernel_rfl, List.forall_mem_cons.2 ⟨by kernel_rfl, List.forall_mem_cons.2 ⟨by kernel_rfl, List.forall_mem_cons.2 ⟨by kernel_rfl, List.forall_mem_cons.2 ⟨by kernel_rfl, List.forall_mem_cons.2 ⟨by kernel_rfl, List.forall_mem_cons.2 ⟨by kernel_rfl, List.forall_mem_cons.2 ⟨by kernel_rfl, List.forall_mem_cons.2 ⟨by kernel_rfl, (fun _ h => by cases h)⟩⟩⟩⟩⟩⟩⟩⟩⟩, mixed⟩
/-- ostiary/ostiarylaw06.awake -/
noncomputable def cx_ostiarylaw06_awake (W0 : World) (S : Nat → Prop) (bs : List Nat := []) : Cx := ⟨Try.prog, W0, S, 58, [(5, ti5), (9, ti9), (22, ti22), (27, ti27), (28, ti28), (43, ti43)], [11, 13, 17, 18, 19], bs, none, []⟩
abbrev n_ostiarylaw06_awake : FuncId := 8
theorem b_ostiarylaw06_awake : Try.prog.funcs[n_ostiarylaw06_awake]? = some Try.f8 := Try.func8
theorem good_ostiarylaw06_awake (W0 : World) (S : Nat → Prop) (bs : List Nat := []) : Good (cx_ostiarylaw06_awake W0 S bs) := ⟨List.forall_mem_cons.2 ⟨ok5, List.forall_mem_cons.2 ⟨ok9, List.forall_mem_cons.2 ⟨ok22, List.forall_mem_cons.2 ⟨ok27, List.forall_mem_cons.2 ⟨ok28, List.forall_mem_cons.2 ⟨ok43, (fun _ h => by cases h)⟩⟩⟩⟩⟩⟩, List.forall_mem_cons.2 ⟨by kernel_rfl, List.forall_mem_cons.2 ⟨by kernel_rfl, List.forall_mem_cons.2 ⟨by kernel_rfl, List.forall_mem_cons.2 ⟨by kernel_rfl, List.forall_mem_cons.2 ⟨by kernel_rfl, (fun _ h => by cases h)⟩⟩⟩⟩⟩, mixed⟩
/-- ostiary/ostiaryref01.Cut -/
noncomputable def cx_ostiaryref01_Cut (W0 : World) (S : Nat → Prop) (bs : List Nat := []) : Cx := ⟨Try.prog, W0, S, 13, [(3, ti3), (5, ti5), (22, ti22)], [], bs, none, []⟩
abbrev n_ostiaryref01_Cut : FuncId := 9
theorem b_ostiaryref01_Cut : Try.prog.funcs[n_ostiaryref01_Cut]? = some Try.f9 := Try.func9
theorem good_ostiaryref01_Cut (W0 : World) (S : Nat → Prop) (bs : List Nat := []) : Good (cx_ostiaryref01_Cut W0 S bs) := ⟨List.forall_mem_cons.2 ⟨ok3, List.forall_mem_cons.2 ⟨ok5, List.forall_mem_cons.2 ⟨ok22, (fun _ h => by cases h)⟩⟩⟩, (fun _ h => by cases h), mixed⟩
/-- ostiary/ostiaryref01.Copy -/
noncomputable def cx_ostiaryref01_Copy (W0 : World) (S : Nat → Prop) (bs : List Nat := []) : Cx := ⟨Try.prog, W0, S, 6, [(5, ti5), (22, ti22)], [], bs, none, []⟩
abbrev n_ostiaryref01_Copy : FuncId := 10
theorem b_ostiaryref01_Copy : Try.prog.funcs[n_ostiaryref01_Copy]? = some Try.f10 := Try.func10
theorem good_ostiaryref01_Copy (W0 : World) (S : Nat → Prop) (bs : List Nat := []) : Good (cx_ostiaryref01_Copy W0 S bs) := ⟨List.forall_mem_cons.2 ⟨ok5, List.forall_mem_cons.2 ⟨ok22, (fun _ h => by cases h)⟩⟩, (fun _ h => by cases h), mixed⟩
/-- ostiary/frame.Pack -/
noncomputable def cx_frame_Pack (W0 : World) (S : Nat → Prop) (bs : List Nat := []) : Cx := ⟨Try.prog, W0, S, 27, [(3, ti3), (5, ti5), (22, ti22), (27, ti27)], [26], bs, none, []⟩
abbrev n_frame_Pack : FuncId := 11
theorem b_frame_Pack : Try.prog.funcs[n_frame_Pack]? = some Try.f11 := Try.func11
theorem good_frame_Pack (W0 : World) (S : Nat → Prop) (bs : List Nat := []) : Good (cx_frame_Pack W0 S bs) := ⟨List.forall_mem_cons.2 ⟨ok3, List.forall_mem_cons.2 ⟨ok5, List.forall_mem_cons.2 ⟨ok22, List.forall_mem_cons.2 ⟨ok27, (fun _ h => by cases h)⟩⟩⟩⟩, List.forall_mem_cons.2 ⟨by kernel_rfl, (fun _ h => by cases h)⟩, mixed⟩
/-- ostiary/ostiaryref06.Pack -/
noncomputable def cx_ostiaryref06_Pack (W0 : World) (S : Nat → Prop) (bs : List Nat := []) : Cx := ⟨Try.prog, W0, S, 28, [(3, ti3), (5, ti5), (22, ti22), (33, ti33), (70, ti70)], [27], bs, none, []⟩
abbrev n_ostiaryref06_Pack : FuncId := 12
theorem b_ostiaryref06_Pack : Try.prog.funcs[n_ostiaryref06_Pack]? = some Try.f12 := Try.func12
def p_ostiaryref06_Pack_5 : Plan := .take 0 (.take 1 (.take 3 (.take 4 (.take 5 (.take 6 (.take 9 (.take 10 (.alt 2 (.exec 7 (.exec 8 (.exec 11 (.take 12 (.take 13 (.done)))))) (.exec 7 (.exec 2 (.exec 8 (.exec 11 (.take 12 (.take 13 (.done)))))))))))))))
theorem good_ostiaryref06_Pack (W0 : World) (S : Nat → Prop) (bs : List Nat := []) : Good (cx_ostiaryref06_Pack W0 S bs) := ⟨List.forall_mem_cons.2 ⟨ok3, List.forall_mem_cons.2 ⟨ok5, List.forall_mem_cons.2 ⟨ok22, List.forall_mem_cons.2 ⟨ok33, List.forall_mem_cons.2 ⟨ok70, (fun _ h => by cases h)⟩⟩⟩⟩⟩, List.forall_mem_cons.2 ⟨by kernel_rfl, (fun _ h => by cases h)⟩, mixed⟩
/-- ostiary/ostiaryref01.Same -/
noncomputable def cx_ostiaryref01_Same (W0 : World) (S : Nat → Prop) (bs : List Nat := []) : Cx := ⟨Try.prog, W0, S, 10, [(5, ti5), (9, ti9), (22, ti22)], [], bs, none, []⟩
abbrev n_ostiaryref01_Same : FuncId := 13
theorem b_ostiaryref01_Same : Try.prog.funcs[n_ostiaryref01_Same]? = some Try.f13 := Try.func13
theorem good_ostiaryref01_Same (W0 : World) (S : Nat → Prop) (bs : List Nat := []) : Good (cx_ostiaryref01_Same W0 S bs) := ⟨List.forall_mem_cons.2 ⟨ok5, List.forall_mem_cons.2 ⟨ok9, List.forall_mem_cons.2 ⟨ok22, (fun _ h => by cases h)⟩⟩⟩, (fun _ h => by cases h), mixed⟩
/-- ostiary/frame.Unpack -/
noncomputable def cx_frame_Unpack (W0 : World) (S : Nat → Prop) (bs : List Nat := []) : Cx := ⟨Try.prog, W0, S, 49, [(3, ti3), (5, ti5), (22, ti22), (27, ti27)], [26, 28], bs, none, []⟩
abbrev n_frame_Unpack : FuncId := 14
theorem b_frame_Unpack : Try.prog.funcs[n_frame_Unpack]? = some Try.f14 := Try.func14
def p_frame_Unpack_3 : Plan := .take 0 (.take 1 (.take 2 (.take 3 (.take 4 (.take 5 (.take 6 (.take 7 (.take 8 (.take 9 (.take 10 (.done)))))))))))
def p_frame_Unpack_10 : Plan := .take 0 (.take 1 (.take 2 (.take 3 (.take 4 (.take 5 (.take 6 (.take 9 (.take 10 (.exec 7 (.take 8 (.exec 11 (.take 12 (.take 13 (.done))))))))))))))
theorem good_frame_Unpack (W0 : World) (S : Nat → Prop) (bs : List Nat := []) : Good (cx_frame_Unpack W0 S bs) := ⟨List.forall_mem_cons.2 ⟨ok3, List.forall_mem_cons.2 ⟨ok5, List.forall_mem_cons.2 ⟨ok22, List.forall_mem_cons.2 ⟨ok27, (fun _ h => by cases h)⟩⟩⟩⟩, List.forall_mem_cons.2 ⟨by kernel_rfl, List.forall_mem_cons.2 ⟨by kernel_rfl, (fun _ h => by cases h)⟩⟩, mixed⟩
/-- ostiary/ostiaryref06.Same -/
noncomputable def cx_ostiaryref06_Same (W0 : World) (S : Nat → Prop) (bs : List Nat := []) : Cx := ⟨Try.prog, W0, S, 17, [(5, ti5), (22, ti22), (33, ti33)], [13], bs, none, []⟩
abbrev n_ostiaryref06_Same : FuncId := 15
theorem b_ostiaryref06_Same : Try.prog.funcs[n_ostiaryref06_Same]? = some Try.f15 := Try.func15
theorem good_ostiaryref06_Same (W0 : World) (S : Nat → Prop) (bs : List Nat := []) : Good (cx_ostiaryref06_Same W0 S bs) := ⟨List.forall_mem_cons.2 ⟨ok5, List.forall_mem_cons.2 ⟨ok22, List.forall_mem_cons.2 ⟨ok33, (fun _ h => by cases h)⟩⟩⟩, List.forall_mem_cons.2 ⟨by kernel_rfl, (fun _ h => by cases h)⟩, mixed⟩
/-- ostiary/ostiaryref06.Unpack -/
noncomputable def cx_ostiaryref06_Unpack (W0 : World) (S : Nat → Prop) (bs : List Nat := []) : Cx := ⟨Try.prog, W0, S, 47, [(3, ti3), (5, ti5), (22, ti22), (33, ti33), (70, ti70)], [10, 29], bs, none, []⟩
abbrev n_ostiaryref06_Unpack : FuncId := 16
theorem b_ostiaryref06_Unpack : Try.prog.funcs[n_ostiaryref06_Unpack]? = some Try.f16 := Try.func16
def p_ostiaryref06_Unpack_10 : Plan := .take 0 (.take 1 (.take 2 (.take 3 (.take 4 (.take 5 (.take 6 (.take 9 (.take 10 (.take 11 (.take 12 (.exec 7 (.take 8 (.exec 13 (.take 14 (.take 15 (.done))))))))))))))))
theorem good_ostiaryref06_Unpack (W0 : World) (S : Nat → Prop) (bs : List Nat := []) : Good (cx_ostiaryref06_Unpack W0 S bs) := ⟨List.forall_mem_cons.2 ⟨ok3, List.forall_mem_cons.2 ⟨ok5, List.forall_mem_cons.2 ⟨ok22, List.forall_mem_cons.2 ⟨ok33, List.forall_mem_cons.2 ⟨ok70, (fun _ h => by cases h)⟩⟩⟩⟩⟩, List.forall_mem_cons.2 ⟨by kernel_rfl, List.forall_mem_cons.2 ⟨by kernel_rfl, (fun _ h => by cases h)⟩⟩, mixed⟩
/-- ostiary/frame.NewReader -/
noncomputable def cx_frame_NewReader (W0 : World) (S : Nat → Prop) (bs : List Nat := []) : Cx := ⟨Try.prog, W0, S, 3, [(5, ti5), (22, ti22), (28, ti28), (73, ti73)], [], bs, none, []⟩
abbrev n_frame_NewReader : FuncId := 17
theorem b_frame_NewReader : Try.prog.funcs[n_frame_NewReader]? = some Try.f17 := Try.func17
theorem good_frame_NewReader (W0 : World) (S : Nat → Prop) (bs : List Nat := []) : Good (cx_frame_NewReader W0 S bs) := ⟨List.forall_mem_cons.2 ⟨ok5, List.forall_mem_cons.2 ⟨ok22, List.forall_mem_cons.2 ⟨ok28, List.forall_mem_cons.2 ⟨ok73, (fun _ h => by cases h)⟩⟩⟩⟩, (fun _ h => by cases h), mixed⟩
/-- (*ostiary/frame.Reader).Feed -/
noncomputable def cx_frame_Reader_Feed (W0 : World) (S : Nat → Prop) (bs : List Nat := []) : Cx := ⟨Try.prog, W0, S, 36, [(3, ti3), (5, ti5), (22, ti22), (28, ti28), (43, ti43), (73, ti73)], [], bs, none, []⟩
abbrev n_frame_Reader_Feed : FuncId := 18
theorem b_frame_Reader_Feed : Try.prog.funcs[n_frame_Reader_Feed]? = some Try.f18 := Try.func18
def p_frame_Reader_Feed_4 : Plan := .take 0 (.take 1 (.take 2 (.take 3 (.take 5 (.take 6 (.take 7 (.exec 4 (.exec 8 (.take 9 (.take 10 (.exec 11 (.done))))))))))))
theorem good_frame_Reader_Feed (W0 : World) (S : Nat → Prop) (bs : List Nat := []) : Good (cx_frame_Reader_Feed W0 S bs) := ⟨List.forall_mem_cons.2 ⟨ok3, List.forall_mem_cons.2 ⟨ok5, List.forall_mem_cons.2 ⟨ok22, List.forall_mem_cons.2 ⟨ok28, List.forall_mem_cons.2 ⟨ok43, List.forall_mem_cons.2 ⟨ok73, (fun _ h => by cases h)⟩⟩⟩⟩⟩⟩, (fun _ h => by cases h), mixed⟩
/-- (*ostiary/frame.Reader).Next -/
noncomputable def cx_frame_Reader_Next (W0 : World) (S : Nat → Prop) (bs : List Nat := []) : Cx := ⟨Try.prog, W0, S, 56, [(5, ti5), (22, ti22), (27, ti27), (28, ti28), (43, ti43), (73, ti73)], [14, 28], bs, none, []⟩
abbrev n_frame_Reader_Next : FuncId := 19
theorem b_frame_Reader_Next : Try.prog.funcs[n_frame_Reader_Next]? = some Try.f19 := Try.func19
def p_frame_Reader_Next_4 : Plan := .take 0 (.take 1 (.take 2 (.take 3 (.take 4 (.exec 5 (.take 6 (.done)))))))
theorem good_frame_Reader_Next (W0 : World) (S : Nat → Prop) (bs : List Nat := []) : Good (cx_frame_Reader_Next W0 S bs) := ⟨List.forall_mem_cons.2 ⟨ok5, List.forall_mem_cons.2 ⟨ok22, List.forall_mem_cons.2 ⟨ok27, List.forall_mem_cons.2 ⟨ok28, List.forall_mem_cons.2 ⟨ok43, List.forall_mem_cons.2 ⟨ok73, (fun _ h => by cases h)⟩⟩⟩⟩⟩⟩, List.forall_mem_cons.2 ⟨by kernel_rfl, List.forall_mem_cons.2 ⟨by kernel_rfl, (fun _ h => by cases h)⟩⟩, mixed⟩
/-- (*ostiary/frame.Reader).Broken -/
noncomputable def cx_frame_Reader_Broken (W0 : World) (S : Nat → Prop) (bs : List Nat := []) : Cx := ⟨Try.prog, W0, S, 9, [(5, ti5), (22, ti22), (28, ti28), (43, ti43), (73, ti73)], [], bs, none, []⟩
abbrev n_frame_Reader_Broken : FuncId := 20
theorem b_frame_Reader_Broken : Try.prog.funcs[n_frame_Reader_Broken]? = some Try.f20 := Try.func20
theorem good_frame_Reader_Broken (W0 : World) (S : Nat → Prop) (bs : List Nat := []) : Good (cx_frame_Reader_Broken W0 S bs) := ⟨List.forall_mem_cons.2 ⟨ok5, List.forall_mem_cons.2 ⟨ok22, List.forall_mem_cons.2 ⟨ok28, List.forall_mem_cons.2 ⟨ok43, List.forall_mem_cons.2 ⟨ok73, (fun _ h => by cases h)⟩⟩⟩⟩⟩, (fun _ h => by cases h), mixed⟩
/-- (*ostiary/frame.Reader).Waiting -/
noncomputable def cx_frame_Reader_Waiting (W0 : World) (S : Nat → Prop) (bs : List Nat := []) : Cx := ⟨Try.prog, W0, S, 10, [(5, ti5), (22, ti22), (28, ti28), (43, ti43), (73, ti73)], [], bs, none, []⟩
abbrev n_frame_Reader_Waiting : FuncId := 21
theorem b_frame_Reader_Waiting : Try.prog.funcs[n_frame_Reader_Waiting]? = some Try.f21 := Try.func21
theorem good_frame_Reader_Waiting (W0 : World) (S : Nat → Prop) (bs : List Nat := []) : Good (cx_frame_Reader_Waiting W0 S bs) := ⟨List.forall_mem_cons.2 ⟨ok5, List.forall_mem_cons.2 ⟨ok22, List.forall_mem_cons.2 ⟨ok28, List.forall_mem_cons.2 ⟨ok43, List.forall_mem_cons.2 ⟨ok73, (fun _ h => by cases h)⟩⟩⟩⟩⟩, (fun _ h => by cases h), mixed⟩
/-- ostiary/ostiaryref06.Next -/
noncomputable def cx_ostiaryref06_Next (W0 : World) (S : Nat → Prop) (bs : List Nat := []) : Cx := ⟨Try.prog, W0, S, 50, [(3, ti3), (5, ti5), (22, ti22), (33, ti33), (53, ti53), (55, ti55)], [16], bs, none, []⟩
abbrev n_ostiaryref06_Next : FuncId := 22
theorem b_ostiaryref06_Next : Try.prog.funcs[n_ostiaryref06_Next]? = some Try.f22 := Try.func22
def p_ostiaryref06_Next_4 : Plan := .take 0 (.take 1 (.take 2 (.take 3 (.take 4 (.exec 5 (.take 6 (.done)))))))
theorem good_ostiaryref06_Next (W0 : World) (S : Nat → Prop) (bs : List Nat := []) : Good (cx_ostiaryref06_Next W0 S bs) := ⟨List.forall_mem_cons.2 ⟨ok3, List.forall_mem_cons.2 ⟨ok5, List.forall_mem_cons.2 ⟨ok22, List.forall_mem_cons.2 ⟨ok33, List.forall_mem_cons.2 ⟨ok53, List.forall_mem_cons.2 ⟨ok55, (fun _ h => by cases h)⟩⟩⟩⟩⟩⟩, List.forall_mem_cons.2 ⟨by kernel_rfl, (fun _ h => by cases h)⟩, mixed⟩
/-- ostiary/ostiarylaw06.take -/
noncomputable def cx_ostiarylaw06_take (W0 : World) (S : Nat → Prop) (bs : List Nat := []) : Cx := ⟨Try.prog, W0, S, 21, [(3, ti3), (5, ti5), (22, ti22), (27, ti27), (43, ti43), (60, ti60)], [30], bs, none, []⟩
abbrev n_ostiarylaw06_take : FuncId := 23
theorem b_ostiarylaw06_take : Try.prog.funcs[n_ostiarylaw06_take]? = some Try.f23 := Try.func23
theorem good_ostiarylaw06_take (W0 : World) (S : Nat → Prop) (bs : List Nat := []) : Good (cx_ostiarylaw06_take W0 S bs) := ⟨List.forall_mem_cons.2 ⟨ok3, List.forall_mem_cons.2 ⟨ok5, List.forall_mem_cons.2 ⟨ok22, List.forall_mem_cons.2 ⟨ok27, List.forall_mem_cons.2 ⟨ok43, List.forall_mem_cons.2 ⟨ok60, (fun _ h => by cases h)⟩⟩⟩⟩⟩⟩, List.forall_mem_cons.2 ⟨by kernel_rfl, (fun _ h => by cases h)⟩, mixed⟩
/-- ostiary/ostiaryref06.Feed -/
noncomputable def cx_ostiaryref06_Feed (W0 : World) (S : Nat → Prop) (bs : List Nat := []) : Cx := ⟨Try.prog, W0, S, 44, [(3, ti3), (5, ti5), (22, ti22), (53, ti53), (55, ti55)], [10], bs, none, []⟩
abbrev n_ostiaryref06_Feed : FuncId := 24
theorem b_ostiaryref06_Feed : Try.prog.funcs[n_ostiaryref06_Feed]? = some Try.f24 := Try.func24
def p_ostiaryref06_Feed_6 : Plan := .take 0 (.take 1 (.take 2 (.take 3 (.take 6 (.take 7 (.take 8 (.exec 4 (.exec 5 (.exec 9 (.take 10 (.take 11 (.exec 12 (.done)))))))))))))
theorem good_ostiaryref06_Feed (W0 : World) (S : Nat → Prop) (bs : List Nat := []) : Good (cx_ostiaryref06_Feed W0 S bs) := ⟨List.forall_mem_cons.2 ⟨ok3, List.forall_mem_cons.2 ⟨ok5, List.forall_mem_cons.2 ⟨ok22, List.forall_mem_cons.2 ⟨ok53, List.forall_mem_cons.2 ⟨ok55, (fun _ h => by cases h)⟩⟩⟩⟩⟩, List.forall_mem_cons.2 ⟨by kernel_rfl, (fun _ h => by cases h)⟩, mixed⟩
/-- ostiary/ostiaryref01.Flip -/
noncomputable def cx_ostiaryref01_Flip (W0 : World) (S : Nat → Prop) (bs : List Nat := []) : Cx := ⟨Try.prog, W0, S, 15, [(3, ti3), (5, ti5), (22, ti22)], [], bs, none, []⟩
abbrev n_ostiaryref01_Flip : FuncId := 25
theorem b_ostiaryref01_Flip : Try.prog.funcs[n_ostiaryref01_Flip]? = some Try.f25 := Try.func25
theorem good_ostiaryref01_Flip (W0 : World) (S : Nat → Prop) (bs : List Nat := []) : Good (cx_ostiaryref01_Flip W0 S bs) := ⟨List.forall_mem_cons.2 ⟨ok3, List.forall_mem_cons.2 ⟨ok5, List.forall_mem_cons.2 ⟨ok22, (fun _ h => by cases h)⟩⟩⟩, (fun _ h => by cases h), mixed⟩
/-- ostiary/frame.kind -/
noncomputable def cx_frame_kind (W0 : World) (S : Nat → Prop) (bs : List Nat := []) : Cx := ⟨Try.prog, W0, S, 9, [(5, ti5)], [], bs, none, []⟩
abbrev n_frame_kind : FuncId := 26
theorem b_frame_kind : Try.prog.funcs[n_frame_kind]? = some Try.f26 := Try.func26
theorem good_frame_kind (W0 : World) (S : Nat → Prop) (bs : List Nat := []) : Good (cx_frame_kind W0 S bs) := ⟨List.forall_mem_cons.2 ⟨ok5, (fun _ h => by cases h)⟩, (fun _ h => by cases h), mixed⟩
/-- ostiary/ostiaryref01.Bytes -/
noncomputable def cx_ostiaryref01_Bytes (W0 : World) (S : Nat → Prop) (bs : List Nat := []) : Cx := ⟨Try.prog, W0, S, 24, [(3, ti3), (5, ti5), (22, ti22), (70, ti70)], [], bs, none, []⟩
abbrev n_ostiaryref01_Bytes : FuncId := 27
theorem b_ostiaryref01_Bytes : Try.prog.funcs[n_ostiaryref01_Bytes]? = some Try.f27 := Try.func27
theorem good_ostiaryref01_Bytes (W0 : World) (S : Nat → Prop) (bs : List Nat := []) : Good (cx_ostiaryref01_Bytes W0 S bs) := ⟨List.forall_mem_cons.2 ⟨ok3, List.forall_mem_cons.2 ⟨ok5, List.forall_mem_cons.2 ⟨ok22, List.forall_mem_cons.2 ⟨ok70, (fun _ h => by cases h)⟩⟩⟩⟩, (fun _ h => by cases h), mixed⟩
/-- bytes.Clone -/
noncomputable def cx_bytes_Clone (W0 : World) (S : Nat → Prop) (bs : List Nat := []) : Cx := ⟨Try.prog, W0, S, 8, [(5, ti5), (22, ti22)], [], bs, none, []⟩
abbrev n_bytes_Clone : FuncId := 28
theorem b_bytes_Clone : Try.prog.funcs[n_bytes_Clone]? = some Try.f28 := Try.func28
theorem good_bytes_Clone (W0 : World) (S : Nat → Prop) (bs : List Nat := []) : Good (cx_bytes_Clone W0 S bs) := ⟨List.forall_mem_cons.2 ⟨ok5, List.forall_mem_cons.2 ⟨ok22, (fun _ h => by cases h)⟩⟩, (fun _ h => by cases h), mixed⟩
/-- ostiary/ostiaryref01.Num -/
noncomputable def cx_ostiaryref01_Num (W0 : World) (S : Nat → Prop) (bs : List Nat := []) : Cx := ⟨Try.prog, W0, S, 19, [(3, ti3), (5, ti5), (22, ti22), (70, ti70)], [], bs, none, []⟩
abbrev n_ostiaryref01_Num : FuncId := 29
theorem b_ostiaryref01_Num : Try.prog.funcs[n_ostiaryref01_Num]? = some Try.f29 := Try.func29
theorem good_ostiaryref01_Num (W0 : World) (S : Nat → Prop) (bs : List Nat := []) : Good (cx_ostiaryref01_Num W0 S bs) := ⟨List.forall_mem_cons.2 ⟨ok3, List.forall_mem_cons.2 ⟨ok5, List.forall_mem_cons.2 ⟨ok22, List.forall_mem_cons.2 ⟨ok70, (fun _ h => by cases h)⟩⟩⟩⟩, (fun _ h => by cases h), mixed⟩
/-- (*ostiary/frame.Reader).Frames -/
noncomputable def cx_frame_Reader_Frames (W0 : World) (S : Nat → Prop) (bs : List Nat := []) : Cx := ⟨Try.prog, W0, S, 4, [(43, ti43)], [31], bs, none, []⟩
abbrev n_frame_Reader_Frames : FuncId := 30
theorem b_frame_Reader_Frames : Try.prog.funcs[n_frame_Reader_Frames]? = some Try.f30 := Try.func30
theorem good_frame_Reader_Frames (W0 : World) (S : Nat → Prop) (bs : List Nat := []) : Good (cx_frame_Reader_Frames W0 S bs) := ⟨List.forall_mem_cons.2 ⟨ok43, (fun _ h => by cases h)⟩, List.forall_mem_cons.2 ⟨by kernel_rfl, (fun _ h => by cases h)⟩, mixed⟩
/-- (*ostiary/frame.Reader).Frames$1 -/
noncomputable def cx_frame_Reader_Frames_1 (W0 : World) (S : Nat → Prop) (bs : List Nat := []) : Cx := ⟨Try.prog, W0, S, 18, [(5, ti5), (22, ti22), (27, ti27), (28, ti28), (43, ti43)], [19], bs, none, []⟩
abbrev n_frame_Reader_Frames_1 : FuncId := 31
theorem b_frame_Reader_Frames_1 : Try.prog.funcs[n_frame_Reader_Frames_1]? = some Try.f31 := Try.func31
theorem good_frame_Reader_Frames_1 (W0 : World) (S : Nat → Prop) (bs : List Nat := []) : Good (cx_frame_Reader_Frames_1 W0 S bs) := ⟨List.forall_mem_cons.2 ⟨ok5, List.forall_mem_cons.2 ⟨ok22, List.forall_mem_cons.2 ⟨ok27, List.forall_mem_cons.2 ⟨ok28, List.forall_mem_cons.2 ⟨ok43, (fun _ h => by cases h)⟩⟩⟩⟩⟩, List.forall_mem_cons.2 ⟨by kernel_rfl, (fun _ h => by cases h)⟩, mixed⟩
end Go.Proofs.Ytlbnmjjbjjmifaa.Sx
