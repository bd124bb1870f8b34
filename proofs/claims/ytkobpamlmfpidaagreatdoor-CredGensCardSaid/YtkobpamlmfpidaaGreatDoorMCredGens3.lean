/- Texts joined: Shelf, Bld, BoxL, Bk1, Hex, Sha1, Sha2, Sha3, Sha4, Sha5, Sha6, Sha7, Sha8, Sha9, Pd0, Pd4, Pd5, Nam1, Nam2, Nam3, Nam4, Nam5, Nam6, Nam7, Nam8, Nam9, NamP, NmT, TabR, Tabs, Iter, RoF, StoL, Sto1, Sto2, Keys, Key2, Sto3, Sto4, Ten, Ten2, UsE, RnP, NamI, Mk1, Sto5, Sto6, Sto7, BsG, InsG. -/
import Derived.Test.YtkobpamlmfpidaaGreatDoorMCredGens2
import Derived.Shelf.Small.Bits
import Derived.Shelf.Strconv.Itoa0
import Derived.Shelf.Sort.Plain
import Derived.Shelf.Slices.Turned
import Derived.Ground.Names2Prog
import Derived.Shelf.Slices.ReverseS
import Derived.Shelf.Slices.Clone
import Derived.Shelf.Slices.Delete
import Derived.Shelf.Slices.Cells
import Derived.Ground.SlbCloneProg
import Derived.Shelf.Bytes.SlClone
import Derived.Ground.SlgnProg
import Derived.Shelf.SlicesE.Clone
import Derived.Ground.SlgmProg
import Derived.Shelf.SortM.SortNone
import Derived.Test.YtkobpamlmfpidaaGreatDoorProg
import Derived.Shelf.SlGeneric
import Derived.Shelf.SlIter.Nil
import Derived.Shelf.SortM.Plain
import Derived.Ground.GgzProg
import Derived.Maps.Keyed
import Derived.Below
import Derived.Sort.Walk0
import Derived.Lib.Builder
import Derived.Shelf.Spec.SlicesInsert
import Derived.Shelf.Spec.SlicesInsertGrow
set_option linter.unusedVariables false
set_option linter.unusedSimpArgs false
/-
  DERIVED: THE SHELF's CONTRACTS AT THIS DUMP, IN PLAIN WORDS (tools/lay-plain.mjs out of 'TryzShelf.lean', which tools/lay-shelf.mjs wrote): THE SAME DECLARATIONS UNDER THE SAME NAMES: 'import', 'namespace', 'open', 'def', 'theorem' AND NOTHING ELSE: no command of the shelf's: FOR A HAND-IN. Each laying: the table of numbers ('.._ren') and one theorem, a field a fact of the dump's own or the kernel's comparison; each contract: ONE APPLICATION.
-/
namespace Go.Proofs
open Go.Shelf
def Tryz.lays190_ren : Go.Shelf.Ren := ⟨fun | 190 => 90 | 125 => 102 | 258 => 101 | 128 => 122 | 129 => 123 | 302 => 114 | 303 => 115 | 304 => 116 | 305 => 117 | 306 => 118 | 307 => 119 | 308 => 86 | 309 => 120 | 310 => 121 | 333 => 128 | 329 => 129 | 330 => 130 | 334 => 131 | 335 => 132 | 336 => 99 | 344 => 136 | n => n, fun | 31 => 27 | 9 => 9 | 3 => 3 | 46 => 126 | 0 => 0 | 51 => 159 | 53 => 29 | 4 => 4 | 183 => 153 | 182 => 152 | 131 => 103 | 5 => 5 | 218 => 172 | 222 => 175 | 228 => 181 | 229 => 161 | n => n, fun | n => n⟩
theorem Tryz.lays190 : Go.Proofs.Lays.n190 Tryz.prog Tryz.lays190_ren := {
  mixed := by kernel_rfl
  f125 := Tryz.func102.trans (congrArg some (by kernel_rfl))
  f128 := Tryz.func122.trans (congrArg some (by kernel_rfl))
  f129 := Tryz.func123.trans (congrArg some (by kernel_rfl))
  f190 := Tryz.func90.trans (congrArg some (by kernel_rfl))
  f258 := Tryz.func101.trans (congrArg some (by kernel_rfl))
  f302 := Tryz.func114.trans (congrArg some (by kernel_rfl))
  f303 := Tryz.func115.trans (congrArg some (by kernel_rfl))
  f304 := Tryz.func116.trans (congrArg some (by kernel_rfl))
  f305 := Tryz.func117.trans (congrArg some (by kernel_rfl))
  f306 := Tryz.func118.trans (congrArg some (by kernel_rfl))
  f307 := Tryz.func119.trans (congrArg some (by kernel_rfl))
  f308 := Tryz.func86.trans (congrArg some (by kernel_rfl))
  f309 := Tryz.func120.trans (congrArg some (by kernel_rfl))
  f310 := Tryz.func121.trans (congrArg some (by kernel_rfl))
  f329 := Tryz.func129.trans (congrArg some (by kernel_rfl))
  f330 := Tryz.func130.trans (congrArg some (by kernel_rfl))
  f333 := Tryz.func128.trans (congrArg some (by kernel_rfl))
  f334 := Tryz.func131.trans (congrArg some (by kernel_rfl))
  f335 := Tryz.func132.trans (congrArg some (by kernel_rfl))
  f336 := Tryz.func99.trans (congrArg some (by kernel_rfl))
  f344 := Tryz.func136.trans (congrArg some (by kernel_rfl))
  t0 := Tryz.underlying0
  a0 := Tryz.isAgg0
  z0 := Tryz.sizeOf0
  v0 := Tryz.zeroValue0
  t3 := Tryz.underlying3
  a3 := Tryz.isAgg3
  z3 := Tryz.sizeOf3
  v3 := Tryz.zeroValue3
  t4 := Tryz.underlying4
  a4 := Tryz.isAgg4
  z4 := Tryz.sizeOf4
  v4 := Tryz.zeroValue4
  t5 := Tryz.underlying5
  a5 := Tryz.isAgg5
  z5 := Tryz.sizeOf5
  v5 := Tryz.zeroValue5
  t9 := Tryz.underlying9
  a9 := Tryz.isAgg9
  z9 := Tryz.sizeOf9
  v9 := Tryz.zeroValue9
  t31 := Tryz.underlying27
  a31 := Tryz.isAgg27
  z31 := Tryz.sizeOf27
  v31 := Tryz.zeroValue27
  t46 := Tryz.underlying126
  a46 := Tryz.isAgg126
  z46 := Tryz.sizeOf126
  v46 := Tryz.zeroValue126
  t51 := Tryz.underlying159
  a51 := Tryz.isAgg159
  z51 := Tryz.sizeOf159
  v51 := Tryz.zeroValue159
  t53 := Tryz.underlying29
  a53 := Tryz.isAgg29
  z53 := Tryz.sizeOf29
  v53 := Tryz.zeroValue29
  t131 := Tryz.underlying103
  a131 := Tryz.isAgg103
  z131 := Tryz.sizeOf103
  v131 := Tryz.zeroValue103
  t182 := Tryz.underlying152
  a182 := Tryz.isAgg152
  z182 := Tryz.sizeOf152
  v182 := Tryz.zeroValue152
  t183 := Tryz.underlying153
  a183 := Tryz.isAgg153
  z183 := Tryz.sizeOf153
  v183 := Tryz.zeroValue153
  t218 := Tryz.underlying172
  a218 := Tryz.isAgg172
  z218 := Tryz.sizeOf172
  v218 := Tryz.zeroValue172
  t222 := Tryz.underlying175
  a222 := Tryz.isAgg175
  z222 := Tryz.sizeOf175
  v222 := Tryz.zeroValue175
  t228 := Tryz.underlying181
  a228 := Tryz.isAgg181
  z228 := Tryz.sizeOf181
  v228 := Tryz.zeroValue181
  t229 := Tryz.underlying161
  a229 := Tryz.isAgg161
  z229 := Tryz.sizeOf161
  v229 := Tryz.zeroValue161 }
open Go.Sort Go.RowKit in
theorem Tryz.slices_Sort_string (blk off cap : Nat) (ss : List (List UInt8)) (w : World) (hH : Holds encStr w blk off ss.toArray) (hblk : blk < w.heap.size) (hsz : ss.length < 4611686018427387904) :
    Calls Tryz.prog 90 #[.slice (some ⟨blk, off, none⟩) ss.length cap] w fun e w' =>
      e = .returned (.tuple #[]) ∧ ∃ n os, w' = grow (putRow encStr (Sort.ahead w n) blk off (ss.mergeSort fun x y => decide (x ≤ y)).toArray) os := Any.slices_Sort_string Tryz.lays190 blk off cap ss w hH hblk hsz
def Tryz.laysNm224_ren : Go.Shelf.Ren := ⟨fun | 24 => 75 | n => n, fun | 24 => 27 | 9 => 9 | 3 => 3 | 4 => 4 | 0 => 0 | n => n, fun | n => n⟩
theorem Tryz.laysNm224 : Go.Proofs.Lays2.n24 Tryz.prog Tryz.laysNm224_ren := {
  mixed := by kernel_rfl
  f24 := Tryz.func75.trans (congrArg some (by kernel_rfl))
  t0 := Tryz.underlying0
  a0 := Tryz.isAgg0
  z0 := Tryz.sizeOf0
  v0 := Tryz.zeroValue0
  t3 := Tryz.underlying3
  a3 := Tryz.isAgg3
  z3 := Tryz.sizeOf3
  v3 := Tryz.zeroValue3
  t4 := Tryz.underlying4
  a4 := Tryz.isAgg4
  z4 := Tryz.sizeOf4
  v4 := Tryz.zeroValue4
  t9 := Tryz.underlying9
  a9 := Tryz.isAgg9
  z9 := Tryz.sizeOf9
  v9 := Tryz.zeroValue9
  t24 := Tryz.underlying27
  a24 := Tryz.isAgg27
  z24 := Tryz.sizeOf27
  v24 := Tryz.zeroValue27
  i9 := by kernel_rfl }
open Go.RowKit Go.Lib Go.Sort in
/-- slices.Delete at []string, of an argument, for i ≤ j ≤ n. (LAID: no walk: one application.) -/
theorem Tryz.slices_Delete_string_cells (b off n c i j : Nat) (Sx : Nat → ByteArray) (w : World) (hcap : n ≤ c) (hm : c ≤ 9223372036854775807) (hij : i ≤ j) (hj : j ≤ n) (hc : ∀ i, i < n → w.cell? ⟨b, off + i, none⟩ = some (.string (Sx i))) (hf : ∀ j, j < n → w.frozen? ⟨b, off + j, none⟩ = false) :
    Calls Tryz.prog 75 #[.slice (some ⟨b, off, none⟩) n c, .int .i64 i, .int .i64 j] w fun e w' => e = .returned (.slice (some ⟨b, off, none⟩) (n - (j - i)) c) ∧ ∃ q, w' = (w.drewN q).setCells b off (((Lib.strsOf Sx n).take i ++ (Lib.strsOf Sx n).drop j ++ List.replicate (j - i) []).map encStr) := Any.slices_Delete_string_cells Tryz.laysNm224 b off n c i j Sx w hcap hm hij hj hc hf
def Tryz.laysSlM6_f90_ren : Go.Shelf.Ren := ⟨fun | 6 => 90 | 8 => 102 | 9 => 101 | 19 => 122 | 20 => 123 | 21 => 114 | 22 => 115 | 23 => 116 | 24 => 117 | 25 => 118 | 26 => 119 | 27 => 86 | 28 => 120 | 29 => 121 | 36 => 128 | 31 => 129 | 32 => 130 | 37 => 131 | 38 => 132 | 39 => 99 | 41 => 136 | n => n, fun | 27 => 27 | 29 => 9 | 3 => 3 | 32 => 126 | 26 => 27 | 0 => 0 | 44 => 159 | 46 => 29 | 4 => 4 | 36 => 153 | 35 => 152 | 41 => 103 | 5 => 5 | 9 => 9 | 53 => 172 | 57 => 175 | 63 => 181 | 64 => 161 | n => n, fun | n => n⟩
theorem Tryz.laysSlM6_f90 : Go.Proofs.SlLaysM.n6 Tryz.prog Tryz.laysSlM6_f90_ren := {
  mixed := by kernel_rfl
  f6 := ⟨Tryz.f90.name, by decide, Tryz.func90.trans (congrArg some (by kernel_rfl))⟩
  f8 := Tryz.func102.trans (congrArg some (by kernel_rfl))
  f9 := ⟨Tryz.f101.name, by decide, Tryz.func101.trans (congrArg some (by kernel_rfl))⟩
  f19 := Tryz.func122.trans (congrArg some (by kernel_rfl))
  f20 := Tryz.func123.trans (congrArg some (by kernel_rfl))
  f21 := ⟨Tryz.f114.name, by decide, Tryz.func114.trans (congrArg some (by kernel_rfl))⟩
  f22 := ⟨Tryz.f115.name, by decide, Tryz.func115.trans (congrArg some (by kernel_rfl))⟩
  f23 := ⟨Tryz.f116.name, by decide, Tryz.func116.trans (congrArg some (by kernel_rfl))⟩
  f24 := ⟨Tryz.f117.name, by decide, Tryz.func117.trans (congrArg some (by kernel_rfl))⟩
  f25 := ⟨Tryz.f118.name, by decide, Tryz.func118.trans (congrArg some (by kernel_rfl))⟩
  f26 := ⟨Tryz.f119.name, by decide, Tryz.func119.trans (congrArg some (by kernel_rfl))⟩
  f27 := ⟨Tryz.f86.name, by decide, Tryz.func86.trans (congrArg some (by kernel_rfl))⟩
  f28 := ⟨Tryz.f120.name, by decide, Tryz.func120.trans (congrArg some (by kernel_rfl))⟩
  f29 := ⟨Tryz.f121.name, by decide, Tryz.func121.trans (congrArg some (by kernel_rfl))⟩
  f31 := Tryz.func129.trans (congrArg some (by kernel_rfl))
  f32 := Tryz.func130.trans (congrArg some (by kernel_rfl))
  f36 := ⟨Tryz.f128.name, by decide, Tryz.func128.trans (congrArg some (by kernel_rfl))⟩
  f37 := ⟨Tryz.f131.name, by decide, Tryz.func131.trans (congrArg some (by kernel_rfl))⟩
  f38 := ⟨Tryz.f132.name, by decide, Tryz.func132.trans (congrArg some (by kernel_rfl))⟩
  f39 := ⟨Tryz.f99.name, by decide, Tryz.func99.trans (congrArg some (by kernel_rfl))⟩
  f41 := ⟨Tryz.f136.name, by decide, Tryz.func136.trans (congrArg some (by kernel_rfl))⟩
  t0 := Tryz.underlying0
  a0 := Tryz.isAgg0
  z0 := Tryz.sizeOf0
  v0 := Tryz.zeroValue0
  t3 := Tryz.underlying3
  a3 := Tryz.isAgg3
  z3 := Tryz.sizeOf3
  v3 := Tryz.zeroValue3
  t4 := Tryz.underlying4
  a4 := Tryz.isAgg4
  z4 := Tryz.sizeOf4
  v4 := Tryz.zeroValue4
  t5 := Tryz.underlying5
  a5 := Tryz.isAgg5
  z5 := Tryz.sizeOf5
  v5 := Tryz.zeroValue5
  t9 := Tryz.underlying9
  a9 := Tryz.isAgg9
  z9 := Tryz.sizeOf9
  v9 := Tryz.zeroValue9
  t26 := Tryz.underlying27
  a26 := Tryz.isAgg27
  z26 := Tryz.sizeOf27
  v26 := Tryz.zeroValue27
  t27 := Tryz.underlying27
  a27 := Tryz.isAgg27
  z27 := Tryz.sizeOf27
  v27 := Tryz.zeroValue27
  t29 := Tryz.underlying9
  a29 := Tryz.isAgg9
  z29 := Tryz.sizeOf9
  v29 := Tryz.zeroValue9
  t32 := Tryz.underlying126
  a32 := Tryz.isAgg126
  z32 := Tryz.sizeOf126
  v32 := Tryz.zeroValue126
  t35 := Tryz.underlying152
  a35 := Tryz.isAgg152
  z35 := Tryz.sizeOf152
  v35 := Tryz.zeroValue152
  t36 := Tryz.underlying153
  a36 := Tryz.isAgg153
  z36 := Tryz.sizeOf153
  v36 := Tryz.zeroValue153
  t41 := Tryz.underlying103
  a41 := Tryz.isAgg103
  z41 := Tryz.sizeOf103
  v41 := Tryz.zeroValue103
  t44 := Tryz.underlying159
  a44 := Tryz.isAgg159
  z44 := Tryz.sizeOf159
  v44 := Tryz.zeroValue159
  t46 := Tryz.underlying29
  a46 := Tryz.isAgg29
  z46 := Tryz.sizeOf29
  v46 := Tryz.zeroValue29
  t53 := Tryz.underlying172
  a53 := Tryz.isAgg172
  z53 := Tryz.sizeOf172
  v53 := Tryz.zeroValue172
  t57 := Tryz.underlying175
  a57 := Tryz.isAgg175
  z57 := Tryz.sizeOf175
  v57 := Tryz.zeroValue175
  t63 := Tryz.underlying181
  a63 := Tryz.isAgg181
  z63 := Tryz.sizeOf181
  v63 := Tryz.zeroValue181
  t64 := Tryz.underlying161
  a64 := Tryz.isAgg161
  z64 := Tryz.sizeOf161
  v64 := Tryz.zeroValue161 }
open Go.RowKit Go.Sort in
/-- .. and plain. (LAID AT THE INSTANCE 'slices.Sort[[]string,string]': no walk: one application.) -/
theorem Tryz.slices_Sort_string_none (p : Option Addr) (cap : Nat) (w : World) :
    Calls Tryz.prog 90 #[.slice p 0 cap] w fun e w' => e = .returned (.tuple #[]) ∧ w' = w := AnyM.slices_Sort_string_none Tryz.laysSlM6_f90 p cap w
end Go.Proofs

/- A Builder of strings: a byte written; its text. -/
namespace Go.Proofs.YtkobpamlmfpidaaGreatDoor.Sx
open Go
attribute [local irreducible] Calls

theorem Mem.none (w : World) : Mem w [] := ⟨fun _ q => (by cases q), fun _ q => (by cases q), List.Pairwise.nil⟩
end Go.Proofs.YtkobpamlmfpidaaGreatDoor.Sx

/- Boxes, plainly: terms and their prints, handles. -/
namespace Go.Proofs.YtkobpamlmfpidaaGreatDoor.Bx

structure Term where
  kind : Nat
  key : List UInt8
  text : List UInt8
  rounds : Nat
  list : List Nat
  mask : List UInt8

/-! ### prints -/
def vint (n : Nat) : List UInt8 := if h : n < 128 then [UInt8.ofNat n] else UInt8.ofNat (n % 128 + 128) :: vint (n / 128)
termination_by n
decreasing_by omega
def print (t : Term) : List UInt8 := [t.kind, t.rounds, t.key.length, t.text.length, t.list.length].flatMap vint ++ t.list.flatMap vint ++ (t.key ++ t.text ++ t.mask)
/-! ### handles -/
def front : List UInt8 := [0xf1, 84, 82, 77] ++ List.replicate 24 0
def be4 (n : Nat) : List UInt8 := [UInt8.ofNat (n / 16777216), UInt8.ofNat (n / 65536), UInt8.ofNat (n / 256), UInt8.ofNat n]
def handle (n : Nat) : List UInt8 := front ++ be4 n
def num : List UInt8 → Nat := List.foldl (fun n b => n * 256 + b.toNat) 0
/-- The number of what looks like a handle. -/
def looks (p : List UInt8) : Option Nat := if p.length = 32 ∧ p.take 28 = front then some (num (p.drop 28)) else none
/-! ### boxes -/
open Classical in
/-- Where a term stands. -/
noncomputable def place (t : Term) : List Term → Option Nat
  | [] => none
  | x :: r => if x = t then some 0 else (place t r).map (· + 1)
structure Box where
  sym : Bool
  full : Bool
  L : List Term
def noughts : List UInt8 := List.replicate 32 0
open Classical in
/-- A term's handle; the box behind it. -/
noncomputable def Box.tag (b : Box) (t : Term) : List UInt8 × Box := match place t b.L with
  | some i => (handle (i + 1), b)
  | none => if 4096 ≤ b.L.length then (noughts, { b with full := true }) else (handle (b.L.length + 1), { b with L := b.L ++ [t] })

/-! ### tags turned -/
/-- A tag as numbers and a mask. -/
def Box.opens (b : Box) (tag : List UInt8) : Option (List Nat × List UInt8) :=
  if tag.length = 32 then
    if b.sym = true ∧ tag.take 28 = front then
      if num (tag.drop 28) < 1 ∨ b.L.length < num (tag.drop 28) then none
      else match b.L[num (tag.drop 28) - 1]? with
        | some t => if t.kind = 4 then some (t.list, t.mask) else some ([num (tag.drop 28)], noughts)
        | none => none
    else some ([], tag)
  else none
end Go.Proofs.YtkobpamlmfpidaaGreatDoor.Bx

/- Handles: how they begin, what they are. -/
namespace Go.Proofs.YtkobpamlmfpidaaGreatDoor.Sx
open Go
attribute [local irreducible] Calls

theorem wrap_u8b (x : Nat) : IntKind.u8.wrap (x : Int) = ((UInt8.ofNat x).toNat : Int) := by
  rw [wrap_u8, UInt8.toNat_ofNat']
  omega
theorem shr_nat (n k : Nat) : (n : Int).fdiv (2 ^ k) = ((n / 2 ^ k : Nat) : Int) := by
  have : (2 ^ k : Int) = ((2 ^ k : Nat) : Int) := by push_cast; rfl
  rw [this, Int.fdiv_eq_ediv_of_nonneg _ (Int.natCast_nonneg _)]
  exact (Int.natCast_ediv _ _).symm
end Go.Proofs.YtkobpamlmfpidaaGreatDoor.Sx

/- Bytes as digits. -/
namespace Go.Proofs.YtkobpamlmfpidaaGreatDoor.Sx
open Go
attribute [local irreducible] Calls

end Go.Proofs.YtkobpamlmfpidaaGreatDoor.Sx

/- The words' own functions. -/
namespace Go.Proofs.YtkobpamlmfpidaaGreatDoor.Sx
open Go Sha
attribute [local irreducible] Calls

end Go.Proofs.YtkobpamlmfpidaaGreatDoor.Sx

/- A block's words. -/
namespace Go.Proofs.YtkobpamlmfpidaaGreatDoor.Sx
open Go Sha
attribute [local irreducible] Calls

def sl32 (x : UInt32) : SL := .v (u32 x)
def arr (n : Nat) (ws : List UInt32) : List SL := (ws ++ List.replicate (n - ws.length) 0).map sl32
end Go.Proofs.YtkobpamlmfpidaaGreatDoor.Sx

/- A block's step. -/
namespace Go.Proofs.YtkobpamlmfpidaaGreatDoor.Sx
open Go Sha
attribute [local irreducible] Calls

end Go.Proofs.YtkobpamlmfpidaaGreatDoor.Sx

/- A state's bytes; a number's; what stands behind a text. -/
namespace Go.Proofs.YtkobpamlmfpidaaGreatDoor.Sx
open Go Sha
attribute [local irreducible] Calls

theorem wrap_u64' (x : Int) : IntKind.u64.wrap x = x % 18446744073709551616 := by simp [IntKind.wrap, IntKind.bits, IntKind.signed]
end Go.Proofs.YtkobpamlmfpidaaGreatDoor.Sx

/- A text's blocks. -/
namespace Go.Proofs.YtkobpamlmfpidaaGreatDoor.Sx
open Go Sha
attribute [local irreducible] Calls

theorem clone_c (w : World) (A : Option Addr) (l : List UInt8) (c : Nat) (hr : Bs w A l) (hn : l.length ≤ 140737488355328) :
    Con Tryz.prog n_bytes_Clone #[.slice A l.length c] w [] fun v Fs => ∃ A' c', v = .slice A' l.length c' ∧ l.length ≤ c' ∧ c' ≤ maxLen ∧ Fs = [browF ty_uint8 A' l c'] := by
  refine con_of_sx (cx := cx_bytes_Clone w (Un [])) (good_bytes_Clone w (Un [])) b_bytes_Clone rfl rfl (β := Va.z) [.c (.v (.slice A l.length c))] 0 [] [bsF A l] rfl rfl ((Sat.start rfl).rd (fun _ h => by cases h) hr) ?_
  refine BIf.mk (fun h => ?_) (fun h => ?_)
  · intro β w' hs
    have hA : A = none := by simpa using h
    subst hA
    have hl : l = [] := by
      cases l with
      | nil => rfl
      | cons x r => obtain ⟨ad, q⟩ := Bs.addr hr (by simp); cases q
    subst hl
    exact (hs.nilRow ty_uint8 1).fin [0] ⟨none, 0, rfl, Nat.le_refl _, Nat.zero_le _, rfl⟩
  intro b
  refine ⟨0, 0, l.length, [], l.map byte, _, rfl, fun β w hs => hs.get 1 rfl, bytes_one l, Nat.zero_add _, rfl, by rw [maxLen_eq]; omega, by show l.length * 1 ≤ _; omega, ?_⟩
  intro A' c' h1 h2 h3 β w' hs
  exact hs.fin [0] ⟨A', c', rfl, h1, h2, rfl⟩

def blk (q : List UInt8) (i : Nat) : List UInt8 := (q.drop (64 * i)).take 64
end Go.Proofs.YtkobpamlmfpidaaGreatDoor.Sx

/- The sum of a text. -/
namespace Go.Proofs.YtkobpamlmfpidaaGreatDoor.Sx
open Go Sha
attribute [local irreducible] Calls

end Go.Proofs.YtkobpamlmfpidaaGreatDoor.Sx

/- The document's words for sums. -/
namespace Go.Proofs.YtkobpamlmfpidaaGreatDoor.Sx
open Go Sha
attribute [local irreducible] Calls

theorem be4 (x : UInt32) : be 4 x.toNat = b4 x := by
  have hx := x.toNat_lt
  simp only [be, b4, List.nil_append, List.cons_append]
  have e : ∀ n, n < 256 → ∀ y : UInt8, y.toNat = n → UInt8.ofNat n = y := fun n _ y h => by rw [← h, UInt8.ofNat_toNat]
  have h1 : ∀ k : Nat, k < 32 → (x >>> UInt32.ofNat k).toNat = x.toNat / 2 ^ k := fun k hk => by
    rw [UInt32.toNat_shiftRight, UInt32.toNat_ofNat', Nat.mod_eq_of_lt (show k < 2 ^ 32 by omega), Nat.mod_eq_of_lt hk, Nat.shiftRight_eq_div_pow]
  congr 1
  · exact e _ (by omega) _ (by rw [UInt32.toNat_toUInt8, show (24 : UInt32) = UInt32.ofNat 24 from rfl, h1 24 (by omega)] <;> omega)
  congr 1
  · exact e _ (by omega) _ (by rw [UInt32.toNat_toUInt8, show (16 : UInt32) = UInt32.ofNat 16 from rfl, h1 16 (by omega)] <;> omega)
  congr 1
  · exact e _ (by omega) _ (by rw [UInt32.toNat_toUInt8, show (8 : UInt32) = UInt32.ofNat 8 from rfl, h1 8 (by omega)] <;> omega)
  congr 1
  exact e _ (by omega) _ (by rw [UInt32.toNat_toUInt8])
end Go.Proofs.YtkobpamlmfpidaaGreatDoor.Sx

/- The document's step. -/
namespace Go.Proofs.YtkobpamlmfpidaaGreatDoor.Sx
open Go Sha
attribute [local irreducible] Calls

end Go.Proofs.YtkobpamlmfpidaaGreatDoor.Sx

/- The document's sum. -/
namespace Go.Proofs.YtkobpamlmfpidaaGreatDoor.Sx
open Go Sha
attribute [local irreducible] Calls

end Go.Proofs.YtkobpamlmfpidaaGreatDoor.Sx

/- Texts as bytes. -/
namespace Go.Proofs.YtkobpamlmfpidaaGreatDoor.Sx
open Go Sha
attribute [local irreducible] Calls

end Go.Proofs.YtkobpamlmfpidaaGreatDoor.Sx

/- Secrets compared; texts cut; bytes compared. -/
namespace Go.Proofs.YtkobpamlmfpidaaGreatDoor.Sx
open Go Sha
attribute [local irreducible] Calls

theorem cutText_c (w : World) (s : ByteArray) (k : Nat) (hs : s.size ≤ maxLen) (hk : k ≤ 1000) : Pu Tryz.prog n_ostiaryref01_CutText #[.string s, .int .i64 k] w (.string (s.extract 0 (min s.size k))) := by
  refine pu_of (calls_of_sx (cx := cx_ostiaryref01_CutText w None_) (good_ostiaryref01_CutText w None_) b_ostiaryref01_CutText rfl rfl (β := Va.z) [.c (.v (.string s)), .c (.v (.int .i64 k))] 0 [] [] rfl rfl (Sat.start rfl) ?_)
  refine ⟨((min s.size k : Nat) : Int), by dsimp only; omega, ?_⟩
  refine ⟨min s.size k, 0, rfl, rfl, by omega, Nat.zero_le _, ?_⟩
  intro β w' hs
  exact ⟨rfl, hs.chg⟩

/-- A secret as it lies in memory. -/
structure SecA where
  A0 : Option Addr
  A1 : Option Addr
  A2 : Option Addr
  A3 : Option Addr
  c0 : Nat
  c1 : Nat
  c2 : Nat
  c3 : Nat
  s0 : List UInt8
  s1 : List UInt8
  s2 : List UInt8
  s3 : List UInt8
  it : Int
def SecA.val (x : SecA) : Value := .agg #[.slice x.A0 x.s0.length x.c0, .int .i64 x.it, .slice x.A1 x.s1.length x.c1, .slice x.A2 x.s2.length x.c2, .slice x.A3 x.s3.length x.c3]
def SecA.cells (x : SecA) : List SL := [.v (.slice x.A0 x.s0.length x.c0), .v (.int .i64 x.it), .v (.slice x.A1 x.s1.length x.c1), .v (.slice x.A2 x.s2.length x.c2), .v (.slice x.A3 x.s3.length x.c3)]
structure SecA.Rd (x : SecA) (w : World) : Prop where
  h0 : Bs w x.A0 x.s0
  h1 : Bs w x.A1 x.s1
  h2 : Bs w x.A2 x.s2
  h3 : Bs w x.A3 x.s3

end Go.Proofs.YtkobpamlmfpidaaGreatDoor.Sx

/- Bytes compared without haste. -/
namespace Go.Proofs.YtkobpamlmfpidaaGreatDoor.Sx
open Go Sha
attribute [local irreducible] Calls

theorem ofInt8 (a : UInt8) : BitVec.ofInt 8 (a.toNat : Int) = a.toBitVec := by
  apply BitVec.eq_of_toNat_eq
  rw [BitVec.toNat_ofInt]
  have := a.toNat_lt
  have e : a.toBitVec.toNat = a.toNat := rfl
  rw [e]
  omega
theorem back8 (x : BitVec 8) : IntKind.u8.wrap (x.toNat : Int) = ((UInt8.ofBitVec x).toNat : Int) := by
  rw [wrap_u8]
  have := x.isLt
  have e : (UInt8.ofBitVec x).toNat = x.toNat := rfl
  rw [e]
  omega
theorem or8 (a b : UInt8) : bits .or .u8 (a.toNat : Int) (b.toNat : Int) = ((a ||| b).toNat : Int) := by
  show IntKind.u8.wrap (((BitVec.ofInt 8 (a.toNat : Int)) ||| (BitVec.ofInt 8 (b.toNat : Int))).toNat : Int) = _
  rw [ofInt8, ofInt8, back8]
  rfl

end Go.Proofs.YtkobpamlmfpidaaGreatDoor.Sx

/- Signs: the program's decoding. -/
namespace Go.Proofs.YtkobpamlmfpidaaGreatDoor.Sx
open Go
attribute [local irreducible] Calls

theorem and8 (a b : UInt8) : bits .and .u8 (a.toNat : Int) (b.toNat : Int) = ((a &&& b).toNat : Int) := by
  show IntKind.u8.wrap (((BitVec.ofInt 8 (a.toNat : Int)) &&& (BitVec.ofInt 8 (b.toNat : Int))).toNat : Int) = _
  rw [ofInt8, ofInt8, back8]
  rfl
theorem andNot8 (a b : UInt8) : bits .andNot .u8 (a.toNat : Int) (b.toNat : Int) = ((a &&& ~~~b).toNat : Int) := by
  show IntKind.u8.wrap (((BitVec.ofInt 8 (a.toNat : Int)) &&& ~~~(BitVec.ofInt 8 (b.toNat : Int))).toNat : Int) = _
  rw [ofInt8, ofInt8, back8]
  rfl
theorem wrap_i32 {x : Int} (h1 : -2147483648 ≤ x) (h2 : x ≤ 2147483647) : IntKind.i32.wrap x = x := by
  simp only [IntKind.wrap, IntKind.bits, IntKind.signed]
  simp
  omega
theorem cont_eq (b : UInt8) : ((b &&& ~~~63).toNat : Int) = 128 ↔ b.toNat / 64 = 2 := by
  have h : ∀ n : _root_.Fin 256, (((UInt8.ofNat n.1) &&& ~~~63).toNat = 128 ↔ (UInt8.ofNat n.1).toNat / 64 = 2) := by decide +kernel
  have h2 : (b &&& ~~~63).toNat = 128 ↔ b.toNat / 64 = 2 := Nam.u8_all (p := fun b => (b &&& ~~~63).toNat = 128 ↔ b.toNat / 64 = 2) h b
  omega
theorem low_eq (b : UInt8) : (b &&& 63).toNat = b.toNat % 64 := by
  have h : ∀ n : _root_.Fin 256, ((UInt8.ofNat n.1) &&& 63).toNat = (UInt8.ofNat n.1).toNat % 64 := by decide +kernel
  exact Nam.u8_all (p := fun b => (b &&& 63).toNat = b.toNat % 64) h b
theorem shl6_i32 {x : Nat} (hx : x < 33554432) : IntKind.i32.wrap ((x : Int) * 2 ^ (min (6 : Int).toNat IntKind.i32.bits)) = ((x * 64 : Nat) : Int) := by
  have h1 : min (6 : Int).toNat IntKind.i32.bits = 6 := rfl
  rw [h1, wrap_i32 (by omega) (by omega)]
  omega
theorem or6_i32 {x y : Nat} (hx : x < 33554432) (hy : y < 64) : bits .or .i32 ((x * 64 : Nat) : Int) (y : Int) = ((x * 64 + y : Nat) : Int) := by
  show IntKind.i32.wrap (((BitVec.ofInt 32 ((x * 64 : Nat) : Int)) ||| (BitVec.ofInt 32 (y : Int))).toNat : Int) = _
  have h1 : (BitVec.ofInt 32 ((x * 64 : Nat) : Int)).toNat = x <<< 6 := by
    rw [BitVec.toNat_ofInt, Nat.shiftLeft_eq]
    omega
  have h2 : (BitVec.ofInt 32 (y : Int)).toNat = y := by
    rw [BitVec.toNat_ofInt]
    omega
  rw [BitVec.toNat_or, h1, h2, ← Nat.shiftLeft_add_eq_or_of_lt (by omega) x, Nat.shiftLeft_eq, wrap_i32 (by omega) (by omega)]
theorem sign_c (w : World) (z : Int) (r : Nat) (hz : z = (r : Int)) : Pu Tryz.prog n_name_sign #[.int .i32 z] w (.bool (Nam.sign r)) := by
  refine con_of_sx (cx := cx_name_sign w (Un [])) (good_name_sign w (Un [])) b_name_sign rfl rfl (β := Va.z) [.c (.v (.int .i32 z))] 0 [] [] rfl rfl (Sat.start rfl) ?_
  have fin : ∀ (b : Bool), b = Nam.sign r → ∀ {n : Nat} {H : List Bk} {F : List Fact} (β : Va) (w' : World), Sat (cx_name_sign w (Un [])) β n H F w' → Fin w [] (fun u Fs => u = .bool (Nam.sign r) ∧ Fs = []) (.bool b) w' := by
    rintro b rfl n H F β w' hs
    exact (hs.keepB (List.nil_sublist _)).fin [] ⟨rfl, rfl⟩
  refine BIf.dec (fun h0 => ?_) (fun h0 => ?_)
  · refine BIf.dec (fun h1 => ?_) (fun h1 => ?_)
    · have h1' : z ≤ 1114111 := h1
      refine BIf.dec (fun h2 => ?_) (fun h2 => ?_)
      · have h2' : z < 55296 := h2
        refine fin true ?_
        unfold Nam.sign
        rw [decide_eq_true (by omega : r ≤ 1114111), decide_eq_true (by omega : r < 55296)]; rfl
      · have h2' : ¬ z < 55296 := h2
        refine fin (decide ((57343 : Int) < z)) ?_
        unfold Nam.sign
        rw [decide_eq_true (by omega : r ≤ 1114111), decide_eq_false (by omega : ¬ r < 55296), Bool.true_and, Bool.false_or]
        exact decide_eq_decide.2 (by omega)
    · have h1' : ¬ z ≤ 1114111 := h1
      refine fin false ?_
      unfold Nam.sign
      rw [decide_eq_false (by omega : ¬ r ≤ 1114111)]; rfl
  · have h0' : ¬ (0 : Int) ≤ z := h0
    omega
end Go.Proofs.YtkobpamlmfpidaaGreatDoor.Sx

/- Signs: decoded. -/
namespace Go.Proofs.YtkobpamlmfpidaaGreatDoor.Sx
open Go
attribute [local irreducible] Calls

def formV (f : Nam.Fm) : List Value := [.int .i64 (f.size : Int), byte f.mask, byte f.lead, .int .i32 (f.least : Int)]
def formCells : List Value := Nam.fms.flatMap formV
/-- The table of forms. -/
def Forms (g : Nat) (w : World) : Prop := Rd 16 (some ⟨g, 0, none⟩) 1 formCells w
theorem Forms.old {g : Nat} {W w : World} (h : Forms g W) (ho : (oldF W).p w) : Forms g w := Rd.old h ho
def runeI : Option Nat → Int
  | some r => (r : Int)
  | none => -1
theorem form_at : ∀ {i : Nat} {f : Nam.Fm}, Nam.fms[i]? = some f → ((formCells.map SL.v).drop (i * 4)).take 4 = (formV f).map SL.v
  | 0, f, h => by cases h; rfl
  | 1, f, h => by cases h; rfl
  | 2, f, h => by cases h; rfl
  | 3, f, h => by cases h; rfl
  | n + 4, f, h => by simp [Nam.fms] at h
theorem tailR_snoc (b : UInt8) : ∀ (l : List UInt8) (r : Nat), Nam.tailR (l ++ [b]) r = match Nam.tailR l r with
    | some q => if b.toNat / 64 = 2 then some (q * 64 + b.toNat % 64) else none
    | none => none
  | [], r => rfl
  | x :: t, r => by
    simp only [List.cons_append, Nam.tailR]
    split
    · exact tailR_snoc b t _
    · rfl
theorem form_size {f : Nam.Fm} (h : f ∈ Nam.fms) : 1 ≤ f.size ∧ f.size ≤ 4 ∧ f.least ≤ 65536 := by
  simp only [Nam.fms, List.mem_cons, List.not_mem_nil, or_false] at h
  rcases h with rfl | rfl | rfl | rfl <;> decide
theorem decode_c (w : World) (s : ByteArray) (b0 : UInt8) (t : List UInt8) (hs0 : s.data.toList = b0 :: t) (hsz : s.size ≤ maxLen) (hf : Forms 3 w) :
    Pu Tryz.prog n_name_decode #[.string s] w (.tuple #[.int .i32 (runeI (Nam.decL (b0 :: t)).1), .int .i64 ((Nam.decL (b0 :: t)).2 : Int)]) := by
  have g := good_name_decode w (Un [])
  have hlen : s.size = (b0 :: t).length := by rw [← hs0]; rfl
  have hml := maxLen_eq
  refine con_of_sx (cx := cx_name_decode w (Un [])) g b_name_decode rfl rfl (β := Va.z) [.c (.v (.string s))] 0 [] [oldF w] rfl rfl (old_sat rfl) ?_
  refine ⟨formCells, rfl, fun β w' hs => ?_, ?_⟩
  · intro j u hu
    obtain ⟨ad, q, hc⟩ := (Forms.old hf (hs.get 0 rfl)).2 (by decide)
    cases q
    exact hc j u hu
  have bad : Nam.decL (b0 :: t) = (none, 1) → ∀ {n : Nat} {H : List Bk} {F : List Fact} (β : Va) (w' : World), Sat (cx_name_decode w (Un [])) β n H F w' → Fin w [] (fun u Fs => u = .tuple #[.int .i32 (runeI (Nam.decL (b0 :: t)).1), .int .i64 ((Nam.decL (b0 :: t)).2 : Int)] ∧ Fs = []) (.tuple #[.int .i32 (-1), .int .i64 1]) w' := by
    intro h n H F β w' hs
    rw [h]
    exact (hs.keepB (List.nil_sublist _)).fin [] ⟨rfl, rfl⟩
  refine loop_rule 0 (fun i : Nat => [(0, .c (.v (.string s))), (8, .agg (formCells.map SL.v)), (9, .c (.v (.int .i64 (i : Int))))]) (fun _ => []) (fun _ => [oldF w])
    (fun i => i ≤ 4 ∧ ∀ f ∈ Nam.fms.take i, Nam.fits f (b0 :: t) = false) (fun i => 4 - i) 0 ⟨Nat.zero_le _, fun f h => by cases h⟩ (Ent.same ⟨rfl, rfl, rfl, trivial⟩ rfl) g ?_
  rintro i ⟨hi, hno⟩
  have next : ∀ {f : Nam.Fm}, Nam.fms[i]? = some f → Nam.fits f (b0 :: t) = false → ∀ f ∈ Nam.fms.take (i + 1), Nam.fits f (b0 :: t) = false := by
    intro f hfi hff f' hf'
    rw [List.take_add_one, hfi] at hf'
    rcases List.mem_append.1 hf' with q | q
    · exact hno f' q
    · obtain rfl : f' = f := by simpa using q
      exact hff
  refine BIf.dec (fun hlt => ?_) (fun hge => ?_)
  · have hlt0 : (i : Int) < 4 := hlt
    have hi4 : i < Nam.fms.length := by show i < 4; omega
    obtain ⟨f, hfi, hfm⟩ := at_lt hi4
    have hfs := form_size hfm
    refine ⟨i, (formV f).map SL.v, rfl, by omega, form_at hfi, ?_⟩
    have hS : ∀ {n : Nat} {F : List Fact}, Sub (cx_name_decode w (Un [])) n [⟨0, ty_name_form, (formV f).map SL.v⟩] F [⟨0, ty_name_form, (formV f).map SL.v⟩] [] := fun {n F} => Sub.of (List.Sublist.refl _) (List.nil_sublist _)
    have hb0 : s.data.toList[0]? = some b0 := by rw [hs0]; rfl
    refine draw_rule g p_name_decode_4 (by kernel_rfl) [⟨0, ty_name_form, (formV f).map SL.v⟩] [] hS ?_
    refine ⟨0, b0, rfl, hb0, ?_⟩
    refine ⟨_, and8 b0 f.mask, ?_⟩
    refine BIf.not (BIf.dec (fun hm => ?_) (fun hm => ?_))
    · have hm1 : ((b0 &&& f.mask).toNat : Int) = (f.lead.toNat : Int) := hm
      have hm2 : b0 &&& f.mask = f.lead := UInt8.toNat_inj.1 (by omega)
      refine BIf.dec (fun hsh => ?_) (fun hsh => ?_)
      · have hsh1 : (s.size : Int) < (f.size : Int) := hsh
        have hff : Nam.fits f (b0 :: t) = false := by
          simp only [Nam.fits, hm2, decide_true, Bool.true_and]
          exact decide_eq_false (by omega)
        refine ⟨((i + 1 : Nat) : Int), by rw [wrap_i64 (by omega) (by omega)]; rfl, ?_⟩
        exact ⟨i + 1, ⟨by omega, next hfi hff⟩, by omega, Ent.mk' ⟨rfl, rfl, rfl, trivial⟩ rfl (fun β w hs => (hs.keepB (List.nil_sublist _)).lower)⟩
      · have hsh1 : ¬ (s.size : Int) < (f.size : Int) := hsh
        have hfl : f.size ≤ (b0 :: t).length := by omega
        have hdec : Nam.decL (b0 :: t) = match Nam.tryF f (b0 :: t) with | some r => (some r, f.size) | none => (none, 1) := by
          unfold Nam.decL
          rw [Nam.find_form hfm hm2, if_pos hfl]
          try rfl
        refine draw_rule g p_name_decode_5 (by kernel_rfl) [⟨0, ty_name_form, (formV f).map SL.v⟩] [] hS ?_
        refine ⟨0, b0, rfl, hb0, ?_⟩
        refine ⟨_, andNot8 b0 f.mask, ?_⟩
        obtain ⟨r0, hr0⟩ : ∃ r0, (b0 &&& ~~~f.mask).toNat = r0 := ⟨_, rfl⟩
        have hr0l : r0 < 256 := by rw [← hr0]; exact UInt8.toNat_lt _
        refine ⟨(r0 : Int), by rw [hr0]; exact wrap_i32 (by omega) (by omega), ?_⟩
        have hbad : Nam.tryF f (b0 :: t) = none → Nam.decL (b0 :: t) = (none, 1) := fun h => by rw [hdec, h]
        refine loop_rule (ι := Nat × Nat) 1 (fun q => [(0, .c (.v (.string s))), (5, .c (.p 0 0)), (6, .c (.v (.int .i32 (q.2 : Int)))), (7, .c (.v (.int .i64 (q.1 : Int))))]) (fun _ => [⟨0, ty_name_form, (formV f).map SL.v⟩]) (fun _ => [oldF w])
          (fun q => 1 ≤ q.1 ∧ q.1 ≤ f.size ∧ Nam.tailR (t.take (q.1 - 1)) r0 = some q.2 ∧ q.2 < 256 * 64 ^ (q.1 - 1)) (fun q => f.size - q.1) (1, r0) ⟨Nat.le_refl _, hfs.1, rfl, by simpa using hr0l⟩ (Ent.same ⟨rfl, rfl, rfl, rfl, trivial⟩ rfl) g ?_
        rintro ⟨k, r⟩ ⟨hk1, hk2, htl, hrb⟩
        simp only at hk1 hk2 htl hrb
        simp only
        refine BIf.dec (fun hks => ?_) (fun hks => ?_)
        · have hks1 : (k : Int) < (f.size : Int) := hks
          have hkt : k - 1 < t.length := by simp only [List.length_cons] at hfl; omega
          obtain ⟨c, hc, _⟩ := at_lt hkt
          have hcs : s.data.toList[k]? = some c := by
            rw [hs0]
            obtain ⟨k', rfl⟩ : ∃ k', k = k' + 1 := ⟨k - 1, by omega⟩
            simpa using hc
          have hsn : t.take k = t.take (k - 1) ++ [c] := by
            have := List.take_add_one (l := t) (i := k - 1)
            rw [hc, Nat.sub_add_cancel hk1] at this
            exact this
          have hrb2 : r < 33554432 := by
            have : 64 ^ (k - 1) ≤ 64 ^ 2 := Nat.pow_le_pow_right (by decide) (by omega)
            omega
          refine ⟨k, c, rfl, hcs, ?_⟩
          refine ⟨_, andNot8 c 63, ?_⟩
          refine BIf.not (BIf.dec (fun hct => ?_) (fun hct => ?_))
          · have hcc : c.toNat / 64 = 2 := (cont_eq c).1 hct
            refine ⟨by decide, _, shl6_i32 hrb2, ?_⟩
            refine ⟨k, c, rfl, hcs, ?_⟩
            refine ⟨_, and8 c 63, ?_⟩
            refine ⟨((c.toNat % 64 : Nat) : Int), by rw [low_eq]; exact wrap_i32 (by omega) (by omega), ?_⟩
            refine ⟨_, or6_i32 hrb2 (Nat.mod_lt _ (by decide)), ?_⟩
            refine ⟨((k + 1 : Nat) : Int), by rw [wrap_i64 (by omega) (by omega)]; rfl, ?_⟩
            refine ⟨(k + 1, r * 64 + c.toNat % 64), ⟨by show 1 ≤ k + 1; omega, by show k + 1 ≤ f.size; omega, ?_, ?_⟩, by show f.size - (k + 1) < f.size - k; omega, Ent.same ⟨rfl, rfl, rfl, rfl, trivial⟩ rfl⟩
            · show Nam.tailR (t.take (k + 1 - 1)) r0 = some (r * 64 + c.toNat % 64)
              rw [Nat.add_sub_cancel, hsn, tailR_snoc, htl]
              simp only
              rw [if_pos hcc]
            · show r * 64 + c.toNat % 64 < 256 * 64 ^ (k + 1 - 1)
              obtain ⟨k', rfl⟩ : ∃ k', k = k' + 1 := ⟨k - 1, by omega⟩
              simp only [Nat.add_sub_cancel] at hrb ⊢
              rw [Nat.pow_succ]
              omega
          · have hcc : ¬ c.toNat / 64 = 2 := fun q => hct ((cont_eq c).2 q)
            exact bad (hbad (by
              simp only [Nam.tryF]
              rw [Nam.tailR_none]
              refine ⟨c, ?_, hcc⟩
              have h2 : c ∈ t.take k := by rw [hsn]; simp
              exact List.take_subset_take_left t (by omega) h2))
        · have hks1 : ¬ (k : Int) < (f.size : Int) := hks
          obtain rfl : k = f.size := by omega
          have hmid : Nam.tryF f (b0 :: t) = if f.least ≤ r ∧ Nam.sign r = true then some r else none := by
            simp only [Nam.tryF, hr0, htl]
          refine BIf.dec (fun hls => ?_) (fun hls => ?_)
          · have hls1 : (f.least : Int) ≤ (r : Int) := hls
            refine call_pu (fun β w' hs => sign_c w' (r : Int) r rfl) ?_
            cases hsg : Nam.sign r with
            | true =>
              rw [if_pos ⟨by omega, hsg⟩] at hmid
              rw [hmid] at hdec
              refine draw_rule g p_name_decode_12 (by kernel_rfl) [⟨0, ty_name_form, (formV f).map SL.v⟩] [] hS ?_
              intro β w' hs
              rw [hdec]
              exact (hs.keepB (List.nil_sublist _)).fin [] ⟨rfl, rfl⟩
            | false => exact bad (hbad (by rw [hmid, if_neg (fun q => by rw [hsg] at q; cases q.2)]))
          · have hls1 : ¬ (f.least : Int) ≤ (r : Int) := hls
            exact bad (hbad (by rw [hmid, if_neg (fun q => hls1 (by have := q.1; omega))]))
    · have hm1 : ¬ ((b0 &&& f.mask).toNat : Int) = (f.lead.toNat : Int) := hm
      have hff : Nam.fits f (b0 :: t) = false := by
        simp only [Nam.fits]
        rw [decide_eq_false (fun q => hm1 (by rw [q]))]
        rfl
      refine ⟨((i + 1 : Nat) : Int), by rw [wrap_i64 (by omega) (by omega)]; rfl, ?_⟩
      exact ⟨i + 1, ⟨by omega, next hfi hff⟩, by omega, Ent.mk' ⟨rfl, rfl, rfl, trivial⟩ rfl (fun β w hs => (hs.keepB (List.nil_sublist _)).lower)⟩
  · have hge0 : ¬ (i : Int) < 4 := hge
    have hi4 : i = 4 := by omega
    subst hi4
    refine bad ?_
    unfold Nam.decL
    rw [List.find?_eq_none.2 (fun f hf q => by rw [hno f hf] at q; cases q)]
end Go.Proofs.YtkobpamlmfpidaaGreatDoor.Sx

/- Signs: spans; the iterator of a text's signs; is it rightly written? -/
namespace Go.Proofs.YtkobpamlmfpidaaGreatDoor.Sx
open Go
attribute [local irreducible] Calls

abbrev Sp := Int × Int
def spanV (x : Sp) : List Value := [.int .i32 x.1, .int .i32 x.2]
def inSp (z : Int) (l : List Sp) : Bool := l.any fun p => decide (p.1 ≤ z) && decide (z ≤ p.2)
theorem within_c (w : World) (z : Int) (A : Option Addr) (l : List Sp) (c : Nat) (hr : Rd 2 A l.length (l.flatMap spanV) w) (hn : l.length ≤ 1000) :
    Pu Tryz.prog n_name_within #[.int .i32 z, .slice A l.length c] w (.bool (inSp z l)) := by
  have g := good_name_within w (Un [])
  refine con_of_sx (cx := cx_name_within w (Un [])) g b_name_within rfl rfl (β := Va.z) [.c (.v (.int .i32 z)), .c (.v (.slice A l.length c))] 0 [] [oldF w] rfl rfl (old_sat rfl) ?_
  refine loop_rule 0 (fun k : Nat => [(0, .c (.v (.int .i32 z))), (7, .c (.v (.slice A l.length c))), (8, .c (.v (.int .i64 l.length))), (9, .c (.v (.int .i64 (k : Int))))]) (fun _ => []) (fun _ => [oldF w])
    (fun k => k ≤ l.length ∧ inSp z (l.take k) = false) (fun k => l.length - k) 0 ⟨Nat.zero_le _, rfl⟩ (Ent.same ⟨rfl, rfl, rfl, rfl, trivial⟩ rfl) g ?_
  rintro k ⟨hk, hno⟩
  refine BIf.dec (fun hlt => ?_) (fun hge => ?_)
  · have hlt0 : (k : Int) < l.length := hlt
    have hkl : k < l.length := by omega
    obtain ⟨x, hx, hxm⟩ := at_lt hkl
    obtain ⟨ad, hA, _⟩ := hr.2 (by omega)
    have hsn : inSp z (l.take (k + 1)) = (decide (x.1 ≤ z) && decide (z ≤ x.2)) := by
      rw [List.take_add_one, hx]
      unfold inSp at hno ⊢
      rw [List.any_append, hno]
      simp
    have next : inSp z (l.take (k + 1)) = false → Ent (cx_name_within w (Un [])) 1 [(0, .c (.v (.int .i32 z))), (7, .c (.v (.slice A l.length c))), (8, .c (.v (.int .i64 l.length))), (9, .c (.v (.int .i64 ((k + 1 : Nat) : Int))))] [] [oldF w] 0 [(0, .c (.v (.int .i32 z))), (7, .c (.v (.slice A l.length c))), (8, .c (.v (.int .i64 l.length))), (9, .c (.v (.int .i64 ((k + 1 : Nat) : Int))))] [] [oldF w] := fun _ => Ent.mk' ⟨rfl, rfl, rfl, rfl, trivial⟩ rfl (fun β w hs => hs.lower)
    refine ⟨ad, k, hA, rfl, hkl, spanV x, rfl, fun β w' hs => ?_, ?_⟩
    · have h := Rd.old hr (hs.get 0 rfl)
      obtain ⟨hil, hie⟩ := List.getElem?_eq_some_iff.1 hx
      have h2 := Rd.elem (f := spanV) (fun _ => rfl) h hA hil
      rw [hie] at h2
      exact h2
    · refine BIf.dec (fun h1 => ?_) (fun h1 => ?_)
      · have h1' : x.1 ≤ z := h1
        refine BIf.dec (fun h2 => ?_) (fun h2 => ?_)
        · have h2' : z ≤ x.2 := h2
          intro β w' hs
          refine (hs.keepB (List.nil_sublist _)).fin [] ⟨?_, rfl⟩
          show Value.bool true = _
          congr 1
          refine (List.any_eq_true.2 ⟨x, hxm, ?_⟩).symm
          rw [decide_eq_true h1', decide_eq_true h2']
          rfl
        · have h2' : ¬ z ≤ x.2 := h2
          refine ⟨((k + 1 : Nat) : Int), by rw [wrap_i64 (by omega) (by omega)]; rfl, ?_⟩
          exact ⟨k + 1, ⟨hkl, by rw [hsn, decide_eq_false h2', Bool.and_false]⟩, by omega, Ent.mk' ⟨rfl, rfl, rfl, rfl, trivial⟩ rfl (fun β w hs => (hs.keepB (List.nil_sublist _)).lower)⟩
      · have h1' : ¬ x.1 ≤ z := h1
        refine ⟨((k + 1 : Nat) : Int), by rw [wrap_i64 (by omega) (by omega)]; rfl, ?_⟩
        exact ⟨k + 1, ⟨hkl, by rw [hsn, decide_eq_false h1', Bool.false_and]⟩, by omega, Ent.mk' ⟨rfl, rfl, rfl, rfl, trivial⟩ rfl (fun β w hs => (hs.keepB (List.nil_sublist _)).lower)⟩
  · have hge0 : ¬ (k : Int) < l.length := hge
    obtain rfl : k = l.length := by omega
    rw [List.take_length] at hno
    intro β w' hs
    refine hs.fin [] ⟨?_, rfl⟩
    rw [hno]
    rfl

/-! ### a text's signs, one by one -/
abbrev Rn := Nat × Int
/-- Where each sign stands, and which it is. -/
def runesAt (l : List UInt8) (i : Nat) : List Rn := if h : i < l.length then (i, runeI (Nam.decL (l.drop i)).1) :: runesAt l (i + max 1 (Nam.decL (l.drop i)).2) else []
termination_by l.length - i
decreasing_by omega
theorem runesAt_end {l : List UInt8} {i : Nat} (h : ¬ i < l.length) : runesAt l i = [] := by rw [runesAt, dif_neg h]
theorem drop_ne {l : List UInt8} {i : Nat} (h : i < l.length) : l.drop i ≠ [] := fun q => by
  have := congrArg List.length q
  rw [List.length_drop] at this
  simp at this
  omega
theorem runesAt_cons {l : List UInt8} {i : Nat} (h : i < l.length) : runesAt l i = (i, runeI (Nam.decL (l.drop i)).1) :: runesAt l (i + (Nam.decL (l.drop i)).2) := by
  have h1 := Nam.decL_size (drop_ne h)
  rw [runesAt, dif_pos h, Nat.max_eq_right h1.1]
theorem runesAt_vals (l : List UInt8) : ∀ (k i : Nat), l.length - i ≤ k → (runesAt l i).map (·.2) = (Nam.runes (l.drop i)).map runeI := by
  intro k
  induction k with
  | zero =>
    intro i h
    rw [runesAt_end (by omega), List.drop_eq_nil_of_le (by omega), Nam.runes_nil]
    rfl
  | succ k ih =>
    intro i h
    by_cases hi : i < l.length
    · have h1 := Nam.decL_size (drop_ne hi)
      rw [runesAt_cons hi, Nam.runes_cons (drop_ne hi), List.map_cons, List.map_cons, ih _ (by omega), List.drop_drop]
    · rw [runesAt_end hi, List.drop_eq_nil_of_le (by omega), Nam.runes_nil]
      rfl
def insR (t : List UInt8) (pre : List Rn) (x : Rn) (args : Array Value) (X : Fact) : Prop := args = #[.int .i64 (x.1 : Int), .int .i32 x.2] ∧ X = noF ∧ ∃ r, runesAt t 0 = pre ++ x :: r
def runesEnd (l : List UInt8) (J Jx : List Rn → Fact → Prop) (Fs : List Fact) : Prop :=
  ∃ f Fs', Fs = f :: Fs' ∧ ((∃ xs, J xs f ∧ xs = runesAt l 0 ∧ Fs' = []) ∨ (∃ pre, Jx pre f ∧ (∃ r, runesAt l 0 = pre ++ r) ∧ Fs' = []))
end Go.Proofs.YtkobpamlmfpidaaGreatDoor.Sx

/- Signs: the iterator of a text's signs; is it rightly written? -/
namespace Go.Proofs.YtkobpamlmfpidaaGreatDoor.Sx
open Go
attribute [local irreducible] Calls

def formF : Fact := rdF 16 (some ⟨3, 0, none⟩) 1 formCells
theorem extract_drop (s : ByteArray) (i : Nat) : (s.extract i s.size).data.toList = s.data.toList.drop i := by
  rw [ByteArray.data_extract, Array.toList_extract, List.extract_eq_take_drop]
  rw [List.take_of_length_le]
  rw [List.length_drop]
  exact Nat.le_refl _
theorem runes_it (l : Nat) (w : World) (bx : Nat) (s : ByteArray) (f0 R : Fact) (J Jx : List Rn → Fact → Prop) (hJ0 : J [] f0) (hJo : ∀ pre f, J pre f → f.own = true) (hRo : R.own = false) (hY : Yc Tryz.prog l J Jx R (insR s.data.toList))
    (hl : s.size ≤ 1000000) (hm : Mem w (f0 :: R :: [bkF bx ty_string [.string s], formF])) :
    Con Tryz.prog n_name_Runes_1 #[.func (.yield l) #[] #[], .pointer (some ⟨bx, 0, none⟩)] w [f0, bkF bx ty_string [.string s]] (fun _ Fs => runesEnd s.data.toList J Jx Fs) := by
  have g := good_name_Runes_1 w (Un [f0, bkF bx ty_string [.string s]]) [bx]
  have hs0 : Sat (cx_name_Runes_1 w (Un [f0, bkF bx ty_string [.string s]]) [bx]) (Va.of fun _ => bx) 1 [] (f0 :: R :: [bkF bx ty_string [.string s], formF]) w := by
    refine hm.sat rfl (fun f hf ho k hk => ?_) ⟨Nat.le_refl 1, fun i hi => by obtain rfl : i = 0 := Nat.lt_one_iff.1 hi; rfl⟩
    simp only [List.mem_cons, List.not_mem_nil, or_false] at hf
    rcases hf with rfl | rfl | rfl | rfl
    · exact ⟨_, by simp, hk⟩
    · rw [hRo] at ho; cases ho
    · exact ⟨_, by simp, hk⟩
    · cases ho
  have hs1 := hs0.toBk 2 rfl 0 Nat.zero_lt_one rfl
  have hlen : s.data.toList.length = s.size := rfl
  have hml := maxLen_eq
  refine con_of_sx (cx := cx_name_Runes_1 w (Un [f0, bkF bx ty_string [.string s]]) [bx]) g b_name_Runes_1 rfl rfl (β := Va.of fun _ => bx) [.c (.v (.func (.yield l) #[] #[])), .c (.p 0 0)] 1 _ _ rfl rfl hs1 ?_
  refine loop_rule (ι := List Rn × Nat × Fact) 1 (fun i => [(0, .c (.v (.func (.yield l) #[] #[]))), (1, .c (.p 0 0)), (3, .c (.v (.int .i64 (i.2.1 : Int))))]) (fun _ => [⟨0, ty_string, [.v (.string s)]⟩]) (fun i => [i.2.2, R, formF])
    (fun i => J i.1 i.2.2 ∧ runesAt s.data.toList 0 = i.1 ++ runesAt s.data.toList i.2.1 ∧ i.2.1 ≤ s.size) (fun i => s.size - i.2.1) ([], 0, f0) ⟨hJ0, rfl, Nat.zero_le _⟩ (Ent.same ⟨rfl, rfl, rfl, trivial⟩ rfl) g ?_
  rintro ⟨pre, i, f⟩ ⟨hJ, hsc, hi⟩
  simp only at hJ hsc hi
  have hfo := hJo _ _ hJ
  simp only
  refine BIf.dec (fun hlt => ?_) (fun hge => ?_)
  · have hlt0 : (i : Int) < s.size := hlt
    have hil : i < s.data.toList.length := by omega
    refine ⟨s.size, i, rfl, rfl, Nat.le_refl _, hi, ?_⟩
    have hd := Nam.decL_size (drop_ne hil)
    rw [List.length_drop] at hd
    rw [runesAt_cons hil] at hsc
    obtain ⟨b0, t, hbt⟩ : ∃ b0 t, s.data.toList.drop i = b0 :: t := by
      cases h : s.data.toList.drop i with
      | nil => exact absurd h (drop_ne hil)
      | cons b t => exact ⟨b, t, rfl⟩
    obtain ⟨o, n, hon⟩ : ∃ o n, Nam.decL (s.data.toList.drop i) = (o, n) := ⟨_, _, rfl⟩
    rw [hon] at hd hsc
    simp only at hd hsc
    refine call_pu (v := .tuple #[.int .i32 (runeI o), .int .i64 (n : Int)]) (fun β w' hs => by
      have h := decode_c w' (s.extract i s.size) b0 t (by rw [extract_drop, hbt]) (by rw [ByteArray.size_extract]; omega) (hs.get 2 rfl)
      rw [← hbt, hon] at h
      exact h) ?_
    refine yield_ro (X := noF) (x := (i, runeI o)) hY 0 1 rfl hJ hfo rfl hRo (by decide) (fun β => ⟨rfl, rfl, _, hsc⟩) rfl (fun β w _ => ⟨trivial, fun k hk => hk.elim, fun k _ h => h.elim⟩) ?_ ?_
    · intro f2 hfo2 hJ2
      refine ⟨((i + n : Nat) : Int), by rw [wrap_i64 (by omega) (by omega)]; rfl, ?_⟩
      exact ⟨(pre ++ [(i, runeI o)], i + n, f2), ⟨hJ2, by show runesAt s.data.toList 0 = pre ++ [(i, runeI o)] ++ runesAt s.data.toList (i + n); rw [hsc]; simp, by show i + n ≤ s.size; omega⟩, by show s.size - (i + n) < s.size - i; omega, Ent.same ⟨rfl, rfl, rfl, trivial⟩ rfl⟩
    · intro f2 hfo2 hJ2 β w' hs
      exact (hs.keepB (List.nil_sublist _)).fin [0] ⟨f2, [], rfl, .inr ⟨_, hJ2, ⟨runesAt s.data.toList (i + n), by rw [hsc]; simp⟩, rfl⟩⟩ rfl rfl rfl ⟨hfo2, trivial⟩
  · have hge0 : ¬ (i : Int) < s.size := hge
    rw [runesAt_end (l := s.data.toList) (i := i) (by omega), List.append_nil] at hsc
    intro β w' hs
    exact (hs.keepB (List.nil_sublist _)).fin [0] ⟨f, [], rfl, .inl ⟨pre, hJ, hsc.symm, rfl⟩⟩ rfl rfl rfl ⟨hfo, trivial⟩
theorem runes_c (w : World) (s : ByteArray) : Con Tryz.prog n_name_Runes #[.string s] w [] (fun v Fs => ∃ bx, v = .func (.func n_name_Runes_1) #[] #[.pointer (some ⟨bx, 0, none⟩)] ∧ Fs = [bkF bx ty_string [.string s]]) := by
  refine con_of_sx (cx := cx_name_Runes w (Un [])) (good_name_Runes w (Un [])) b_name_Runes rfl rfl (β := Va.z) [.c (.v (.string s))] 0 [] [] rfl rfl (Sat.start rfl) ?_
  intro β w' hs
  exact hs.ofBk.fin [0] ⟨β 0, rfl, rfl⟩
def validB (l : List UInt8) : Bool := (Nam.runes l).all Option.isSome
theorem runeI_none {o : Option Nat} : runeI o = -1 ↔ o = none := by
  cases o with
  | none => simp [runeI]
  | some r => simp only [runeI]; constructor
              · intro h; omega
              · intro h; cases h
theorem valid_iff (l : List UInt8) : validB l = true ↔ ∀ x ∈ runesAt l 0, x.2 ≠ -1 := by
  have h := runesAt_vals l _ 0 (Nat.le_refl _)
  rw [List.drop_zero] at h
  unfold validB
  rw [List.all_eq_true]
  constructor
  · intro hv x hx q
    have : x.2 ∈ (runesAt l 0).map (·.2) := List.mem_map.2 ⟨x, hx, rfl⟩
    rw [h] at this
    obtain ⟨o, ho, hq⟩ := List.mem_map.1 this
    have h2 := hv o ho
    rw [q] at hq
    rw [runeI_none.1 hq] at h2
    cases h2
  · intro hv o ho
    cases o with
    | some r => rfl
    | none =>
      have : runeI none ∈ (Nam.runes l).map runeI := List.mem_map.2 ⟨none, ho, rfl⟩
      rw [← h] at this
      obtain ⟨x, hx, hq⟩ := List.mem_map.1 this
      exact absurd hq (hv x hx)
theorem valid_c (w0 : World) (s : ByteArray) (hl : s.size ≤ 1000000) (hf : Forms 3 w0) : Pu Tryz.prog n_name_Valid #[.string s] w0 (.bool (validB s.data.toList)) := by
  have g := good_name_Valid w0 (Un [])
  refine con_of_sx (cx := cx_name_Valid w0 (Un [])) g b_name_Valid rfl rfl (β := Va.z) [.c (.v (.string s))] 0 [] [formF] rfl rfl ((Sat.start rfl).rd (fun _ h => by cases h) hf) ?_
  refine call_con [] (fun β w hs => runes_c w s) ?_
  rintro v Fs ⟨bx, rfl, rfl⟩
  refine range_rule (α := Rn) (ι := Unit) (κ := Unit) g rfl (cv := [.pointer (some ⟨bx, 0, none⟩)]) rfl (by kernel_rfl) 1 (Nat.le_refl 1)
    (fun pre _ => ∀ x ∈ pre, x.2 ≠ -1) (fun _ => [⟨0, ty_bool, [.v (.bool false)]⟩]) (fun _ => []) (fun _ => trivial)
    (fun e pre _ => e = .ret ∧ ∃ x ∈ pre, x.2 = -1) (fun _ => [⟨0, ty_bool, [.v (.bool false)]⟩]) (fun _ => []) (fun _ => trivial)
    [bkF bx ty_string [.string s]] [formF] [] ⟨rfl, trivial⟩ (fun g h => by cases h) () (fun x h => by cases h) (fun β w hs => ⟨β, Agr.refl _ _, hs⟩) (insR s.data.toList)
    (fun xs Fs' => xs = runesAt s.data.toList 0 ∧ Fs' = []) (fun pre Fs' => (∃ r, runesAt s.data.toList 0 = pre ++ r) ∧ Fs' = [])
    (fun l w f0 R J Jx hJ0 hJo hRo hY hm => (runes_it l w bx s f0 R J Jx hJ0 hJo hRo hY hl hm).mono fun _ Fs h => h) ?_ ?_ ?_
  · rintro ⟨⟩ pre x args X W S l bs pn pn' hbs hpre ⟨rfl, rfl, _⟩
    refine ⟨_, rfl, ?_⟩
    refine BIf.dec (fun h3 => ?_) (fun h3 => ?_)
    · have h30 : x.2 = -1 := h3
      exact ⟨(), ⟨rfl, x, by simp, h30⟩, Ent.mk' trivial rfl (fun β w hs => (hs.perm []).lower (n' := 1))⟩
    · have h30 : ¬ x.2 = -1 := h3
      refine ⟨(), ?_, Ent.mk' trivial rfl (fun β w hs => (hs.perm []).lower (n' := 1))⟩
      intro y hy
      rcases List.mem_append.1 hy with hy | hy
      · exact hpre y hy
      · obtain rfl := List.mem_singleton.1 hy; exact h30
  · rintro xs ⟨⟩ Fs hpre ⟨rfl, rfl⟩
    intro β w' hs
    refine (hs.keepB (List.nil_sublist _)).fin [] ⟨?_, rfl⟩
    rw [(valid_iff _).2 hpre]
    rfl
  · rintro e pre ⟨⟩ Fs ⟨rfl, x, hx, hxe⟩ ⟨⟨r, hr⟩, rfl⟩
    intro β w' hs
    refine (hs.keepB (List.nil_sublist _)).fin [] ⟨?_, rfl⟩
    have : validB s.data.toList = false := by
      cases h : validB s.data.toList with
      | false => rfl
      | true => exact absurd hxe ((valid_iff _).1 h x (by rw [hr]; exact List.mem_append.2 (.inl hx)))
    rw [this]
    rfl
end Go.Proofs.YtkobpamlmfpidaaGreatDoor.Sx

/- Signs: prepared. -/
namespace Go.Proofs.YtkobpamlmfpidaaGreatDoor.Sx
open Go
attribute [local irreducible] Calls

def blanksL : List Sp := [(0xa0, 0xa0), (0x1680, 0x1680), (0x2000, 0x200a), (0x202f, 0x202f), (0x205f, 0x205f), (0x3000, 0x3000)]
def nothingL : List Sp := [(0xad, 0xad), (0x200b, 0x200d), (0x2060, 0x2060), (0xfe00, 0xfe0f), (0xfeff, 0xfeff)]
def barredL : List Sp := [(0, 0x1f), (0x7f, 0x9f), (0x2028, 0x2029), (0x202a, 0x202e), (0x2066, 0x2069), (0xe000, 0xf8ff), (0xf0000, 0x10ffff), (0xfff9, 0xfffd), (0xfdd0, 0xfdef)]
def spansF (g : Nat) (l : List Sp) : Fact := rdF 2 (some ⟨g, 0, none⟩) l.length (l.flatMap spanV)
def prep1 (z : Int) : List Int := if inSp z blanksL = true then [32] else if inSp z nothingL = true then [] else [z]
def prepAt (l : List Rn) : List Int := l.flatMap fun x => prep1 x.2
def insPr (t : List UInt8) (pre : List Int) (z : Int) (args : Array Value) (X : Fact) : Prop := args = #[.int .i32 z] ∧ X = noF ∧ ∃ r, prepAt (runesAt t 0) = pre ++ z :: r
def prepEnd (t : List UInt8) (J Jx : List Int → Fact → Prop) (Fs : List Fact) : Prop :=
  ∃ f Fs', Fs = f :: Fs' ∧ ((∃ xs, J xs f ∧ xs = prepAt (runesAt t 0) ∧ Fs' = []) ∨ (∃ pre, Jx pre f ∧ (∃ r, prepAt (runesAt t 0) = pre ++ r) ∧ Fs' = []))
abbrev OF := { f : Fact // f.own = true }
theorem prep_it (l : Nat) (w : World) (bx : Nat) (s : ByteArray) (f0 R : Fact) (J Jx : List Int → Fact → Prop) (hJ0 : J [] f0) (hJo : ∀ pre f, J pre f → f.own = true) (hRo : R.own = false) (hY : Yc Tryz.prog l J Jx R (insPr s.data.toList))
    (hl : s.size ≤ 1000000) (hm : Mem w (f0 :: R :: [bkF bx ty_string [.string s], formF, spansF 1 blanksL, spansF 2 nothingL])) :
    Con Tryz.prog n_name_prepared_1 #[.func (.yield l) #[] #[], .pointer (some ⟨bx, 0, none⟩)] w [f0, bkF bx ty_string [.string s]] (fun _ Fs => prepEnd s.data.toList J Jx Fs) := by
  have g := good_name_prepared_1 w (Un [f0, bkF bx ty_string [.string s]]) [bx]
  have hf0 := hJo _ _ hJ0
  have hs0 : Sat (cx_name_prepared_1 w (Un [f0, bkF bx ty_string [.string s]]) [bx]) (Va.of fun _ => bx) 1 [] (f0 :: R :: [bkF bx ty_string [.string s], formF, spansF 1 blanksL, spansF 2 nothingL]) w := by
    refine hm.sat rfl (fun f hf ho k hk => ?_) ⟨Nat.le_refl 1, fun i hi => by obtain rfl : i = 0 := Nat.lt_one_iff.1 hi; rfl⟩
    simp only [List.mem_cons, List.not_mem_nil, or_false] at hf
    rcases hf with rfl | rfl | rfl | rfl | rfl | rfl
    · exact ⟨_, by simp, hk⟩
    · rw [hRo] at ho; cases ho
    · exact ⟨_, by simp, hk⟩
    · cases ho
    · cases ho
    · cases ho
  have hs1 := hs0.toBk 2 rfl 0 Nat.zero_lt_one rfl
  refine con_of_sx (cx := cx_name_prepared_1 w (Un [f0, bkF bx ty_string [.string s]]) [bx]) g b_name_prepared_1 rfl rfl (β := Va.of fun _ => bx) [.c (.v (.func (.yield l) #[] #[])), .c (.p 0 0)] 1 _ _ rfl rfl hs1 ?_
  refine call_con [] (fun β w hs => runes_c w s) ?_
  rintro v Fs ⟨bx2, rfl, rfl⟩
  refine range_rule (α := Rn) (ι := OF) (κ := OF) g rfl (cv := [.pointer (some ⟨bx2, 0, none⟩)]) rfl (by kernel_rfl) 2 (Nat.le_refl 2)
    (fun pre i => J (prepAt pre) i.1) (fun _ => [⟨1, 166, [.v (.func (.yield l) #[] #[])]⟩]) (fun i => [i.1]) (fun i => ⟨i.2, trivial⟩)
    (fun e pre i => e = .ret ∧ ∃ p, (∃ r, prepAt pre = p ++ r) ∧ Jx p i.1) (fun _ => [⟨1, 166, [.v (.func (.yield l) #[] #[])]⟩]) (fun i => [i.1]) (fun i => ⟨i.2, trivial⟩)
    [bkF bx2 ty_string [.string s]] [formF] [R, spansF 1 blanksL, spansF 2 nothingL] ⟨rfl, trivial⟩ (fun g h => by
      simp only [List.mem_cons, List.not_mem_nil, or_false] at h
      rcases h with rfl | rfl | rfl
      · exact hRo
      · rfl
      · rfl) ⟨f0, hf0⟩ hJ0 (fun β w hs => ⟨β, Agr.refl _ _, ?_⟩) (insR s.data.toList)
    (fun xs Fs' => xs = runesAt s.data.toList 0 ∧ Fs' = []) (fun pre Fs' => (∃ r, runesAt s.data.toList 0 = pre ++ r) ∧ Fs' = [])
    (fun l w f0 R J Jx hJ0 hJo hRo hY hm => (runes_it l w bx2 s f0 R J Jx hJ0 hJo hRo hY hl hm).mono fun _ Fs h => h) ?_ ?_ ?_
  · exact (hs.keepB (List.Sublist.cons_cons _ (List.nil_sublist _))).perm [0, 3, 1, 2, 4, 5]
  · rintro ⟨f, hfo⟩ pre x args X W S l' bs pn pn' hbs hJ ⟨rfl, rfl, r0, hxr⟩
    simp only at hJ
    refine ⟨_, rfl, ?_⟩
    obtain ⟨b1, hb1⟩ : ∃ b1, inSp x.2 blanksL = b1 := ⟨_, rfl⟩
    obtain ⟨b2, hb2⟩ : ∃ b2, inSp x.2 nothingL = b2 := ⟨_, rfl⟩
    refine ⟨6, 6, 0, 6, 6, _, rfl, rfl, rfl, Nat.le_refl _, Nat.le_refl _, Nat.zero_le _, rfl, rfl, rfl, ?_⟩
    refine call_pu (v := .bool b1) (fun β w' hs => by
      have h := within_c w' x.2 (some ⟨1, 0, none⟩) blanksL 6 (hs.get 3 rfl) (by decide)
      rw [hb1] at h
      exact h) ?_
    have hsn : prepAt (pre ++ [x]) = prepAt pre ++ prep1 x.2 := by simp [prepAt]
    cases b1 with
    | true =>
      have hz : prep1 x.2 = [32] := by unfold prep1; rw [if_pos hb1]
      refine yield_ro (X := noF) (x := 32) hY 1 2 rfl hJ hfo rfl hRo (by decide) (fun β => ⟨rfl, rfl, prepAt r0, by rw [hxr]; simp [prepAt, hz]⟩) rfl (fun β w _ => ⟨trivial, fun k hk => hk.elim, fun k _ h => h.elim⟩) ?_ ?_
      · intro f2 hfo2 hJ2
        exact ⟨⟨f2, hfo2⟩, by show J (prepAt (pre ++ [x])) f2; rw [hsn, hz]; exact hJ2, Ent.mk' trivial rfl (fun β w hs => (hs.perm [0]).lower (n' := 2))⟩
      · intro f2 hfo2 hJ2
        exact ⟨⟨f2, hfo2⟩, ⟨rfl, prepAt pre ++ [32], ⟨[], by rw [hsn, hz]; simp⟩, hJ2⟩, Ent.mk' trivial rfl (fun β w hs => (hs.perm [0]).lower (n' := 2))⟩
    | false =>
      refine ⟨5, 5, 0, 5, 5, _, rfl, rfl, rfl, Nat.le_refl _, Nat.le_refl _, Nat.zero_le _, rfl, rfl, rfl, ?_⟩
      refine call_pu (v := .bool b2) (fun β w' hs => by
        have h := within_c w' x.2 (some ⟨2, 0, none⟩) nothingL 5 (hs.get 4 rfl) (by decide)
        rw [hb2] at h
        exact h) ?_
      cases b2 with
      | true =>
        have hz : prep1 x.2 = [] := by unfold prep1; rw [if_neg (by rw [hb1]; decide), if_pos hb2]
        exact ⟨⟨f, hfo⟩, by show J (prepAt (pre ++ [x])) f; rw [hsn, hz, List.append_nil]; exact hJ, Ent.mk' trivial rfl (fun β w hs => (hs.perm [1]).lower (n' := 2))⟩
      | false =>
        have hz : prep1 x.2 = [x.2] := by unfold prep1; rw [if_neg (by rw [hb1]; decide), if_neg (by rw [hb2]; decide)]
        refine yield_ro (X := noF) (x := x.2) hY 1 2 rfl hJ hfo rfl hRo (by decide) (fun β => ⟨rfl, rfl, prepAt r0, by rw [hxr]; simp [prepAt, hz]⟩) rfl (fun β w _ => ⟨trivial, fun k hk => hk.elim, fun k _ h => h.elim⟩) ?_ ?_
        · intro f2 hfo2 hJ2
          exact ⟨⟨f2, hfo2⟩, by show J (prepAt (pre ++ [x])) f2; rw [hsn, hz]; exact hJ2, Ent.mk' trivial rfl (fun β w hs => (hs.perm [0]).lower (n' := 2))⟩
        · intro f2 hfo2 hJ2
          exact ⟨⟨f2, hfo2⟩, ⟨rfl, prepAt pre ++ [x.2], ⟨[], by rw [hsn, hz]; simp⟩, hJ2⟩, Ent.mk' trivial rfl (fun β w hs => (hs.perm [0]).lower (n' := 2))⟩
  · rintro xs ⟨f, hfo⟩ Fs hJ ⟨rfl, rfl⟩
    intro β w' hs
    exact (hs.keepB (List.nil_sublist _)).fin [0] ⟨f, [], rfl, .inl ⟨_, hJ, rfl, rfl⟩⟩ rfl rfl rfl ⟨hfo, trivial⟩
  · rintro e pre ⟨f, hfo⟩ Fs ⟨rfl, p, ⟨r, hp⟩, hJx⟩ ⟨⟨r2, hr⟩, rfl⟩
    intro β w' hs
    refine (hs.keepB (List.nil_sublist _)).fin [0] ⟨f, [], rfl, .inr ⟨p, hJx, ⟨r ++ prepAt r2, ?_⟩, rfl⟩⟩ rfl rfl rfl ⟨hfo, trivial⟩
    rw [hr, prepAt, List.flatMap_append, ← prepAt, hp, List.append_assoc]
    rfl
theorem prepared_c (w : World) (s : ByteArray) : Con Tryz.prog n_name_prepared #[.string s] w [] (fun v Fs => ∃ bx, v = .func (.func n_name_prepared_1) #[] #[.pointer (some ⟨bx, 0, none⟩)] ∧ Fs = [bkF bx ty_string [.string s]]) := by
  refine con_of_sx (cx := cx_name_prepared w (Un [])) (good_name_prepared w (Un [])) b_name_prepared rfl rfl (β := Va.z) [.c (.v (.string s))] 0 [] [] rfl rfl (Sat.start rfl) ?_
  intro β w' hs
  exact hs.ofBk.fin [0] ⟨β 0, rfl, rfl⟩
end Go.Proofs.YtkobpamlmfpidaaGreatDoor.Sx

/- Signs: written. -/
namespace Go.Proofs.YtkobpamlmfpidaaGreatDoor.Sx
open Go
attribute [local irreducible] Calls

def form0 : Nam.Fm := ⟨1, 0x80, 0, 0⟩
def pickF (r : Nat) (f g : Nam.Fm) : Nam.Fm := if g.least ≤ r then g else f
/-- A sign's form. -/
def formOf (r : Nat) : Nam.Fm := Nam.fms.foldl (pickF r) form0
/-- The last k of a sign's bytes. -/
def encGo (f : Nam.Fm) (r : Nat) : Nat → List UInt8
  | 0 => []
  | k + 1 => (if k = f.size - 1 then f.lead ||| UInt8.ofNat (r / 2 ^ (6 * k)) else 128 ||| (UInt8.ofNat (r / 2 ^ (6 * k)) &&& 63)) :: encGo f r k
def encL (r : Nat) : List UInt8 := encGo (formOf r) r (formOf r).size
theorem encGo_len (f : Nam.Fm) (r : Nat) : ∀ k, (encGo f r k).length = k
  | 0 => rfl
  | k + 1 => by simp [encGo, encGo_len f r k]
theorem fold_mem (r : Nat) : ∀ (l : List Nam.Fm) (f : Nam.Fm), f ∈ Nam.fms → (∀ g ∈ l, g ∈ Nam.fms) → l.foldl (pickF r) f ∈ Nam.fms
  | [], _, hf, _ => hf
  | g :: l, f, hf, h => by
    rw [List.foldl_cons]
    refine fold_mem r l _ ?_ (fun x hx => h x (List.mem_cons_of_mem _ hx))
    unfold pickF
    split
    · exact h g List.mem_cons_self
    · exact hf
theorem form0_mem : form0 ∈ Nam.fms := List.mem_cons_self
structure EnS where
  k : Nat
  acc : List UInt8
  A : Option Addr
  c : Nat
theorem append_c (w : World) (A : Option Addr) (l : List UInt8) (c r : Nat) (z : Int) (hz : z = (r : Int)) (hr31 : r ≤ 1114111) (hsg : Nam.sign r = true) (hr : Bs w A l) (hn : l.length ≤ 1000000000) (hf : Forms 3 w) :
    Con Tryz.prog n_name_Append #[.slice A l.length c, .int .i32 z] w [] fun v Fs => ∃ A' c', v = .slice A' (l ++ encL r).length c' ∧ (l ++ encL r).length ≤ c' ∧ c' ≤ maxLen ∧ Fs = [browF ty_uint8 A' (l ++ encL r) c'] := by
  have g := good_name_Append w (Un [])
  have hml := maxLen_eq
  refine con_of_sx (cx := cx_name_Append w (Un [])) g b_name_Append rfl rfl (β := Va.z) [.c (.v (.slice A l.length c)), .c (.v (.int .i32 z))] 0 [] [oldF w] rfl rfl (old_sat rfl) ?_
  refine call_pu (v := .bool true) (fun β w' hs => by
    have h := sign_c w' z r hz
    rw [hsg] at h
    exact h) ?_
  refine call_con [] (fun β w' hs => clone_c w' A l c (Rd.old hr (hs.get 0 rfl)) (by omega)) ?_
  rintro v Fs ⟨A1, c1, rfl, h1, h1m, rfl⟩
  have hcell : ∀ w', (oldF w).p w' → ∀ j u, formCells[j]? = some u → w'.cell? ((⟨3, 0, none⟩ : Addr).add j) = some u := by
    intro w' ho j u hu
    obtain ⟨ad, q, hc⟩ := (Forms.old hf ho).2 (by decide)
    cases q
    exact hc j u hu
  refine ⟨0, rfl, by decide, ?_⟩
  refine ⟨formV form0, rfl, fun β w' hs => ?_, ?_⟩
  · intro j u hu
    have hj : j < 4 := (List.getElem?_eq_some_iff.1 hu).1
    refine hcell w' (hs.get 1 rfl) j u ?_
    have : formCells[j]? = (formV form0)[j]? := by
      match j, hj with
      | 0, _ => rfl
      | 1, _ => rfl
      | 2, _ => rfl
      | 3, _ => rfl
    rw [this, hu]
  refine ⟨formCells, rfl, fun β w' hs => hcell w' (hs.get 1 rfl), ?_⟩
  refine loop_rule (ι := Nat) 1 (fun i => [(1, .c (.v (.int .i32 z))), (5, .c (.v (.slice A1 l.length c1))), (6, .c (.p 0 0)), (18, .agg (formCells.map SL.v)), (19, .c (.v (.int .i64 (i : Int))))]) (fun i => [⟨0, ty_name_form, (formV ((Nam.fms.take i).foldl (pickF r) form0)).map SL.v⟩]) (fun _ => [browF ty_uint8 A1 l c1, oldF w])
    (fun i => i ≤ 4) (fun i => 4 - i) 0 (Nat.zero_le _) (Ent.same ⟨rfl, rfl, rfl, rfl, rfl, trivial⟩ rfl) g ?_
  intro i hi
  refine BIf.dec (fun hlt => ?_) (fun hge => ?_)
  · have hlt0 : (i : Int) < 4 := hlt
    have hi4 : i < Nam.fms.length := by show i < 4; omega
    obtain ⟨f, hfi, hfm⟩ := at_lt hi4
    have hfold : (Nam.fms.take (i + 1)).foldl (pickF r) form0 = pickF r ((Nam.fms.take i).foldl (pickF r) form0) f := by
      rw [List.take_add_one, hfi, List.foldl_append]
      rfl
    refine ⟨i, (formV f).map SL.v, rfl, by omega, form_at hfi, ?_⟩
    refine BIf.dec (fun hls => ?_) (fun hls => ?_)
    · have hls1 : (f.least : Int) ≤ z := hls
      rw [pickF, if_pos (by omega)] at hfold
      refine ⟨((i + 1 : Nat) : Int), by rw [wrap_i64 (by omega) (by omega)]; rfl, ?_⟩
      refine ⟨i + 1, by omega, by omega, ?_⟩
      rw [hfold]
      exact Ent.mk' ⟨rfl, rfl, rfl, rfl, rfl, trivial⟩ rfl (fun β w hs => (hs.keepB (List.sublist_cons_self _ _)).lower)
    · have hls1 : ¬ (f.least : Int) ≤ z := hls
      rw [pickF, if_neg (by omega)] at hfold
      refine ⟨((i + 1 : Nat) : Int), by rw [wrap_i64 (by omega) (by omega)]; rfl, ?_⟩
      refine ⟨i + 1, by omega, by omega, ?_⟩
      rw [hfold]
      exact Ent.mk' ⟨rfl, rfl, rfl, rfl, rfl, trivial⟩ rfl (fun β w hs => (hs.keepB (List.sublist_cons_self _ _)).lower)
  · have hge0 : ¬ (i : Int) < 4 := hge
    obtain rfl : i = 4 := by omega
    have hfe : (Nam.fms.take 4).foldl (pickF r) form0 = formOf r := rfl
    rw [hfe]
    have hfs := form_size (fold_mem r Nam.fms form0 form0_mem (fun _ h => h))
    change 1 ≤ (formOf r).size ∧ (formOf r).size ≤ 4 ∧ _ at hfs
    unfold encL
    generalize formOf r = f at hfs ⊢
    refine ⟨(f.size : Int) - 1, wrap_i64 (by omega) (by omega), ?_⟩
    refine loop_rule (ι := EnS) 1 (fun i => [(1, .c (.v (.int .i32 z))), (5, .c (.v (.slice i.A i.acc.length i.c))), (6, .c (.p 0 0)), (9, .c (.v (.int .i64 ((i.k : Int) - 1))))]) (fun _ => [⟨0, ty_name_form, (formV f).map SL.v⟩]) (fun i => [browF ty_uint8 i.A i.acc i.c, oldF w])
      (fun i => i.acc ++ encGo f r i.k = l ++ encGo f r f.size ∧ i.k ≤ f.size ∧ i.acc.length ≤ i.c ∧ i.c ≤ maxLen ∧ i.acc.length + i.k = l.length + f.size) (fun i => i.k) ⟨f.size, l, A1, c1⟩ ⟨rfl, Nat.le_refl _, h1, h1m, rfl⟩ (Ent.same ⟨rfl, rfl, rfl, rfl, trivial⟩ rfl) g ?_
    rintro ⟨k, acc, A2, c2⟩ ⟨hinv, hk, hac, hcm, hlen⟩
    simp only at hinv hk hac hcm hlen
    simp only
    refine BIf.dec (fun hp => ?_) (fun hp => ?_)
    · have hp0 : (0 : Int) ≤ (k : Int) - 1 := hp
      obtain ⟨k', rfl⟩ : ∃ k', k = k' + 1 := ⟨k - 1, by omega⟩
      refine ⟨((6 * k' : Nat) : Int), by rw [wrap_i64 (by omega) (by omega)]; omega, ?_⟩
      refine ⟨by omega, ((r / 2 ^ (6 * k') : Nat) : Int), ?_, ?_⟩
      · have hmin : min ((6 * k' : Nat) : Int).toNat IntKind.i32.bits = 6 * k' := by show min (6 * k') 32 = _; omega
        rw [hmin, hz]
        exact shr_nat r (6 * k')
      refine ⟨(f.size : Int) - 1, wrap_i64 (by omega) (by omega), ?_⟩
      refine BIf.dec (fun he => ?_) (fun he => ?_)
      · have he0 : ((k' + 1 : Nat) : Int) - 1 = (f.size : Int) - 1 := he
        have henc : encGo f r (k' + 1) = (f.lead ||| UInt8.ofNat (r / 2 ^ (6 * k'))) :: encGo f r k' := by rw [encGo, if_pos (by omega)]
        refine ⟨_, wrap_u8b _, ?_⟩
        refine ⟨_, or8 f.lead (UInt8.ofNat (r / 2 ^ (6 * k'))), ?_⟩
        intro b0
        refine ⟨1, acc.length, acc.length + 1, acc.map byte, [f.lead ||| UInt8.ofNat (r / 2 ^ (6 * k'))].map byte, (acc ++ [f.lead ||| UInt8.ofNat (r / 2 ^ (6 * k'))]).map byte, rfl, fun β w hs => row_rd (hs.get 0 rfl), bytes_one _, rfl, List.map_append.symm, by rw [maxLen_eq]; omega, by show (acc.length + 1) * 1 ≤ _; omega, ?_⟩
        intro A' c' q1 q2 _
        refine ⟨(k' : Int) - 1, by rw [wrap_i64 (by omega) (by omega)]; omega, ?_⟩
        have hle : (acc ++ [f.lead ||| UInt8.ofNat (r / 2 ^ (6 * k'))]).length = acc.length + 1 := by simp
        refine ⟨⟨k', acc ++ [f.lead ||| UInt8.ofNat (r / 2 ^ (6 * k'))], A', c'⟩, ⟨by rw [← hinv, henc]; simp, by show k' ≤ f.size; omega, by show (acc ++ [f.lead ||| UInt8.ofNat (r / 2 ^ (6 * k'))]).length ≤ c'; omega, q2, by show (acc ++ [f.lead ||| UInt8.ofNat (r / 2 ^ (6 * k'))]).length + k' = _; omega⟩, by show k' < k' + 1; omega, ?_⟩
        simp only [browF, hle]
        exact Ent.mk' ⟨rfl, rfl, rfl, rfl, trivial⟩ rfl (fun β w hs => hs.weaken (List.Sublist.refl _) (List.sublist_cons_self _ _))
      · have he0 : ¬ ((k' + 1 : Nat) : Int) - 1 = (f.size : Int) - 1 := he
        have henc : encGo f r (k' + 1) = (128 ||| (UInt8.ofNat (r / 2 ^ (6 * k')) &&& 63)) :: encGo f r k' := by rw [encGo, if_neg (by omega)]
        refine ⟨_, wrap_u8b _, ?_⟩
        refine ⟨_, and8 (UInt8.ofNat (r / 2 ^ (6 * k'))) 63, ?_⟩
        refine ⟨_, or8 128 (UInt8.ofNat (r / 2 ^ (6 * k')) &&& 63), ?_⟩
        intro b0
        refine ⟨1, acc.length, acc.length + 1, acc.map byte, [128 ||| (UInt8.ofNat (r / 2 ^ (6 * k')) &&& 63)].map byte, (acc ++ [128 ||| (UInt8.ofNat (r / 2 ^ (6 * k')) &&& 63)]).map byte, rfl, fun β w hs => row_rd (hs.get 0 rfl), bytes_one _, rfl, List.map_append.symm, by rw [maxLen_eq]; omega, by show (acc.length + 1) * 1 ≤ _; omega, ?_⟩
        intro A' c' q1 q2 _
        refine ⟨(k' : Int) - 1, by rw [wrap_i64 (by omega) (by omega)]; omega, ?_⟩
        have hle : (acc ++ [128 ||| (UInt8.ofNat (r / 2 ^ (6 * k')) &&& 63)]).length = acc.length + 1 := by simp
        refine ⟨⟨k', acc ++ [128 ||| (UInt8.ofNat (r / 2 ^ (6 * k')) &&& 63)], A', c'⟩, ⟨by rw [← hinv, henc]; simp, by show k' ≤ f.size; omega, by show (acc ++ [128 ||| (UInt8.ofNat (r / 2 ^ (6 * k')) &&& 63)]).length ≤ c'; omega, q2, by show (acc ++ [128 ||| (UInt8.ofNat (r / 2 ^ (6 * k')) &&& 63)]).length + k' = _; omega⟩, by show k' < k' + 1; omega, ?_⟩
        simp only [browF, hle]
        exact Ent.mk' ⟨rfl, rfl, rfl, rfl, trivial⟩ rfl (fun β w hs => hs.weaken (List.Sublist.refl _) (List.sublist_cons_self _ _))
    · have hp0 : ¬ (0 : Int) ≤ (k : Int) - 1 := hp
      obtain rfl : k = 0 := by omega
      simp only [encGo, List.append_nil] at hinv
      intro β w' hs
      refine (hs.keepB (List.nil_sublist _)).fin [0] ⟨A2, c2, by rw [← hinv]; rfl, by rw [← hinv]; exact hac, hcm, by rw [← hinv]; rfl⟩
end Go.Proofs.YtkobpamlmfpidaaGreatDoor.Sx

/- Names, plainly: what goes is nothing. -/
namespace Go.Proofs.YtkobpamlmfpidaaGreatDoor.Sx
open Go

theorem decL_sign {s : List UInt8} {r : Nat} (h : (Nam.decL s).1 = some r) : Nam.sign r = true := by
  unfold Nam.decL at h
  split at h
  · rename_i f hf
    split at h
    · rename_i q hq
      obtain rfl := Option.some.inj h
      unfold Nam.tryF at hq
      split at hq
      · cases hq
      · split at hq
        · split at hq
          · rename_i hh
            obtain rfl := Option.some.inj hq
            exact hh.2
          · cases hq
        · cases hq
    · cases h
  · cases h
theorem runes_sign {r : Nat} : ∀ (k : Nat) (l : List UInt8), l.length ≤ k → some r ∈ Nam.runes l → Nam.sign r = true := by
  intro k
  induction k with
  | zero =>
    intro l h hm
    obtain rfl : l = [] := List.length_eq_zero_iff.1 (by omega)
    rw [Nam.runes_nil] at hm
    cases hm
  | succ k ih =>
    intro l h hm
    by_cases hl : l = []
    · subst hl
      rw [Nam.runes_nil] at hm
      cases hm
    · have h1 := Nam.decL_size hl
      rw [Nam.runes_cons hl] at hm
      rcases List.mem_cons.1 hm with hm | hm
      · exact decL_sign hm.symm
      · exact ih _ (by rw [List.length_drop]; omega) hm
def prepO (l : List (Option Nat)) : List Int := l.flatMap fun o => prep1 (runeI o)
theorem prepAt_runes (l : List UInt8) : prepAt (runesAt l 0) = prepO (Nam.runes l) := by
  have h := runesAt_vals l _ 0 (Nat.le_refl _)
  rw [List.drop_zero] at h
  have e1 : prepAt (runesAt l 0) = ((runesAt l 0).map (·.2)).flatMap prep1 := by rw [prepAt, List.flatMap_map]
  rw [e1, h, List.flatMap_map]
  rfl
theorem sign_le {r : Nat} (h : Nam.sign r = true) : r ≤ 1114111 := by
  unfold Nam.sign at h
  simp only [Bool.and_eq_true, decide_eq_true_eq] at h
  exact h.1
/-- What is told of a text that is rightly written is a sign. -/
theorem prep_sign {l : List UInt8} (hv : validB l = true) {z : Int} (hz : z ∈ prepAt (runesAt l 0)) : ∃ r : Nat, z = (r : Int) ∧ Nam.sign r = true ∧ r ≤ 1114111 := by
  rw [prepAt_runes] at hz
  obtain ⟨o, ho, hz⟩ := List.mem_flatMap.1 hz
  cases o with
  | none =>
    have := List.all_eq_true.1 hv none ho
    cases this
  | some r =>
    have hs := runes_sign l.length l (Nat.le_refl _) ho
    unfold prep1 at hz
    split at hz
    · obtain rfl := List.mem_singleton.1 hz
      exact ⟨32, rfl, by decide, by decide⟩
    · split at hz
      · cases hz
      · obtain rfl := List.mem_singleton.1 hz
        exact ⟨r, rfl, hs, sign_le hs⟩
def badZ (z : Int) : Bool := inSp z barredL || decide (bits .and .i32 z 65534 = 65534)
def encZ (z : Int) : List UInt8 := encL z.toNat
/-- A text, prepared; or why not. -/
def prepF (l : List UInt8) : List UInt8 × Int :=
  if validB l = true then if (prepAt (runesAt l 0)).any badZ = true then ([], 5) else ((prepAt (runesAt l 0)).flatMap encZ, 0) else ([], 4)
end Go.Proofs.YtkobpamlmfpidaaGreatDoor.Sx

/- Names: a text, prepared. -/
namespace Go.Proofs.YtkobpamlmfpidaaGreatDoor.Sx
open Go
attribute [local irreducible] Calls

def mkS (l : List UInt8) : ByteArray := ⟨l.toArray⟩
theorem encZ_len (z : Int) : (encZ z).length ≤ 4 := by
  unfold encZ encL
  rw [encGo_len]
  have := form_size (fold_mem z.toNat Nam.fms form0 form0_mem (fun _ h => h))
  exact this.2.1
theorem prep1_len (z : Int) : (prep1 z).length ≤ 1 := by
  unfold prep1
  split
  · exact Nat.le_refl _
  · split
    · exact Nat.zero_le _
    · exact Nat.le_refl _
theorem runesAt_len (l : List UInt8) : ∀ (k i : Nat), l.length - i ≤ k → (runesAt l i).length ≤ l.length - i := by
  intro k
  induction k with
  | zero => intro i h; rw [runesAt_end (by omega)]; exact Nat.zero_le _
  | succ k ih =>
    intro i h
    by_cases hi : i < l.length
    · have h1 := Nam.decL_size (drop_ne hi)
      rw [runesAt_cons hi, List.length_cons]
      have := ih (i + (Nam.decL (l.drop i)).2) (by omega)
      omega
    · rw [runesAt_end hi]; exact Nat.zero_le _
theorem flat_le {α β : Type} (f : α → List β) (n : Nat) (h : ∀ x, (f x).length ≤ n) : ∀ l : List α, (l.flatMap f).length ≤ n * l.length
  | [] => by simp
  | x :: r => by
    rw [List.flatMap_cons, List.length_append, List.length_cons]
    have h1 := h x
    have h2 := flat_le f n h r
    rw [Nat.mul_succ]
    omega
theorem prepAt_len (l : List UInt8) : (prepAt (runesAt l 0)).length ≤ l.length := by
  have h1 := flat_le (fun x : Rn => prep1 x.2) 1 (fun x => prep1_len x.2) (runesAt l 0)
  have h2 := runesAt_len l _ 0 (Nat.le_refl _)
  unfold prepAt
  omega
structure PrS8 where
  out : List UInt8
  A : Option Addr
  c : Nat
theorem prepare_c (w0 : World) (s : ByteArray) (hl : s.size ≤ 100000) (hf : Forms 3 w0) (h5 : (spansF 1 blanksL).p w0) (h6 : (spansF 2 nothingL).p w0) (h4 : (spansF 0 barredL).p w0) :
    Pu Tryz.prog n_name_Prepare #[.string s] w0 (.tuple #[.string (mkS (prepF s.data.toList).1), .int .i64 (prepF s.data.toList).2]) := by
  have g := good_name_Prepare w0 (Un [])
  have hlen : s.data.toList.length = s.size := rfl
  have own2 : ∀ {f1 f2 f3 f4 : Fact}, f1.own = false → f2.own = false → f3.own = false → f4.own = false → ∀ g ∈ [f1, f2, f3, f4], g.own = false := by
    intro f1 f2 f3 f4 e1 e2 e3 e4 g hg
    simp only [List.mem_cons, List.not_mem_nil, or_false] at hg
    rcases hg with rfl | rfl | rfl | rfl <;> assumption
  have st : Sat (cx_name_Prepare w0 (Un [])) Va.z 0 [] [formF, formF, spansF 1 blanksL, spansF 2 nothingL, spansF 0 barredL] w0 := by
    have s1 : Sat (cx_name_Prepare w0 (Un [])) Va.z 0 [] [spansF 0 barredL] w0 := (Sat.start rfl).rd (fun _ h => by cases h) h4
    have s2 : Sat (cx_name_Prepare w0 (Un [])) Va.z 0 [] [spansF 2 nothingL, spansF 0 barredL] w0 := s1.rd (fun g hg => own2 (f1 := spansF 0 barredL) (f2 := noF) (f3 := noF) (f4 := noF) rfl rfl rfl rfl g (by obtain rfl := List.mem_singleton.1 hg; simp)) h6
    have s3 : Sat (cx_name_Prepare w0 (Un [])) Va.z 0 [] [spansF 1 blanksL, spansF 2 nothingL, spansF 0 barredL] w0 := s2.rd (fun g hg => own2 (f1 := spansF 2 nothingL) (f2 := spansF 0 barredL) (f3 := noF) (f4 := noF) rfl rfl rfl rfl g (by simp only [List.mem_cons, List.not_mem_nil, or_false] at hg ⊢; rcases hg with h | h <;> simp [h])) h5
    have s4 : Sat (cx_name_Prepare w0 (Un [])) Va.z 0 [] [formF, spansF 1 blanksL, spansF 2 nothingL, spansF 0 barredL] w0 := s3.rd (fun g hg => own2 (f1 := spansF 1 blanksL) (f2 := spansF 2 nothingL) (f3 := spansF 0 barredL) (f4 := noF) rfl rfl rfl rfl g (by simp only [List.mem_cons, List.not_mem_nil, or_false] at hg ⊢; rcases hg with h | h | h <;> simp [h])) hf
    exact s4.rd (own2 rfl rfl rfl rfl) hf
  refine con_of_sx (cx := cx_name_Prepare w0 (Un [])) g b_name_Prepare rfl rfl (β := Va.z) [.c (.v (.string s))] 0 [] _ rfl rfl st ?_
  obtain ⟨bv, hv⟩ : ∃ bv, validB s.data.toList = bv := ⟨_, rfl⟩
  refine call_pu (v := .bool bv) (fun β w hs => by
    have h := valid_c w s (by omega) (hs.get 0 rfl)
    rw [hv] at h
    exact h) ?_
  cases bv with
  | false =>
    intro β w' hs
    refine (hs.keepB (List.nil_sublist _)).fin [] ⟨?_, rfl⟩
    unfold prepF
    rw [hv]
    rfl
  | true =>
    refine call_con [] (fun β w hs => prepared_c w s) ?_
    rintro v Fs ⟨bx, rfl, rfl⟩
    obtain ⟨T, hT⟩ : ∃ T, prepAt (runesAt s.data.toList 0) = T := ⟨_, rfl⟩
    have hTl : T.length ≤ 100000 := by
      have := prepAt_len s.data.toList
      rw [hT] at this
      omega
    have hpr : prepF s.data.toList = if T.any badZ = true then ([], 5) else (T.flatMap encZ, 0) := by unfold prepF; rw [if_pos hv, hT]
    refine range_rule (α := Int) (ι := PrS8) (κ := Unit) g rfl (cv := [.pointer (some ⟨bx, 0, none⟩)]) rfl (by kernel_rfl) 3 (Nat.le_refl 3)
      (fun pre i => pre.any badZ = false ∧ i.out = pre.flatMap encZ) (fun i => [⟨2, ty_sl_uint8, [.v (.slice i.A i.out.length i.c)]⟩, ⟨1, ty_api_Errno, [.v (.int .i64 0)]⟩, ⟨0, ty_string, [.v (.string (mkS []))]⟩]) (fun i => [browF ty_uint8 i.A i.out i.c]) (fun i => ⟨rfl, trivial⟩)
      (fun e pre _ => e = .ret ∧ pre.any badZ = true) (fun _ => [⟨1, ty_api_Errno, [.v (.int .i64 5)]⟩, ⟨0, ty_string, [.v (.string (mkS []))]⟩]) (fun _ => []) (fun _ => trivial)
      [bkF bx ty_string [.string s]] [formF, spansF 1 blanksL, spansF 2 nothingL] [formF, spansF 0 barredL] ⟨rfl, trivial⟩ (fun g h => by
        simp only [List.mem_cons, List.not_mem_nil, or_false] at h
        rcases h with rfl | rfl <;> rfl) ⟨[], none, 0⟩ ⟨rfl, rfl⟩ (fun β w hs => ⟨β, Agr.refl _ _, ?_⟩) (insPr s.data.toList)
      (fun xs Fs' => xs = T ∧ Fs' = []) (fun pre Fs' => (∃ r, T = pre ++ r) ∧ Fs' = [])
      (fun l w f0 R J Jx hJ0 hJo hRo hY hm => (prep_it l w bx s f0 R J Jx hJ0 hJo hRo hY (by omega) hm).mono fun _ Fs h => by rw [← hT]; exact h) ?_ ?_ ?_
    · exact (hs.nilRow ty_uint8 1).perm [1, 2, 4, 5, 0, 3, 6]
    · rintro ⟨out, A, c⟩ pre z args X W S l' bs pn pn' hbs ⟨hno, hout⟩ ⟨rfl, rfl, r0, hzr⟩
      simp only at hno hout
      rw [hT] at hzr
      refine ⟨_, rfl, ?_⟩
      obtain ⟨b1, hb1⟩ : ∃ b1, inSp z barredL = b1 := ⟨_, rfl⟩
      refine ⟨9, 9, 0, 9, 9, _, rfl, rfl, rfl, Nat.le_refl _, Nat.le_refl _, Nat.zero_le _, rfl, rfl, rfl, ?_⟩
      refine call_pu (v := .bool b1) (fun β w' hs => by
        have h := within_c w' z (some ⟨0, 0, none⟩) barredL 9 (hs.get 3 rfl) (by decide)
        rw [hb1] at h
        exact h) ?_
      cases b1 with
      | true =>
        have hbz : badZ z = true := by unfold badZ; rw [hb1]; rfl
        exact ⟨(), ⟨rfl, by rw [List.any_append, List.any_cons, hbz]; simp⟩, Ent.mk' trivial rfl (fun β w hs => ((hs.keepB (List.sublist_cons_self _ _)).perm []).lower (n' := 3))⟩
      | false =>
        obtain ⟨y, hy⟩ : ∃ y, bits .and .i32 z 65534 = y := ⟨_, rfl⟩
        refine ⟨y, hy, ?_⟩
        refine BIf.dec (fun h3 => ?_) (fun h3 => ?_)
        · have h30 : y = 65534 := h3
          have hbz : badZ z = true := by unfold badZ; rw [hb1, hy, decide_eq_true h30]; rfl
          exact ⟨(), ⟨rfl, by rw [List.any_append, List.any_cons, hbz]; simp⟩, Ent.mk' trivial rfl (fun β w hs => ((hs.keepB (List.sublist_cons_self _ _)).perm []).lower (n' := 3))⟩
        · have h30 : ¬ y = 65534 := h3
          have hbz : badZ z = false := by unfold badZ; rw [hb1, hy, decide_eq_false h30]; rfl
          obtain ⟨r, hz, hsg, hr31⟩ := prep_sign hv (z := z) (by rw [hT, hzr]; simp)
          have hol : out.length ≤ 400000 := by
            have h8 := flat_le encZ 4 encZ_len pre
            have h9 : pre.length ≤ T.length := by rw [hzr, List.length_append]; omega
            rw [hout]
            omega
          refine call_con [] (fun β w' hs => append_c w' A out c r z hz hr31 hsg (row_rd (hs.get 1 rfl)) (by omega) (hs.get 2 rfl)) ?_
          rintro v Fs ⟨A', c', rfl, q1, q2, rfl⟩
          exact ⟨⟨out ++ encL r, A', c'⟩, ⟨by rw [List.any_append, hno, List.any_cons, hbz]; rfl, by rw [hout, List.flatMap_append]; simp [encZ, hz]⟩, Ent.mk' trivial rfl (fun β w hs => (hs.perm [0]).lower (n' := 3))⟩
    · rintro xs ⟨out, A, c⟩ Fs ⟨hno, hout⟩ ⟨rfl, rfl⟩
      simp only at hno hout
      rw [if_neg (by rw [hno]; decide)] at hpr
      refine ⟨out, fun β w hs => row_rd (hs.get 0 rfl), ?_⟩
      intro β w' hs
      refine (hs.keepB (List.nil_sublist _)).fin [] ⟨?_, rfl⟩
      rw [hpr, ← hout]
      rfl
    · rintro e pre ⟨⟩ Fs ⟨rfl, hbad⟩ ⟨⟨r, hr⟩, rfl⟩
      rw [if_pos (by rw [hr, List.any_append, hbad]; rfl)] at hpr
      intro β w' hs
      refine (hs.keepB (List.nil_sublist _)).fin [] ⟨?_, rfl⟩
      rw [hpr]
      rfl
end Go.Proofs.YtkobpamlmfpidaaGreatDoor.Sx

/- Names: sized. -/
namespace Go.Proofs.YtkobpamlmfpidaaGreatDoor.Sx
open Go
attribute [local irreducible] Calls

def sizF (l : List UInt8) (most : Nat) : List UInt8 × Int :=
  if (prepF l).2 = 0 then if (prepF l).1 = [] then ([], 2) else if most < (prepF l).1.length then ([], 3) else ((prepF l).1, 0) else ([], (prepF l).2)
theorem mkS_nil {p : List UInt8} : mkS p = mkS [] ↔ p = [] := by
  constructor
  · intro h
    have := congrArg (fun s : ByteArray => s.data.toList) h
    simpa [mkS] using this
  · rintro rfl; rfl
theorem sized_c (w : World) (s : ByteArray) (most : Nat) (hmost : most ≤ 1000000) (hl : s.size ≤ 100000) (hf : Forms 3 w) (h5 : (spansF 1 blanksL).p w) (h6 : (spansF 2 nothingL).p w) (h4 : (spansF 0 barredL).p w) :
    Pu Tryz.prog n_name_sized #[.string s, .int .i64 (most : Int)] w (.tuple #[.string (mkS (sizF s.data.toList most).1), .int .i64 (sizF s.data.toList most).2]) := by
  have g := good_name_sized w (Un [])
  refine con_of_sx (cx := cx_name_sized w (Un [])) g b_name_sized rfl rfl (β := Va.z) [.c (.v (.string s)), .c (.v (.int .i64 (most : Int)))] 0 [] [oldF w] rfl rfl (old_sat rfl) ?_
  obtain ⟨p, e, hpe⟩ : ∃ p e, prepF s.data.toList = (p, e) := ⟨_, _, rfl⟩
  have hz : sizF s.data.toList most = if e = 0 then if p = [] then ([], 2) else if most < p.length then ([], 3) else (p, 0) else ([], e) := by unfold sizF; rw [hpe]
  refine call_pu (v := .tuple #[.string (mkS p), .int .i64 e]) (fun β w' hs => by
    have h := prepare_c w' s hl (Forms.old hf (hs.get 0 rfl)) (Rd.old h5 (hs.get 0 rfl)) (Rd.old h6 (hs.get 0 rfl)) (Rd.old h4 (hs.get 0 rfl))
    rw [hpe] at h
    exact h) ?_
  have fin : ∀ (q : List UInt8) (d : Int), sizF s.data.toList most = (q, d) → ∀ {n : Nat} {H : List Bk} {F : List Fact} (β : Va) (w' : World), Sat (cx_name_sized w (Un [])) β n H F w' → Fin w [] (fun u Fs => u = .tuple #[.string (mkS (sizF s.data.toList most).1), .int .i64 (sizF s.data.toList most).2] ∧ Fs = []) (.tuple #[.string (mkS q), .int .i64 d]) w' := by
    intro q d h n H F β w' hs
    rw [h]
    exact (hs.keepB (List.nil_sublist _)).fin [] ⟨rfl, rfl⟩
  refine BIf.not (BIf.dec (fun he => ?_) (fun he => ?_))
  · have he0 : e = 0 := he
    rw [if_pos he0] at hz
    refine BIf.dec (p := mkS p = mkS []) (fun hp => ?_) (fun hp => ?_)
    · rw [if_pos (mkS_nil.1 hp)] at hz
      exact fin [] 2 hz
    · rw [if_neg (fun q => hp (mkS_nil.2 q))] at hz
      have hsz : (mkS p).size = p.length := by simp [mkS, ByteArray.size]
      refine BIf.dec (fun hm => ?_) (fun hm => ?_)
      · have hm0 : (most : Int) < ((mkS p).size : Int) := hm
        rw [hsz] at hm0
        rw [if_pos (by omega)] at hz
        exact fin [] 3 hz
      · have hm0 : ¬ (most : Int) < ((mkS p).size : Int) := hm
        rw [hsz] at hm0
        rw [if_neg (by omega)] at hz
        rw [he0]
        exact fin p 0 hz
  · have he0 : ¬ e = 0 := he
    rw [if_neg he0] at hz
    exact fin [] e hz
theorem name_c (w : World) (s : ByteArray) (hl : s.size ≤ 100000) (hf : Forms 3 w) (h5 : (spansF 1 blanksL).p w) (h6 : (spansF 2 nothingL).p w) (h4 : (spansF 0 barredL).p w) :
    Pu Tryz.prog n_name_Name #[.string s] w (.tuple #[.string (mkS (sizF s.data.toList 32).1), .int .i64 (sizF s.data.toList 32).2]) := by
  have g := good_name_Name w (Un [])
  refine con_of_sx (cx := cx_name_Name w (Un [])) g b_name_Name rfl rfl (β := Va.z) [.c (.v (.string s))] 0 [] [oldF w] rfl rfl (old_sat rfl) ?_
  refine call_pu (fun β w' hs => sized_c w' s 32 (by decide) hl (Forms.old hf (hs.get 0 rfl)) (Rd.old h5 (hs.get 0 rfl)) (Rd.old h6 (hs.get 0 rfl)) (Rd.old h4 (hs.get 0 rfl))) ?_
  intro β w' hs
  exact hs.fin [] ⟨rfl, rfl⟩
end Go.Proofs.YtkobpamlmfpidaaGreatDoor.Sx

/- Names: plain ones. -/
namespace Go.Proofs.YtkobpamlmfpidaaGreatDoor.Sx
open Go
attribute [local irreducible] Calls

def okc (x : UInt8) : Bool := decide ((97 ≤ x.toNat ∧ x.toNat ≤ 122) ∨ (48 ≤ x.toNat ∧ x.toNat ≤ 57) ∨ x.toNat = 45 ∨ x.toNat = 95)
def plainF (l : List UInt8) : Bool := l.all okc && (decide (l ≠ []) && decide (l.length ≤ 32))
set_option maxHeartbeats 1000000 in
theorem plain_c (w : World) (s : ByteArray) (hl : s.size ≤ 100000) : Pu Tryz.prog n_name_Plain #[.string s] w (.bool (plainF s.data.toList)) := by
  have g := good_name_Plain w (Un [])
  have hlen : s.data.toList.length = s.size := rfl
  refine con_of_sx (cx := cx_name_Plain w (Un [])) g b_name_Plain rfl rfl (β := Va.z) [.c (.v (.string s))] 0 [] [] rfl rfl (Sat.start rfl) ?_
  intro b c hc _
  refine loop_rule 0 (fun k : Nat => [(0, .c (.v (.string s))), (6, .c (.v (.slice (some ⟨b, 0, none⟩) s.size c))), (7, .c (.v (.int .i64 s.size))), (8, .c (.v (.int .i64 (k : Int))))]) (fun _ => []) (fun _ => [rdoF 1 (some ⟨b, 0, none⟩) s.size (s.data.toList.map byte)])
    (fun k => k ≤ s.size ∧ (s.data.toList.take k).all okc = true) (fun k => s.size - k) 0 ⟨Nat.zero_le _, rfl⟩ (Ent.same ⟨rfl, rfl, rfl, rfl, trivial⟩ rfl) g ?_
  rintro k ⟨hk, hall⟩
  refine BIf.dec (fun hlt => ?_) (fun hge => ?_)
  · have hlt0 : (k : Int) < s.size := hlt
    have hkl : k < s.size := by omega
    obtain ⟨x, hx, hxm⟩ := at_lt (l := s.data.toList) (k := k) (by omega)
    obtain ⟨z, hz⟩ : ∃ z : Int, (x.toNat : Int) = z := ⟨_, rfl⟩
    have hsn : okc x = true → (s.data.toList.take (k + 1)).all okc = true := fun h => by rw [List.take_add_one, hx, List.all_append, hall]; simp [h]
    have bad : okc x = false → ∀ {n : Nat} {H : List Bk} {F : List Fact} (β : Va) (w' : World), Sat (cx_name_Plain w (Un [])) β n H F w' → Fin w [] (fun u Fs => u = .bool (plainF s.data.toList) ∧ Fs = []) (.bool false) w' := by
      intro h n H F β w' hs
      refine (hs.keepB (List.nil_sublist _)).fin [] ⟨?_, rfl⟩
      have : s.data.toList.all okc = false := by
        rw [List.all_eq_false]
        exact ⟨x, hxm, by rw [h]; decide⟩
      unfold plainF
      rw [this]
      rfl
    refine ⟨⟨b, 0, none⟩, k, rfl, rfl, hkl, .int .u8 z, fun β w' hs => by rw [← hz]; exact Rd.cell1 (u := byte x) (hs.get 0 rfl) (by rw [List.getElem?_map, hx]; rfl), ?_⟩
    conv => whnf
    generalize h1 : decide ((97 : Int) ≤ z) = b1
    cases b1 with
    | true =>
      conv => whnf
      generalize h2 : decide (z ≤ (122 : Int)) = b2
      cases b2 with
      | true =>
        refine ⟨((k + 1 : Nat) : Int), by rw [wrap_i64 (by omega) (by omega)]; rfl, ?_⟩
        exact ⟨k + 1, ⟨hkl, hsn (by simp only [decide_eq_true_eq, decide_eq_false_iff_not] at *; simp only [okc, decide_eq_true_eq]; omega)⟩, by omega, Ent.same ⟨rfl, rfl, rfl, rfl, trivial⟩ rfl⟩
      | false =>
        conv => whnf
        generalize h3 : decide ((48 : Int) ≤ z) = b3
        cases b3 with
        | true =>
          conv => whnf
          generalize h4 : decide (z ≤ (57 : Int)) = b4
          cases b4 with
          | true =>
            refine ⟨((k + 1 : Nat) : Int), by rw [wrap_i64 (by omega) (by omega)]; rfl, ?_⟩
            exact ⟨k + 1, ⟨hkl, hsn (by simp only [decide_eq_true_eq, decide_eq_false_iff_not] at *; simp only [okc, decide_eq_true_eq]; omega)⟩, by omega, Ent.same ⟨rfl, rfl, rfl, rfl, trivial⟩ rfl⟩
          | false =>
            conv => whnf
            generalize h5 : decide (z = (45 : Int)) = b5
            cases b5 with
            | true =>
              refine ⟨((k + 1 : Nat) : Int), by rw [wrap_i64 (by omega) (by omega)]; rfl, ?_⟩
              exact ⟨k + 1, ⟨hkl, hsn (by simp only [decide_eq_true_eq, decide_eq_false_iff_not] at *; simp only [okc, decide_eq_true_eq]; omega)⟩, by omega, Ent.same ⟨rfl, rfl, rfl, rfl, trivial⟩ rfl⟩
            | false =>
              conv => whnf
              generalize h6 : decide (z = (95 : Int)) = b6
              cases b6 with
              | true =>
                refine ⟨((k + 1 : Nat) : Int), by rw [wrap_i64 (by omega) (by omega)]; rfl, ?_⟩
                exact ⟨k + 1, ⟨hkl, hsn (by simp only [decide_eq_true_eq, decide_eq_false_iff_not] at *; simp only [okc, decide_eq_true_eq]; omega)⟩, by omega, Ent.same ⟨rfl, rfl, rfl, rfl, trivial⟩ rfl⟩
              | false =>
                exact bad (by simp only [decide_eq_true_eq, decide_eq_false_iff_not] at *; simp only [okc, decide_eq_false_iff_not]; omega)
        | false =>
          conv => whnf
          generalize h5 : decide (z = (45 : Int)) = b5
          cases b5 with
          | true =>
            refine ⟨((k + 1 : Nat) : Int), by rw [wrap_i64 (by omega) (by omega)]; rfl, ?_⟩
            exact ⟨k + 1, ⟨hkl, hsn (by simp only [decide_eq_true_eq, decide_eq_false_iff_not] at *; simp only [okc, decide_eq_true_eq]; omega)⟩, by omega, Ent.same ⟨rfl, rfl, rfl, rfl, trivial⟩ rfl⟩
          | false =>
            conv => whnf
            generalize h6 : decide (z = (95 : Int)) = b6
            cases b6 with
            | true =>
              refine ⟨((k + 1 : Nat) : Int), by rw [wrap_i64 (by omega) (by omega)]; rfl, ?_⟩
              exact ⟨k + 1, ⟨hkl, hsn (by simp only [decide_eq_true_eq, decide_eq_false_iff_not] at *; simp only [okc, decide_eq_true_eq]; omega)⟩, by omega, Ent.same ⟨rfl, rfl, rfl, rfl, trivial⟩ rfl⟩
            | false =>
              exact bad (by simp only [decide_eq_true_eq, decide_eq_false_iff_not] at *; simp only [okc, decide_eq_false_iff_not]; omega)
    | false =>
      conv => whnf
      generalize h3 : decide ((48 : Int) ≤ z) = b3
      cases b3 with
      | true =>
        conv => whnf
        generalize h4 : decide (z ≤ (57 : Int)) = b4
        cases b4 with
        | true =>
          refine ⟨((k + 1 : Nat) : Int), by rw [wrap_i64 (by omega) (by omega)]; rfl, ?_⟩
          exact ⟨k + 1, ⟨hkl, hsn (by simp only [decide_eq_true_eq, decide_eq_false_iff_not] at *; simp only [okc, decide_eq_true_eq]; omega)⟩, by omega, Ent.same ⟨rfl, rfl, rfl, rfl, trivial⟩ rfl⟩
        | false =>
          conv => whnf
          generalize h5 : decide (z = (45 : Int)) = b5
          cases b5 with
          | true =>
            refine ⟨((k + 1 : Nat) : Int), by rw [wrap_i64 (by omega) (by omega)]; rfl, ?_⟩
            exact ⟨k + 1, ⟨hkl, hsn (by simp only [decide_eq_true_eq, decide_eq_false_iff_not] at *; simp only [okc, decide_eq_true_eq]; omega)⟩, by omega, Ent.same ⟨rfl, rfl, rfl, rfl, trivial⟩ rfl⟩
          | false =>
            conv => whnf
            generalize h6 : decide (z = (95 : Int)) = b6
            cases b6 with
            | true =>
              refine ⟨((k + 1 : Nat) : Int), by rw [wrap_i64 (by omega) (by omega)]; rfl, ?_⟩
              exact ⟨k + 1, ⟨hkl, hsn (by simp only [decide_eq_true_eq, decide_eq_false_iff_not] at *; simp only [okc, decide_eq_true_eq]; omega)⟩, by omega, Ent.same ⟨rfl, rfl, rfl, rfl, trivial⟩ rfl⟩
            | false =>
              exact bad (by simp only [decide_eq_true_eq, decide_eq_false_iff_not] at *; simp only [okc, decide_eq_false_iff_not]; omega)
      | false =>
        conv => whnf
        generalize h5 : decide (z = (45 : Int)) = b5
        cases b5 with
        | true =>
          refine ⟨((k + 1 : Nat) : Int), by rw [wrap_i64 (by omega) (by omega)]; rfl, ?_⟩
          exact ⟨k + 1, ⟨hkl, hsn (by simp only [decide_eq_true_eq, decide_eq_false_iff_not] at *; simp only [okc, decide_eq_true_eq]; omega)⟩, by omega, Ent.same ⟨rfl, rfl, rfl, rfl, trivial⟩ rfl⟩
        | false =>
          conv => whnf
          generalize h6 : decide (z = (95 : Int)) = b6
          cases b6 with
          | true =>
            refine ⟨((k + 1 : Nat) : Int), by rw [wrap_i64 (by omega) (by omega)]; rfl, ?_⟩
            exact ⟨k + 1, ⟨hkl, hsn (by simp only [decide_eq_true_eq, decide_eq_false_iff_not] at *; simp only [okc, decide_eq_true_eq]; omega)⟩, by omega, Ent.same ⟨rfl, rfl, rfl, rfl, trivial⟩ rfl⟩
          | false =>
            exact bad (by simp only [decide_eq_true_eq, decide_eq_false_iff_not] at *; simp only [okc, decide_eq_false_iff_not]; omega)
  · have hge0 : ¬ (k : Int) < s.size := hge
    obtain rfl : k = s.size := by omega
    rw [← hlen, List.take_length] at hall
    have hpl : plainF s.data.toList = (decide (s.data.toList ≠ []) && decide (s.data.toList.length ≤ 32)) := by unfold plainF; rw [hall, Bool.true_and]
    refine BIf.not (BIf.dec (p := s = mkS []) (fun he => ?_) (fun he => ?_))
    · intro β w' hs
      refine (hs.keepB (List.nil_sublist _)).fin [] ⟨?_, rfl⟩
      rw [hpl, he]
      rfl
    · have hne : s.data.toList ≠ [] := fun q => he (by
        have : s = mkS s.data.toList := by cases s; rfl
        rw [this, q])
      intro β w' hs
      refine (hs.keepB (List.nil_sublist _)).fin [] ⟨?_, rfl⟩
      rw [hpl, decide_eq_true hne, Bool.true_and, hlen]
      show Value.bool (decide ((s.size : Int) ≤ 32)) = _
      congr 1
      exact decide_eq_decide.2 (by omega)
end Go.Proofs.YtkobpamlmfpidaaGreatDoor.Sx

/- Names as they are asked for: their tables. May it be salted so? -/
namespace Go.Proofs.YtkobpamlmfpidaaGreatDoor.Sx
open Go
attribute [local irreducible] Calls

def nameA (s : ByteArray) : ByteArray × Int := (mkS (sizF s.data.toList 32).1, (sizF s.data.toList 32).2)
/-- The tables that names want. -/
structure NamT (w : World) : Prop where
  f : Forms 3 w
  s5 : (spansF 1 blanksL).p w
  s6 : (spansF 2 nothingL).p w
  s4 : (spansF 0 barredL).p w
theorem NamT.old {W w : World} (h : NamT W) (ho : (oldF W).p w) : NamT w := ⟨Forms.old h.f ho, Rd.old h.s5 ho, Rd.old h.s6 ho, Rd.old h.s4 ho⟩
theorem NamT.sat {cx : Cx} {β : Va} {n : Nat} {H : List Bk} {F : List Fact} {w : World} (hs : Sat cx β n H F w) (j : Nat) {W : World} (hj : nth F j = some (oldF W)) (h : NamT W) : NamT w := h.old (hs.get j hj)
theorem nameA_c (w : World) (s : ByteArray) (hl : s.size ≤ 100000) (hn : NamT w) : Pu Tryz.prog n_name_Name #[.string s] w (.tuple #[.string (nameA s).1, .int .i64 (nameA s).2]) :=
  name_c w s hl hn.f hn.s5 hn.s6 hn.s4

def namF : Fact := readF [formF, spansF 1 blanksL, spansF 2 nothingL, spansF 0 barredL]
theorem namF_T {w : World} (h : namF.p w) : NamT w := ⟨h formF (by simp), h (spansF 1 blanksL) (by simp), h (spansF 2 nothingL) (by simp), h (spansF 0 barredL) (by simp)⟩
def saltedN (n : Nat) (it : Int) : Bool := decide (1 ≤ n) && (decide (n ≤ 32) && (decide (1 ≤ it) && decide (it ≤ 64)))
theorem csalted_c (w : World) (A : Option Addr) (n c : Nat) (it : Int) : Pu Tryz.prog n_cred_salted #[.slice A n c, .int .i64 it] w (.bool (saltedN n it)) := by
  have g := good_cred_salted w (Un [])
  refine con_of_sx (cx := cx_cred_salted w (Un [])) g b_cred_salted rfl rfl (β := Va.z) [.c (.v (.slice A n c)), .c (.v (.int .i64 it))] 0 [] [] rfl rfl (Sat.start rfl) ?_
  conv => whnf
  generalize h1 : decide ((1 : Int) ≤ (n : Int)) = b1
  have e1 : decide (1 ≤ n) = b1 := by rw [← h1]; exact decide_eq_decide.2 (by omega)
  cases b1 with
  | false =>
    intro β w' hs
    refine hs.fin [] ⟨?_, rfl⟩
    unfold saltedN
    rw [e1]
    rfl
  | true =>
    conv => whnf
    generalize h2 : decide ((n : Int) ≤ (32 : Int)) = b2
    have e2 : decide (n ≤ 32) = b2 := by rw [← h2]; exact decide_eq_decide.2 (by omega)
    cases b2 with
    | false =>
      intro β w' hs
      refine hs.fin [] ⟨?_, rfl⟩
      unfold saltedN
      rw [e1, e2]
      rfl
    | true =>
      conv => whnf
      generalize h3 : decide ((1 : Int) ≤ it) = b3
      cases b3 with
      | false =>
        intro β w' hs
        refine hs.fin [] ⟨?_, rfl⟩
        unfold saltedN
        rw [e1, e2, h3]
        rfl
      | true =>
        intro β w' hs
        refine hs.fin [] ⟨?_, rfl⟩
        unfold saltedN
        rw [e1, e2, h3]
        rfl
end Go.Proofs.YtkobpamlmfpidaaGreatDoor.Sx

/- What a law begins with: what is only read. -/
namespace Go.Proofs.YtkobpamlmfpidaaGreatDoor.Sx
open Go

def RoOk (w : World) (f : Fact) : Prop := f.own = false ∧ f.p w ∧ ∀ k, f.D k → k < w.heap.size
theorem mem_ro {w : World} {Fs : List Fact} (h : ∀ f ∈ Fs, RoOk w f) : Mem w Fs := by
  refine ⟨fun f hf => (h f hf).2.1, fun f hf k hk => (h f hf).2.2 k hk, ?_⟩
  induction Fs with
  | nil => exact List.Pairwise.nil
  | cons f r ih =>
    refine List.pairwise_cons.2 ⟨fun g hg q => ?_, ih (fun g hg => h g (List.mem_cons_of_mem _ hg))⟩
    rcases q with q | q
    · rw [(h f List.mem_cons_self).1] at q; cases q
    · rw [(h g (List.mem_cons_of_mem _ hg)).1] at q; cases q
theorem ro_nil {w : World} : ∀ f ∈ ([] : List Fact), RoOk w f := fun f h => by cases h
theorem ro_cons {w : World} {f : Fact} {r : List Fact} (h1 : RoOk w f) (h2 : ∀ g ∈ r, RoOk w g) : ∀ g ∈ f :: r, RoOk w g := fun g hg => by
  rcases List.mem_cons.1 hg with rfl | hg
  · exact h1
  · exact h2 g hg
end Go.Proofs.YtkobpamlmfpidaaGreatDoor.Sx

/- What a law begins with: tables, and what is only read. -/
namespace Go.Proofs.YtkobpamlmfpidaaGreatDoor.Sx
open Go

theorem nam_ok {w : World} (f : Forms 3 w) (s5 : (spansF 1 blanksL).p w) (s6 : (spansF 2 nothingL).p w) (s4 : (spansF 0 barredL).p w) : RoOk w namF := by
  refine ⟨rfl, fun g hg => ?_, fun k hk => ?_⟩
  · simp only [List.mem_cons, List.not_mem_nil, or_false] at hg
    rcases hg with rfl | rfl | rfl | rfl
    · exact f
    · exact s5
    · exact s6
    · exact s4
  · obtain ⟨g, hg, hk⟩ := hk
    simp only [List.mem_cons, List.not_mem_nil, or_false] at hg
    rcases hg with rfl | rfl | rfl | rfl
    · exact rd_lt f k hk
    · exact rd_lt s5 k hk
    · exact rd_lt s6 k hk
    · exact rd_lt s4 k hk
end Go.Proofs.YtkobpamlmfpidaaGreatDoor.Sx

/-
  DERIVED: THE SHELF's CONTRACTS AT THIS DUMP, IN PLAIN WORDS (tools/lay-plain.mjs out of 'TryzIter.lean', which tools/lay-shelf.mjs wrote): THE SAME DECLARATIONS UNDER THE SAME NAMES: 'import', 'namespace', 'open', 'def', 'theorem' AND NOTHING ELSE: no command of the shelf's: FOR A HAND-IN. Each laying: the table of numbers ('.._ren') and one theorem, a field a fact of the dump's own or the kernel's comparison; each contract: ONE APPLICATION.
-/
namespace Go.Proofs
open Go.Shelf
def Tryz.keys65_ren : Go.Shelf.Ren := ⟨fun | 7 => 65 | 10 => 91 | n => n, fun | 23 => 61 | 26 => 9 | 3 => 98 | 28 => 66 | 0 => 0 | 27 => 65 | 33 => 97 | 4 => 4 | n => n, fun | n => n⟩
theorem Tryz.keys65 : Go.Proofs.SlLaysZ.n7 Tryz.prog Tryz.keys65_ren := {
  mixed := by kernel_rfl
  f7 := ⟨Tryz.f65.name, by decide, Tryz.func65.trans (congrArg some (by kernel_rfl))⟩
  f10 := ⟨Tryz.f91.name, by decide, Tryz.func91.trans (congrArg some (by kernel_rfl))⟩
  t0 := Tryz.underlying0
  a0 := Tryz.isAgg0
  z0 := Tryz.sizeOf0
  v0 := Tryz.zeroValue0
  t4 := Tryz.underlying4
  a4 := Tryz.isAgg4
  z4 := Tryz.sizeOf4
  v4 := Tryz.zeroValue4
  t23 := Tryz.underlying61
  a23 := Tryz.isAgg61
  z23 := Tryz.sizeOf61
  v23 := Tryz.zeroValue61
  t26 := Tryz.underlying9
  a26 := Tryz.isAgg9
  z26 := Tryz.sizeOf9
  v26 := Tryz.zeroValue9
  t27 := Tryz.underlying65
  a27 := Tryz.isAgg65
  z27 := Tryz.sizeOf65
  v27 := Tryz.zeroValue65
  t28 := Tryz.underlying66
  a28 := Tryz.isAgg66
  z28 := Tryz.sizeOf66
  v28 := Tryz.zeroValue66
  t33 := Tryz.underlying97
  a33 := Tryz.isAgg97
  z33 := Tryz.sizeOf97
  v33 := Tryz.zeroValue97 }
def Tryz.sorted64_ren : Go.Shelf.Ren := ⟨fun | 6 => 64 | 8 => 19 | 9 => 90 | 11 => 62 | 13 => 102 | 12 => 101 | 23 => 122 | 24 => 123 | 14 => 114 | 15 => 115 | 16 => 116 | 17 => 117 | 18 => 118 | 19 => 119 | 20 => 86 | 21 => 120 | 22 => 121 | 25 => 128 | 26 => 129 | 27 => 130 | 28 => 131 | 29 => 132 | 30 => 99 | 31 => 136 | n => n, fun | 26 => 9 | 28 => 66 | 24 => 27 | 0 => 0 | 3 => 3 | 37 => 126 | 48 => 159 | 50 => 29 | 4 => 4 | 40 => 153 | 39 => 152 | 45 => 103 | 5 => 5 | 9 => 9 | 51 => 172 | 55 => 175 | 57 => 181 | 58 => 161 | 33 => 97 | n => n, fun | n => n⟩
theorem Tryz.sorted64 : Go.Proofs.SlLaysZ.n6 Tryz.prog Tryz.sorted64_ren := {
  mixed := by kernel_rfl
  f6 := ⟨Tryz.f64.name, by decide, Tryz.func64.trans (congrArg some (by kernel_rfl))⟩
  f8 := ⟨Tryz.f19.name, by decide, Tryz.func19.trans (congrArg some (by kernel_rfl))⟩
  f11 := ⟨Tryz.f62.name, by decide, Tryz.func62.trans (congrArg some (by kernel_rfl))⟩
  t0 := Tryz.underlying0
  a0 := Tryz.isAgg0
  z0 := Tryz.sizeOf0
  v0 := Tryz.zeroValue0
  t24 := Tryz.underlying27
  a24 := Tryz.isAgg27
  z24 := Tryz.sizeOf27
  v24 := Tryz.zeroValue27
  t26 := Tryz.underlying9
  a26 := Tryz.isAgg9
  z26 := Tryz.sizeOf9
  v26 := Tryz.zeroValue9
  t28 := Tryz.underlying66
  a28 := Tryz.isAgg66
  z28 := Tryz.sizeOf66
  v28 := Tryz.zeroValue66
  i26 := by kernel_rfl }
def Tryz.sort90_ren : Go.Shelf.Ren := ⟨fun | 6 => 90 | 8 => 102 | 9 => 101 | 19 => 122 | 20 => 123 | 21 => 114 | 22 => 115 | 23 => 116 | 24 => 117 | 25 => 118 | 26 => 119 | 27 => 86 | 28 => 120 | 29 => 121 | 36 => 128 | 31 => 129 | 32 => 130 | 37 => 131 | 38 => 132 | 39 => 99 | 41 => 136 | n => n, fun | 27 => 27 | 29 => 9 | 3 => 3 | 32 => 126 | 26 => 27 | 0 => 0 | 44 => 159 | 46 => 29 | 4 => 4 | 36 => 153 | 35 => 152 | 41 => 103 | 5 => 5 | 9 => 9 | 53 => 172 | 57 => 175 | 63 => 181 | 64 => 161 | n => n, fun | n => n⟩
theorem Tryz.sort90 : Go.Proofs.SlLaysM.n6 Tryz.prog Tryz.sort90_ren := {
  mixed := by kernel_rfl
  f6 := ⟨Tryz.f90.name, by decide, Tryz.func90.trans (congrArg some (by kernel_rfl))⟩
  f8 := Tryz.func102.trans (congrArg some (by kernel_rfl))
  f9 := ⟨Tryz.f101.name, by decide, Tryz.func101.trans (congrArg some (by kernel_rfl))⟩
  f19 := Tryz.func122.trans (congrArg some (by kernel_rfl))
  f20 := Tryz.func123.trans (congrArg some (by kernel_rfl))
  f21 := ⟨Tryz.f114.name, by decide, Tryz.func114.trans (congrArg some (by kernel_rfl))⟩
  f22 := ⟨Tryz.f115.name, by decide, Tryz.func115.trans (congrArg some (by kernel_rfl))⟩
  f23 := ⟨Tryz.f116.name, by decide, Tryz.func116.trans (congrArg some (by kernel_rfl))⟩
  f24 := ⟨Tryz.f117.name, by decide, Tryz.func117.trans (congrArg some (by kernel_rfl))⟩
  f25 := ⟨Tryz.f118.name, by decide, Tryz.func118.trans (congrArg some (by kernel_rfl))⟩
  f26 := ⟨Tryz.f119.name, by decide, Tryz.func119.trans (congrArg some (by kernel_rfl))⟩
  f27 := ⟨Tryz.f86.name, by decide, Tryz.func86.trans (congrArg some (by kernel_rfl))⟩
  f28 := ⟨Tryz.f120.name, by decide, Tryz.func120.trans (congrArg some (by kernel_rfl))⟩
  f29 := ⟨Tryz.f121.name, by decide, Tryz.func121.trans (congrArg some (by kernel_rfl))⟩
  f31 := Tryz.func129.trans (congrArg some (by kernel_rfl))
  f32 := Tryz.func130.trans (congrArg some (by kernel_rfl))
  f36 := ⟨Tryz.f128.name, by decide, Tryz.func128.trans (congrArg some (by kernel_rfl))⟩
  f37 := ⟨Tryz.f131.name, by decide, Tryz.func131.trans (congrArg some (by kernel_rfl))⟩
  f38 := ⟨Tryz.f132.name, by decide, Tryz.func132.trans (congrArg some (by kernel_rfl))⟩
  f39 := ⟨Tryz.f99.name, by decide, Tryz.func99.trans (congrArg some (by kernel_rfl))⟩
  f41 := ⟨Tryz.f136.name, by decide, Tryz.func136.trans (congrArg some (by kernel_rfl))⟩
  t0 := Tryz.underlying0
  a0 := Tryz.isAgg0
  z0 := Tryz.sizeOf0
  v0 := Tryz.zeroValue0
  t3 := Tryz.underlying3
  a3 := Tryz.isAgg3
  z3 := Tryz.sizeOf3
  v3 := Tryz.zeroValue3
  t4 := Tryz.underlying4
  a4 := Tryz.isAgg4
  z4 := Tryz.sizeOf4
  v4 := Tryz.zeroValue4
  t5 := Tryz.underlying5
  a5 := Tryz.isAgg5
  z5 := Tryz.sizeOf5
  v5 := Tryz.zeroValue5
  t9 := Tryz.underlying9
  a9 := Tryz.isAgg9
  z9 := Tryz.sizeOf9
  v9 := Tryz.zeroValue9
  t26 := Tryz.underlying27
  a26 := Tryz.isAgg27
  z26 := Tryz.sizeOf27
  v26 := Tryz.zeroValue27
  t27 := Tryz.underlying27
  a27 := Tryz.isAgg27
  z27 := Tryz.sizeOf27
  v27 := Tryz.zeroValue27
  t29 := Tryz.underlying9
  a29 := Tryz.isAgg9
  z29 := Tryz.sizeOf9
  v29 := Tryz.zeroValue9
  t32 := Tryz.underlying126
  a32 := Tryz.isAgg126
  z32 := Tryz.sizeOf126
  v32 := Tryz.zeroValue126
  t35 := Tryz.underlying152
  a35 := Tryz.isAgg152
  z35 := Tryz.sizeOf152
  v35 := Tryz.zeroValue152
  t36 := Tryz.underlying153
  a36 := Tryz.isAgg153
  z36 := Tryz.sizeOf153
  v36 := Tryz.zeroValue153
  t41 := Tryz.underlying103
  a41 := Tryz.isAgg103
  z41 := Tryz.sizeOf103
  v41 := Tryz.zeroValue103
  t44 := Tryz.underlying159
  a44 := Tryz.isAgg159
  z44 := Tryz.sizeOf159
  v44 := Tryz.zeroValue159
  t46 := Tryz.underlying29
  a46 := Tryz.isAgg29
  z46 := Tryz.sizeOf29
  v46 := Tryz.zeroValue29
  t53 := Tryz.underlying172
  a53 := Tryz.isAgg172
  z53 := Tryz.sizeOf172
  v53 := Tryz.zeroValue172
  t57 := Tryz.underlying175
  a57 := Tryz.isAgg175
  z57 := Tryz.sizeOf175
  v57 := Tryz.zeroValue175
  t63 := Tryz.underlying181
  a63 := Tryz.isAgg181
  z63 := Tryz.sizeOf181
  v63 := Tryz.zeroValue181
  t64 := Tryz.underlying161
  a64 := Tryz.isAgg161
  z64 := Tryz.sizeOf161
  v64 := Tryz.zeroValue161 }
def Tryz.keys68_ren : Go.Shelf.Ren := ⟨fun | 7 => 68 | 10 => 92 | n => n, fun | 23 => 98 | 26 => 9 | 3 => 91 | 28 => 66 | 0 => 0 | 27 => 65 | 33 => 97 | 4 => 4 | n => n, fun | n => n⟩
theorem Tryz.keys68 : Go.Proofs.SlLaysZ.n7 Tryz.prog Tryz.keys68_ren := {
  mixed := by kernel_rfl
  f7 := ⟨Tryz.f68.name, by decide, Tryz.func68.trans (congrArg some (by kernel_rfl))⟩
  f10 := ⟨Tryz.f92.name, by decide, Tryz.func92.trans (congrArg some (by kernel_rfl))⟩
  t0 := Tryz.underlying0
  a0 := Tryz.isAgg0
  z0 := Tryz.sizeOf0
  v0 := Tryz.zeroValue0
  t4 := Tryz.underlying4
  a4 := Tryz.isAgg4
  z4 := Tryz.sizeOf4
  v4 := Tryz.zeroValue4
  t23 := Tryz.underlying98
  a23 := Tryz.isAgg98
  z23 := Tryz.sizeOf98
  v23 := Tryz.zeroValue98
  t26 := Tryz.underlying9
  a26 := Tryz.isAgg9
  z26 := Tryz.sizeOf9
  v26 := Tryz.zeroValue9
  t27 := Tryz.underlying65
  a27 := Tryz.isAgg65
  z27 := Tryz.sizeOf65
  v27 := Tryz.zeroValue65
  t28 := Tryz.underlying66
  a28 := Tryz.isAgg66
  z28 := Tryz.sizeOf66
  v28 := Tryz.zeroValue66
  t33 := Tryz.underlying97
  a33 := Tryz.isAgg97
  z33 := Tryz.sizeOf97
  v33 := Tryz.zeroValue97 }
end Go.Proofs

/- Bytes of one's own that are only read; facts that are known better; bundles opened at one place. -/
namespace Go.Proofs.YtkobpamlmfpidaaGreatDoor.Sx
open Go
attribute [local irreducible] Calls

/-- Bytes of one's own, to be read. -/
structure Ro where
  A : Option Addr
  c : Nat
  l : List UInt8
def Ro.v (r : Ro) : Value := .slice r.A r.l.length r.c
def Ro.f (r : Ro) : Fact := rdoF 1 r.A r.l.length (r.l.map byte)
/-- A row as bytes to be read. -/
theorem browRo {e : Nat} {A : Option Addr} {l : List UInt8} {c : Nat} {w : World} (h : (browF e A l c).p w) : (Ro.f ⟨A, c, l⟩).p w := row_rd h
theorem browRoD {e : Nat} {A : Option Addr} {l : List UInt8} {c : Nat} {w : World} (h : (browF e A l c).p w) : ∀ k, (Ro.f ⟨A, c, l⟩).D k → (browF e A l c).D k := by
  rintro k ⟨hk, ad, q, rfl⟩
  have hl : 0 < l.length := by
    have : 0 < l.length * 1 := hk
    omega
  have q' : A = some ad := q
  rcases h.2 with ⟨he, h0⟩ | ⟨g, cap, cur, he, _⟩
  · omega
  · have hA : A = some ⟨g, 0, none⟩ := by injection he
    rw [q'] at hA
    obtain rfl := Option.some.inj hA
    show Value.ownBlock (.slice A l.length c) = _
    rw [q']
    rfl
/-- Owned facts that are known better, each on its own memory. -/
inductive Recs (w' : World) : List Fact → List Fact → Prop
  | nil : Recs w' [] []
  | cons {f g : Fact} {Fs Gs : List Fact} (h : g.own = true ∧ (f.p w' → g.p w') ∧ ∀ k, g.D k → f.D k) (r : Recs w' Fs Gs) : Recs w' (f :: Fs) (g :: Gs)
theorem Fin.recast {w : World} {Gs : List Fact} {R R' : Value → List Fact → Prop} {v : Value} {w' : World} (h : Fin w Gs R v w')
    (hr : ∀ Fs, R v Fs → (∀ f ∈ Fs, f.p w') → ∃ Fs', R' v Fs' ∧ Recs w' Fs Fs') : Fin w Gs R' v w' := by
  obtain ⟨Fs, h1, h2, h3, h4, h5⟩ := h
  obtain ⟨Fs', q1, q2⟩ := hr Fs h1 h3.fact
  have key : ∀ {Fs Fs' : List Fact}, Recs w' Fs Fs' → Mem w' Fs → Owns Fs → Mem w' Fs' ∧ Owns Fs' ∧ ∀ g ∈ Fs', ∃ f ∈ Fs, ∀ k, g.D k → f.D k := by
    intro Fs Fs' hf
    induction hf with
    | nil => intro _ _; exact ⟨⟨fun _ q => (by cases q), fun _ q => (by cases q), List.Pairwise.nil⟩, trivial, fun _ q => (by cases q)⟩
    | @cons f g Fs Fs' hfg hrest ih =>
      intro hm ho
      obtain ⟨i1, i2, i3⟩ := ih ⟨fun x hx => hm.fact x (List.mem_cons_of_mem _ hx), fun x hx => hm.flt x (List.mem_cons_of_mem _ hx), (List.pairwise_cons.1 hm.sepf).2⟩ ho.2
      refine ⟨⟨fun x hx => ?_, fun x hx k hk => ?_, List.pairwise_cons.2 ⟨fun x hx _ k hk hk' => ?_, i1.sepf⟩⟩, ⟨hfg.1, i2⟩, fun x hx => ?_⟩
      · rcases List.mem_cons.1 hx with rfl | hx
        · exact hfg.2.1 (hm.fact f List.mem_cons_self)
        · exact i1.fact x hx
      · rcases List.mem_cons.1 hx with rfl | hx
        · exact hm.flt f List.mem_cons_self k (hfg.2.2 k hk)
        · exact i1.flt x hx k hk
      · obtain ⟨y, hy, hyd⟩ := i3 x hx
        exact (List.pairwise_cons.1 hm.sepf).1 y hy (.inl ho.1) k (hfg.2.2 k hk) (hyd k hk')
      · rcases List.mem_cons.1 hx with rfl | hx
        · exact ⟨f, List.mem_cons_self, hfg.2.2⟩
        · obtain ⟨y, hy, hyd⟩ := i3 x hx
          exact ⟨y, List.mem_cons_of_mem _ hy, hyd⟩
  obtain ⟨k1, k2, k3⟩ := key q2 h3 h4
  exact ⟨Fs', q1, h2, k1, k2, fun g hg k hk => by obtain ⟨f, hf, hfd⟩ := k3 g hg; exact h5 f hf k (hfd k hk)⟩
theorem cloneRo_c (w : World) (A : Option Addr) (l : List UInt8) (n c : Nat) (hn : n = l.length) (hr : Bs w A l) (hl : l.length ≤ 1000000) :
    Con Tryz.prog n_bytes_Clone #[.slice A n c] w [] fun v Fs => ∃ r : Ro, r.l = l ∧ v = r.v ∧ Fs = [r.f] := by
  subst hn
  refine Calls.mono (clone_c w A l c hr (by omega)) ?_
  rintro e w' ⟨v, rfl, hf⟩
  refine ⟨v, rfl, hf.recast ?_⟩
  rintro Fs ⟨A', c', rfl, _, _, rfl⟩ hp
  have hp0 := hp _ List.mem_cons_self
  exact ⟨[Ro.f ⟨A', c', l⟩], ⟨⟨A', c', l⟩, rfl, rfl, rfl⟩, .cons ⟨rfl, fun h => browRo h, browRoD hp0⟩ .nil⟩
/-! ### a bundle is opened at one place -/
theorem Un.app {A B : List Fact} {k : Nat} : Un (A ++ B) k ↔ Un A k ∨ Un B k := by
  unfold Un
  constructor
  · rintro ⟨g, hg, hk⟩
    rcases List.mem_append.1 hg with h | h
    · exact .inl ⟨g, h, hk⟩
    · exact .inr ⟨g, h, hk⟩
  · rintro (⟨g, hg, hk⟩ | ⟨g, hg, hk⟩)
    · exact ⟨g, List.mem_append_left _ hg, hk⟩
    · exact ⟨g, List.mem_append_right _ hg, hk⟩
theorem Un.cons {x : Fact} {B : List Fact} {k : Nat} : Un (x :: B) k ↔ x.D k ∨ Un B k := by
  unfold Un
  constructor
  · rintro ⟨g, hg, hk⟩
    rcases List.mem_cons.1 hg with rfl | h
    · exact .inl hk
    · exact .inr ⟨g, h, hk⟩
  · rintro (hk | ⟨g, hg, hk⟩)
    · exact ⟨x, List.mem_cons_self, hk⟩
    · exact ⟨g, List.mem_cons_of_mem _ hg, hk⟩
theorem sep_mid {A B : List Fact} {x : Fact} {w : World} : (sepF (A ++ x :: B)).p w ↔ x.p w ∧ (sepF (A ++ B)).p w ∧ ∀ k, x.D k → ¬ Un (A ++ B) k := by
  show ((∀ f ∈ A ++ x :: B, f.p w) ∧ (A ++ x :: B).Pairwise _) ↔ x.p w ∧ ((∀ f ∈ A ++ B, f.p w) ∧ (A ++ B).Pairwise _) ∧ _
  rw [List.pairwise_append, List.pairwise_cons, List.pairwise_append]
  constructor
  · rintro ⟨h1, h2, ⟨h3, h4⟩, h5⟩
    refine ⟨h1 x (by simp), ⟨fun f hf => h1 f ?_, h2, h4, fun a ha b hb => h5 a ha b (List.mem_cons_of_mem _ hb)⟩, fun k hk q => ?_⟩
    · rcases List.mem_append.1 hf with h | h
      · exact List.mem_append_left _ h
      · exact List.mem_append_right _ (List.mem_cons_of_mem _ h)
    · rcases Un.app.1 q with ⟨g, hg, hk'⟩ | ⟨g, hg, hk'⟩
      · exact h5 g hg x List.mem_cons_self k hk' hk
      · exact h3 g hg k hk hk'
  · rintro ⟨h1, ⟨h2, h3, h4, h5⟩, h6⟩
    refine ⟨fun f hf => ?_, h3, ⟨fun g hg k hk hk' => h6 k hk (Un.app.2 (.inr ⟨g, hg, hk'⟩)), h4⟩, fun a ha b hb k hk hk' => ?_⟩
    · rcases List.mem_append.1 hf with h | h
      · exact h2 f (List.mem_append_left _ h)
      · rcases List.mem_cons.1 h with rfl | h
        · exact h1
        · exact h2 f (List.mem_append_right _ h)
    · rcases List.mem_cons.1 hb with rfl | hb
      · exact h6 k hk' (Un.app.2 (.inl ⟨a, ha, hk⟩))
      · exact h5 a ha b hb k hk hk'
section
variable {cx : Cx} {β : Va} {n : Nat} {H : List Bk} {F : List Fact} {w : World}
theorem Sat.focus (h : Sat cx β n H F w) (j : Nat) {A B : List Fact} {x : Fact} (hj : nth F j = some (sepF (A ++ x :: B))) (hx : x.own = true) : Sat cx β n H (x :: sepF (A ++ B) :: dropIx [j] 0 F) w := by
  have hp := sep_mid.1 (h.get j hj)
  have hl := h.getLt j hj
  have htk : takeIx F [j] = [sepF (A ++ x :: B)] := by simp only [takeIx, hj]
  have hin : ∀ k, x.D k ∨ Un (A ++ B) k → Un (A ++ x :: B) k := by
    intro k hk
    rcases hk with hk | hk
    · exact Un.app.2 (.inr (Un.cons.2 (.inl hk)))
    · rcases Un.app.1 hk with hk | hk
      · exact Un.app.2 (.inl hk)
      · exact Un.app.2 (.inr (Un.cons.2 (.inr hk)))
  refine h.swap [j] (by rw [htk]; exact ⟨rfl, trivial⟩) (Fs := [x, sepF (A ++ B)]) (Chg.refl _ _) ⟨fun f hf => ?_, fun f hf k hk => ?_, ?_⟩ (fun f hf k hk => ?_)
  · simp only [List.mem_cons, List.not_mem_nil, or_false] at hf
    rcases hf with rfl | rfl
    · exact hp.1
    · exact hp.2.1
  · simp only [List.mem_cons, List.not_mem_nil, or_false] at hf
    rcases hf with rfl | rfl
    · exact hl k (hin k (.inl hk))
    · exact hl k (hin k (.inr hk))
  · refine List.pairwise_cons.2 ⟨fun f hf _ k hk => ?_, List.pairwise_singleton _ _⟩
    obtain rfl := List.mem_singleton.1 hf
    exact hp.2.2 k hk
  · rw [htk]
    simp only [List.mem_cons, List.not_mem_nil, or_false] at hf
    refine .inl ⟨_, List.mem_singleton.2 rfl, ?_⟩
    rcases hf with rfl | rfl
    · exact hin k (.inl hk)
    · exact hin k (.inr hk)
/-- Back into the bundle. -/
theorem Sat.blur (h : Sat cx β n H F w) (i j : Nat) {A B : List Fact} {x : Fact} (hi : nth F i = some x) (hj : nth F j = some (sepF (A ++ B))) (hx : x.own = true) (hne : i ≠ j) : Sat cx β n H (sepF (A ++ x :: B) :: dropIx [i, j] 0 F) w := by
  have h1 := h.get i hi
  have h2 := h.get j hj
  have ap := h.apart (i := i) (j := j) (by rw [← nth_eq]; exact hi) (by rw [← nth_eq]; exact hj) hne (.inl hx)
  have htk : takeIx F [i, j] = [x, sepF (A ++ B)] := by simp only [takeIx, hi, hj]
  have hin : ∀ k, Un (A ++ x :: B) k → x.D k ∨ Un (A ++ B) k := by
    intro k hk
    rcases Un.app.1 hk with hk | hk
    · exact .inr (Un.app.2 (.inl hk))
    · rcases Un.cons.1 hk with hk | hk
      · exact .inl hk
      · exact .inr (Un.app.2 (.inr hk))
  refine h.swap [i, j] (by rw [htk]; exact ⟨hx, rfl, trivial⟩) (Fs := [sepF (A ++ x :: B)]) (Chg.refl _ _) ⟨fun f hf => ?_, fun f hf k hk => ?_, List.pairwise_singleton _ _⟩ (fun f hf k hk => ?_)
  · obtain rfl := List.mem_singleton.1 hf
    exact sep_mid.2 ⟨h1, h2, ap⟩
  · obtain rfl := List.mem_singleton.1 hf
    rcases hin k hk with q | q
    · exact h.getLt i hi k q
    · exact h.getLt j hj k q
  · obtain rfl := List.mem_singleton.1 hf
    rw [htk]
    rcases hin k hk with q | q
    · exact .inl ⟨x, List.mem_cons_self, q⟩
    · exact .inl ⟨_, List.mem_cons_of_mem _ List.mem_cons_self, q⟩
end

end Go.Proofs.YtkobpamlmfpidaaGreatDoor.Sx

/- Who there is: a store, plainly; and in memory. -/
namespace Go.Proofs.YtkobpamlmfpidaaGreatDoor.Sx
open Go

/-! ### plainly -/
structure ASec where
  salt : List UInt8
  iter : Int
  stored : List UInt8
  server : List UInt8
  ha1 : List UInt8
structure ACrd where
  tenant : ByteArray
  user : ByteArray
  sec : ASec
  gen : Nat
  roles : List ByteArray
  revoked : Bool
abbrev ATs := List (ByteArray × List ACrd)
structure ASto where
  ts : ATs
  last : Nat
  reads : Int
def aten : ATs → ByteArray → Option (List ACrd)
  | [], _ => none
  | (k, us) :: r, t => if k = t then some us else aten r t
def ausr : List ACrd → ByteArray → Option ACrd
  | [], _ => none
  | c :: r, n => if c.user = n then some c else ausr r n
def atenU : ATs → ByteArray → (List ACrd → List ACrd) → ATs
  | [], _, _ => []
  | (k, us) :: r, t, f => if k = t then (k, f us) :: r else (k, us) :: atenU r t f
def ausrU : List ACrd → ByteArray → (ACrd → ACrd) → List ACrd
  | [], _, _ => []
  | c :: r, n, f => if c.user = n then f c :: r else c :: ausrU r n f
def atenD : ATs → ByteArray → ATs
  | [], _ => []
  | (k, us) :: r, t => if k = t then r else (k, us) :: atenD r t
def ausrD : List ACrd → ByteArray → List ACrd
  | [], _ => []
  | c :: r, n => if c.user = n then r else c :: ausrD r n
def aget (X : ASto) (t n : ByteArray) : Option ACrd := (aten X.ts t).bind fun us => ausr us n
/-- A user by any form of his name. -/
def aone (X : ASto) (t u : ByteArray) : Option ACrd := if (nameA u).2 = 0 then aget X t (nameA u).1 else none
def saltedA (l : List UInt8) (iter : Int) : Bool := decide (1 ≤ l.length) && (decide (l.length ≤ 32) && (decide (1 ≤ iter) && decide (iter ≤ 64)))
def rightA (x : ASec) : Bool := saltedA x.salt x.iter && (decide (x.stored.length = 32) && (decide (x.server.length = 32) && decide (x.ha1.length = 32)))
def greatN : Nat := 9007199254740992

/-! ### in memory -/
structure Sec where
  salt : Ro
  iter : Int
  stored : Ro
  server : Ro
  ha1 : Ro
def Sec.vs (x : Sec) : List Value := [x.salt.v, .int .i64 x.iter, x.stored.v, x.server.v, x.ha1.v]
def Sec.fs (x : Sec) : List Fact := [x.salt.f, x.stored.f, x.server.f, x.ha1.f]
def Sec.a (x : Sec) : ASec := ⟨x.salt.l, x.iter, x.stored.l, x.server.l, x.ha1.l⟩
/-- Texts of one's own. -/
def strsF (A : Option Addr) (l : List ByteArray) : Fact := rdoF 1 A l.length (l.map Value.string)
structure Crd where
  b : Nat
  tenant : ByteArray
  user : ByteArray
  sec : Sec
  gen : Nat
  rA : Option Addr
  rc : Nat
  roles : List ByteArray
  revoked : Bool
def Crd.vs (c : Crd) : List Value := .string c.tenant :: .string c.user :: (c.sec.vs ++ [.int .u64 c.gen, .slice c.rA c.roles.length c.rc, .bool c.revoked])
def Crd.parts (c : Crd) : List Fact := strsF c.rA c.roles :: c.sec.fs
def Crd.fs (c : Crd) : List Fact := bkF c.b ty_cred_Cred c.vs :: c.parts
def Crd.a (c : Crd) : ACrd := ⟨c.tenant, c.user, c.sec.a, c.gen, c.roles, c.revoked⟩
def crdF (c : Crd) : Fact := sepF c.fs
def ptr (b : Nat) : Value := .pointer (some ⟨b, 0, none⟩)
structure Ten where
  b : Nat
  name : ByteArray
  us : List Crd
def Ten.m (T : Ten) : ML := T.us.map fun c => (c.user, ptr c.b)
def tenF (T : Ten) : Fact := sepF [mapF T.b T.m, sepF (T.us.map crdF)]
def Ten.a (T : Ten) : ByteArray × List ACrd := (T.name, T.us.map Crd.a)
structure Sto where
  b : Nat
  m : Nat
  ts : List Ten
  last : Nat
  reads : Int
def Sto.vs (S : Sto) : List Value := [.map (some S.m), .int .u64 (S.last : Int), .int .u64 S.reads]
def Sto.ml (S : Sto) : ML := S.ts.map fun T => (T.name, .map (some T.b))
def stoF (S : Sto) : Fact := sepF [bkF S.b ty_cred_Store S.vs, mapF S.m S.ml, sepF (S.ts.map tenF)]
def Sto.a (S : Sto) : ASto := ⟨S.ts.map Ten.a, S.last, S.reads⟩

/-! ### a map of what is there -/
def tenO : List Ten → ByteArray → Option Ten
  | [], _ => none
  | T :: r, t => if T.name = t then some T else tenO r t
def crdO : List Crd → ByteArray → Option Crd
  | [], _ => none
  | c :: r, n => if c.user = n then some c else crdO r n
theorem look_ten (t : ByteArray) : ∀ ts : List Ten, (∃ A T B, ts = A ++ T :: B ∧ tenO ts t = some T ∧ T.name = t ∧ mlook (ts.map fun T => (T.name, Value.map (some T.b))) t = some (.map (some T.b)) ∧ aten (ts.map Ten.a) t = some (T.us.map Crd.a) ∧
      (∀ T' : Ten, ∀ f, T'.name = t → T'.us.map Crd.a = f (T.us.map Crd.a) → (A ++ T' :: B).map Ten.a = atenU (ts.map Ten.a) t f) ∧ (A ++ B).map Ten.a = atenD (ts.map Ten.a) t ∧ (A ++ B).map (fun T : Ten => (T.name, Value.map (some T.b))) = mdel (ts.map fun T => (T.name, Value.map (some T.b))) t) ∨
    (mlook (ts.map fun T => (T.name, Value.map (some T.b))) t = none ∧ aten (ts.map Ten.a) t = none ∧ tenO ts t = none)
  | [] => .inr ⟨rfl, rfl, rfl⟩
  | T :: r => by
    by_cases h : T.name = t
    · refine .inl ⟨[], T, r, rfl, by simp [tenO, h], h, ?_, ?_, ?_, ?_, ?_⟩
      · simp [mlook, h]
      · simp [aten, Ten.a, h]
      · intro T' f h1 h2
        simp [atenU, Ten.a, h, h1, h2]
      · simp [atenD, Ten.a, h]
      · simp [mdel, h]
    · rcases look_ten t r with ⟨A, T0, B, rfl, h0, h1, h2, h3, h4, h5, h6⟩ | ⟨h1, h2, h3⟩
      · refine .inl ⟨T :: A, T0, B, rfl, by simpa [tenO, h] using h0, h1, ?_, ?_, ?_, ?_, ?_⟩
        · simpa [mlook, h] using h2
        · simpa [aten, Ten.a, h] using h3
        · intro T' f q1 q2
          have := h4 T' f q1 q2
          simp only [List.cons_append, List.map_cons, Ten.a, atenU, if_neg h] at this ⊢
          rw [this]
        · simp only [List.cons_append, List.map_cons, Ten.a, atenD, if_neg h] at h5 ⊢
          rw [h5]
        · simp only [List.cons_append, List.map_cons, mdel, if_neg h] at h6 ⊢
          rw [h6]
      · refine .inr ⟨?_, ?_, ?_⟩
        · simpa [mlook, h] using h1
        · simpa [aten, Ten.a, h] using h2
        · simpa [tenO, h] using h3
theorem look_crd (n : ByteArray) : ∀ us : List Crd, (∃ A c B, us = A ++ c :: B ∧ crdO us n = some c ∧ c.user = n ∧ mlook (us.map fun c => (c.user, ptr c.b)) n = some (ptr c.b) ∧ ausr (us.map Crd.a) n = some c.a ∧
      (∀ c' : Crd, ∀ f, c'.user = n → c'.a = f c.a → (A ++ c' :: B).map Crd.a = ausrU (us.map Crd.a) n f) ∧ (A ++ B).map Crd.a = ausrD (us.map Crd.a) n ∧ (A ++ B).map (fun c : Crd => (c.user, ptr c.b)) = mdel (us.map fun c => (c.user, ptr c.b)) n ∧
      (∀ c' : Crd, c'.user = n → c'.b = c.b → (A ++ c' :: B).map (fun c : Crd => (c.user, ptr c.b)) = us.map fun c => (c.user, ptr c.b))) ∨
    (mlook (us.map fun c => (c.user, ptr c.b)) n = none ∧ ausr (us.map Crd.a) n = none ∧ crdO us n = none)
  | [] => .inr ⟨rfl, rfl, rfl⟩
  | c :: r => by
    by_cases h : c.user = n
    · refine .inl ⟨[], c, r, rfl, by simp [crdO, h], h, ?_, ?_, ?_, ?_, ?_, ?_⟩
      · simp [mlook, h]
      · simp [ausr, Crd.a, h]
      · intro c' f h1 h2
        have h0 : c.a.user = n := h
        simp [ausrU, h0, h2]
      · simp [ausrD, Crd.a, h]
      · simp [mdel, h]
      · intro c' h1 h2
        simp [h1, h2, h]
    · have h0 : ¬ c.a.user = n := h
      rcases look_crd n r with ⟨A, c0, B, rfl, h8, h1, h2, h3, h4, h5, h6, h7⟩ | ⟨h1, h2, h3⟩
      · refine .inl ⟨c :: A, c0, B, rfl, by simpa [crdO, h] using h8, h1, ?_, ?_, ?_, ?_, ?_, ?_⟩
        · simpa [mlook, h] using h2
        · simp only [List.map_cons, ausr, if_neg h0]; exact h3
        · intro c' f q1 q2
          have := h4 c' f q1 q2
          simp only [List.cons_append, List.map_cons, ausrU, if_neg h0] at this ⊢
          rw [this]
        · simp only [List.cons_append, List.map_cons, ausrD, if_neg h0] at h5 ⊢
          rw [h5]
        · simp only [List.cons_append, List.map_cons, mdel, if_neg h] at h6 ⊢
          rw [h6]
        · intro c' q1 q2
          have := h7 c' q1 q2
          simp only [List.cons_append, List.map_cons] at this ⊢
          rw [this]
      · refine .inr ⟨?_, ?_, ?_⟩
        · simpa [mlook, h] using h1
        · simp only [List.map_cons, ausr, if_neg h0]; exact h2
        · simpa [crdO, h] using h3
end Go.Proofs.YtkobpamlmfpidaaGreatDoor.Sx

/- Who there is: looked for. -/
namespace Go.Proofs.YtkobpamlmfpidaaGreatDoor.Sx
open Go
attribute [local irreducible] Calls

theorem fact_old' {f : Fact} {W w : World} (h : f.p W) (hD : ∀ k, f.D k → k < W.heap.size) (ho : (oldF W).p w) : f.p w := f.st W w (fun k hk => ho k (hD k hk)) h

/-! ### what a store's fact gives -/
theorem sto_bk {S : Sto} {w : World} (h : (stoF S).p w) : (bkF S.b ty_cred_Store S.vs).p w := h.1 _ (by simp)
theorem sto_map {S : Sto} {w : World} (h : (stoF S).p w) : mapP S.m S.ml w := h.1 (mapF S.m S.ml) (by simp)
theorem sto_ten {S : Sto} {w : World} (h : (stoF S).p w) {A B : List Ten} {T : Ten} (hT : S.ts = A ++ T :: B) : (tenF T).p w := by
  have h1 : (sepF (S.ts.map tenF)).p w := h.1 _ (by simp)
  exact h1.1 _ (by rw [hT]; simp)
theorem ten_map {T : Ten} {w : World} (h : (tenF T).p w) : mapP T.b T.m w := h.1 (mapF T.b T.m) (by simp)
theorem ten_crd {T : Ten} {w : World} (h : (tenF T).p w) {A B : List Crd} {c : Crd} (hc : T.us = A ++ c :: B) : (crdF c).p w := by
  have h1 : (sepF (T.us.map crdF)).p w := h.1 _ (by simp)
  exact h1.1 _ (by rw [hc]; simp)
theorem crd_bk {c : Crd} {w : World} (h : (crdF c).p w) : (bkF c.b ty_cred_Cred c.vs).p w := h.1 _ (by simp [Crd.fs])
theorem bkc {b ty : Nat} {cs : List Value} {w : World} (h : (bkF b ty cs).p w) {o : Nat} {v : Value} (ho : cs[o]? = some v) : w.cell? ⟨b, o, none⟩ = some v := by
  have h' : w.heap[b]? = some (.cells cs.toArray ty (0, 0)) := h
  rw [cell_of_row w b o _ _ _ h']
  simpa using ho

/-- A tenant's map; none: nil. -/
def mapV : Option Ten → Value
  | some T => .map (some T.b)
  | none => .map none
def crdV : Option Crd → Value
  | some c => ptr c.b
  | none => .pointer none
def Sto.usr (S : Sto) (t u : ByteArray) : Option Crd := if (nameA u).2 = 0 then (tenO S.ts t).bind fun T => crdO T.us (nameA u).1 else none
theorem zero_map (w : World) : (zeroValue ty_map_string_ptr_cred_Cred).run Tryz.prog w = .ok (.map none) w := by kernel_rfl
theorem zero_ptrC (w : World) : (zeroValue ty_ptr_cred_Cred).run Tryz.prog w = .ok (.pointer none) w := by kernel_rfl
theorem users_c (w : World) (S : Sto) (t : ByteArray) (h : (stoF S).p w) (hl : ∀ k, (stoF S).D k → k < w.heap.size) : Pu Tryz.prog n_cred_Store_users #[ptr S.b, .string t] w (mapV (tenO S.ts t)) := by
  have g := good_cred_Store_users w (Un [])
  refine con_of_sx (cx := cx_cred_Store_users w (Un [])) g b_cred_Store_users rfl rfl (β := Va.z) [.c (.v (ptr S.b)), .c (.v (.string t))] 0 [] [oldF w] rfl rfl (old_sat rfl) ?_
  refine ⟨.map (some S.m), fun β w' hs => bkc (sto_bk (fact_old' h hl (hs.get 0 rfl))) rfl, ?_⟩
  refine ⟨.map none, fun w => zero_map w, S.ml, mlook S.ml t, fun β w' hs => sto_map (fact_old' h hl (hs.get 0 rfl)), rfl, ?_⟩
  rcases look_ten t S.ts with ⟨A, T, B, e, h0, h1, h2, _⟩ | ⟨h1, h2, h3⟩
  · rw [show mlook S.ml t = _ from h2, h0]
    intro β w' hs
    exact hs.fin [] ⟨rfl, rfl⟩
  · rw [show mlook S.ml t = _ from h1, h3]
    intro β w' hs
    exact hs.fin [] ⟨rfl, rfl⟩
theorem get_c (w : World) (S : Sto) (t u : ByteArray) (h : (stoF S).p w) (hl : ∀ k, (stoF S).D k → k < w.heap.size) (hu : u.size ≤ 100000) (hn : NamT w) : Pu Tryz.prog n_cred_Store_get #[ptr S.b, .string t, .string u] w (crdV (S.usr t u)) := by
  have g := good_cred_Store_get w (Un [])
  refine con_of_sx (cx := cx_cred_Store_get w (Un [])) g b_cred_Store_get rfl rfl (β := Va.z) [.c (.v (ptr S.b)), .c (.v (.string t)), .c (.v (.string u))] 0 [] [oldF w] rfl rfl (old_sat rfl) ?_
  obtain ⟨p, e, hpe⟩ : ∃ p e, nameA u = (p, e) := ⟨_, _, rfl⟩
  refine call_pu (v := .tuple #[.string p, .int .i64 e]) (fun β w' hs => by
    have h := nameA_c w' u hu (hn.old (hs.get 0 rfl))
    rw [hpe] at h
    exact h) ?_
  have hus : S.usr t u = if e = 0 then (tenO S.ts t).bind fun T => crdO T.us p else none := by unfold Sto.usr; rw [hpe]
  refine BIf.not (BIf.dec (fun he => ?_) (fun he => ?_))
  · have he0 : e = 0 := he
    rw [if_pos he0] at hus
    rcases look_ten t S.ts with ⟨A, T, B, eT, h0, h1, h2, _⟩ | ⟨h1, h2, h3⟩
    · refine call_pu (v := .map (some T.b)) (fun β w' hs => by
        have h := users_c w' S t (fact_old' h hl (hs.get 0 rfl)) (fun k hk => Nat.lt_of_lt_of_le (hl k hk) hs.chg.size)
        rw [h0] at h
        exact h) ?_
      refine ⟨.pointer none, fun w => zero_ptrC w, T.m, mlook T.m p, fun β w' hs => ten_map (sto_ten (fact_old' h hl (hs.get 0 rfl)) eT), rfl, ?_⟩
      rw [h0] at hus
      rcases look_crd p T.us with ⟨U, c, V, eU, q0, q1, q2, _⟩ | ⟨q1, q2, q3⟩
      · rw [show mlook T.m p = _ from q2]
        intro β w' hs
        refine hs.fin [] ⟨?_, rfl⟩
        rw [hus]
        show _ = crdV (crdO T.us p)
        rw [q0]
        rfl
      · rw [show mlook T.m p = _ from q1]
        intro β w' hs
        refine hs.fin [] ⟨?_, rfl⟩
        rw [hus]
        show _ = crdV (crdO T.us p)
        rw [q3]
        rfl
    · refine call_pu (v := .map none) (fun β w' hs => by
        have h := users_c w' S t (fact_old' h hl (hs.get 0 rfl)) (fun k hk => Nat.lt_of_lt_of_le (hl k hk) hs.chg.size)
        rw [h3] at h
        exact h) ?_
      refine ⟨.pointer none, fun w => zero_ptrC w, ?_⟩
      intro β w' hs
      refine hs.fin [] ⟨?_, rfl⟩
      rw [hus, h3]
      rfl
  · have he0 : ¬ e = 0 := he
    rw [if_neg he0] at hus
    intro β w' hs
    refine hs.fin [] ⟨?_, rfl⟩
    rw [hus]
    rfl
/-! ### the greatest generation; a touch -/
theorem last_c (w : World) (S : Sto) (h : (stoF S).p w) (hl : ∀ k, (stoF S).D k → k < w.heap.size) : Pu Tryz.prog n_cred_Store_Last #[ptr S.b] w (.int .u64 (S.last : Int)) := by
  have g := good_cred_Store_Last w (Un [])
  refine con_of_sx (cx := cx_cred_Store_Last w (Un [])) g b_cred_Store_Last rfl rfl (β := Va.z) [.c (.v (ptr S.b))] 0 [] [oldF w] rfl rfl (old_sat rfl) ?_
  refine ⟨.int .u64 (S.last : Int), fun β w' hs => bkc (sto_bk (fact_old' h hl (hs.get 0 rfl))) rfl, ?_⟩
  intro β w' hs
  exact hs.fin [] ⟨rfl, rfl⟩
theorem current_c (w : World) (S : Sto) (t u : ByteArray) (n : Int) (h : (stoF S).p w) (hl : ∀ k, (stoF S).D k → k < w.heap.size) (hu : u.size ≤ 100000) (hn : NamT w) :
    Pu Tryz.prog n_cred_Store_Current #[ptr S.b, .string t, .string u, .int .u64 n] w (.bool (match S.usr t u with | some c => !c.revoked && decide ((c.gen : Int) = n) | none => false)) := by
  have g := good_cred_Store_Current w (Un [])
  refine con_of_sx (cx := cx_cred_Store_Current w (Un [])) g b_cred_Store_Current rfl rfl (β := Va.z) [.c (.v (ptr S.b)), .c (.v (.string t)), .c (.v (.string u)), .c (.v (.int .u64 n))] 0 [] [oldF w] rfl rfl (old_sat rfl) ?_
  have hg := fun (w' : World) (ho : (oldF w).p w') (hz : w.heap.size ≤ w'.heap.size) => get_c w' S t u (fact_old' h hl ho) (fun k hk => Nat.lt_of_lt_of_le (hl k hk) hz) hu (hn.old ho)
  cases hc : S.usr t u with
  | none =>
    rw [hc] at hg
    refine call_pu (v := .pointer none) (fun β w' hs => hg w' (hs.get 0 rfl) hs.chg.size) ?_
    intro β w' hs
    exact hs.fin [] ⟨rfl, rfl⟩
  | some c =>
    rw [hc] at hg
    refine call_pu (v := ptr c.b) (fun β w' hs => hg w' (hs.get 0 rfl) hs.chg.size) ?_
    have hbk : ∀ w', (oldF w).p w' → (bkF c.b ty_cred_Cred c.vs).p w' := fun w' ho => by
      unfold Sto.usr at hc
      split at hc
      · rcases look_ten t S.ts with ⟨A, T, B, eT, h0, h1, h2, _⟩ | ⟨h1, h2, h3⟩
        · rw [h0] at hc
          have hc' : crdO T.us (nameA u).1 = some c := hc
          rcases look_crd (nameA u).1 T.us with ⟨U, c', V, eU, q0, q1, q2, _⟩ | ⟨q1, q2, q3⟩
          · rw [q0] at hc'
            obtain rfl := Option.some.inj hc'
            exact crd_bk (ten_crd (sto_ten (fact_old' h hl ho) eT) eU)
          · rw [q3] at hc'; cases hc'
        · rw [h3] at hc; cases hc
      · cases hc
    refine ⟨.bool c.revoked, fun β w' hs => bkc (hbk w' (hs.get 0 rfl)) rfl, ?_⟩
    cases hr : c.revoked with
    | true =>
      intro β w' hs
      refine hs.fin [] ⟨?_, rfl⟩
      show _ = Value.bool (!c.revoked && decide ((c.gen : Int) = n))
      rw [hr]
      rfl
    | false =>
      refine ⟨.int .u64 (c.gen : Int), fun β w' hs => bkc (hbk w' (hs.get 0 rfl)) rfl, ?_⟩
      intro β w' hs
      refine hs.fin [] ⟨?_, rfl⟩
      show _ = Value.bool (!c.revoked && decide ((c.gen : Int) = n))
      rw [hr]
      rfl
end Go.Proofs.YtkobpamlmfpidaaGreatDoor.Sx

/- Who there is: secrets and credentials copied; a touch. -/
namespace Go.Proofs.YtkobpamlmfpidaaGreatDoor.Sx
open Go
attribute [local irreducible] Calls

/-- A secret as it is handed about: four slices and a number. -/
structure SecV where
  A1 : Option Addr
  n1 : Nat
  c1 : Nat
  it : Int
  A2 : Option Addr
  n2 : Nat
  c2 : Nat
  A3 : Option Addr
  n3 : Nat
  c3 : Nat
  A4 : Option Addr
  n4 : Nat
  c4 : Nat
def SecV.vs (x : SecV) : List Value := [.slice x.A1 x.n1 x.c1, .int .i64 x.it, .slice x.A2 x.n2 x.c2, .slice x.A3 x.n3 x.c3, .slice x.A4 x.n4 x.c4]
def SecV.ss (x : SecV) : List SL := [.v (.slice x.A1 x.n1 x.c1), .v (.int .i64 x.it), .v (.slice x.A2 x.n2 x.c2), .v (.slice x.A3 x.n3 x.c3), .v (.slice x.A4 x.n4 x.c4)]
def rightN (x : SecV) : Bool := saltedN x.n1 x.it && (decide (x.n2 = 32) && (decide (x.n3 = 32) && decide (x.n4 = 32)))
theorem cright_c (w : World) (x : SecV) : Pu Tryz.prog n_cred_Secret_right #[.agg x.vs.toArray] w (.bool (rightN x)) := by
  have g := good_cred_Secret_right w (Un [])
  refine con_of_sx (cx := cx_cred_Secret_right w (Un [])) g b_cred_Secret_right rfl rfl (β := Va.z) [.agg x.ss] 0 [] [] rfl rfl (Sat.start rfl) ?_
  refine call_pu (fun β w' hs => csalted_c w' x.A1 x.n1 x.c1 x.it) ?_
  generalize hq : saltedN x.n1 x.it = b0
  cases b0 with
  | false =>
    intro β w' hs
    refine (hs.keepB (List.nil_sublist _)).fin [] ⟨?_, rfl⟩
    unfold rightN
    rw [hq]
    rfl
  | true =>
    conv => whnf
    generalize h1 : decide ((x.n2 : Int) = (32 : Int)) = b1
    have e1 : decide (x.n2 = 32) = b1 := by rw [← h1]; exact decide_eq_decide.2 (by omega)
    cases b1 with
    | false =>
      intro β w' hs
      refine (hs.keepB (List.nil_sublist _)).fin [] ⟨?_, rfl⟩
      unfold rightN
      rw [hq, e1]
      rfl
    | true =>
      conv => whnf
      generalize h2 : decide ((x.n3 : Int) = (32 : Int)) = b2
      have e2 : decide (x.n3 = 32) = b2 := by rw [← h2]; exact decide_eq_decide.2 (by omega)
      cases b2 with
      | false =>
        intro β w' hs
        refine (hs.keepB (List.nil_sublist _)).fin [] ⟨?_, rfl⟩
        unfold rightN
        rw [hq, e1, e2]
        rfl
      | true =>
        intro β w' hs
        refine (hs.keepB (List.nil_sublist _)).fin [] ⟨?_, rfl⟩
        unfold rightN
        rw [hq, e1, e2]
        show Value.bool (decide ((x.n4 : Int) = (32 : Int))) = _
        congr 1
        exact decide_eq_decide.2 (by omega)

/-- A secret that is read. -/
structure SRd (x : SecV) (a : ASec) (w : World) : Prop where
  n1 : x.n1 = a.salt.length
  it : x.it = a.iter
  n2 : x.n2 = a.stored.length
  n3 : x.n3 = a.server.length
  n4 : x.n4 = a.ha1.length
  r1 : Bs w x.A1 a.salt
  r2 : Bs w x.A2 a.stored
  r3 : Bs w x.A3 a.server
  r4 : Bs w x.A4 a.ha1
theorem SRd.old {x : SecV} {a : ASec} {W w : World} (h : SRd x a W) (ho : (oldF W).p w) : SRd x a w := ⟨h.n1, h.it, h.n2, h.n3, h.n4, Rd.old h.r1 ho, Rd.old h.r2 ho, Rd.old h.r3 ho, Rd.old h.r4 ho⟩
theorem SRd.right {x : SecV} {a : ASec} {w : World} (h : SRd x a w) : rightN x = rightA a := by
  unfold rightN rightA saltedN saltedA
  rw [h.n1, h.it, h.n2, h.n3, h.n4]
structure ASz (a : ASec) : Prop where
  s : a.salt.length ≤ 1000000
  d : a.stored.length ≤ 1000000
  v : a.server.length ≤ 1000000
  h : a.ha1.length ≤ 1000000
def Sec.x (y : Sec) : SecV := ⟨y.salt.A, y.salt.l.length, y.salt.c, y.iter, y.stored.A, y.stored.l.length, y.stored.c, y.server.A, y.server.l.length, y.server.c, y.ha1.A, y.ha1.l.length, y.ha1.c⟩
theorem Sec.rd {y : Sec} {w : World} (h : ∀ f ∈ y.fs, f.p w) : SRd y.x y.a w :=
  ⟨rfl, rfl, rfl, rfl, rfl, h y.salt.f (by simp [Sec.fs]), h y.stored.f (by simp [Sec.fs]), h y.server.f (by simp [Sec.fs]), h y.ha1.f (by simp [Sec.fs])⟩
theorem scopyOf_c (w : World) (x : SecV) (a : ASec) (hr : SRd x a w) (hz : ASz a) :
    Con Tryz.prog n_cred_Secret_copyOf #[.agg x.vs.toArray] w [] fun v Fs => ∃ y : Sec, y.a = a ∧ v = .agg y.vs.toArray ∧ Fs = [y.ha1.f, y.server.f, y.stored.f, y.salt.f] := by
  have g := good_cred_Secret_copyOf w (Un [])
  refine con_of_sx (cx := cx_cred_Secret_copyOf w (Un [])) g b_cred_Secret_copyOf rfl rfl (β := Va.z) [.agg x.ss] 0 [] [oldF w] rfl rfl (old_sat rfl) ?_
  have hS : ∀ {n : Nat} {F : List Fact}, Sub (cx_cred_Secret_copyOf w (Un [])) n [⟨1, ty_cred_Secret, ti47.zero.map SL.v⟩, ⟨0, ty_cred_Secret, x.ss⟩] F [⟨0, ty_cred_Secret, x.ss⟩] [] := fun {n F} => Sub.of (List.sublist_cons_self _ _) (List.nil_sublist _)
  refine draw_rule g p_cred_Secret_copyOf_1 (by kernel_rfl) [⟨0, ty_cred_Secret, x.ss⟩] [] hS ?_
  refine call_con [] (fun β w' hs => cloneRo_c w' x.A1 a.salt x.n1 x.c1 hr.n1 (Rd.old hr.r1 (hs.get 0 rfl)) hz.s) ?_
  rintro v Fs ⟨r1, e1, rfl, rfl⟩
  refine ⟨hS, ?_⟩
  refine call_con [] (fun β w' hs => cloneRo_c w' x.A2 a.stored x.n2 x.c2 hr.n2 (Rd.old hr.r2 (hs.get 1 rfl)) hz.d) ?_
  rintro v Fs ⟨r2, e2, rfl, rfl⟩
  refine ⟨hS, ?_⟩
  refine call_con [] (fun β w' hs => cloneRo_c w' x.A3 a.server x.n3 x.c3 hr.n3 (Rd.old hr.r3 (hs.get 2 rfl)) hz.v) ?_
  rintro v Fs ⟨r3, e3, rfl, rfl⟩
  refine ⟨hS, ?_⟩
  refine call_con [] (fun β w' hs => cloneRo_c w' x.A4 a.ha1 x.n4 x.c4 hr.n4 (Rd.old hr.r4 (hs.get 3 rfl)) hz.h) ?_
  rintro v Fs ⟨r4, e4, rfl, rfl⟩
  refine ⟨hS, ?_⟩
  intro β w' hs
  refine (hs.keepB (List.nil_sublist _)).fin [0, 1, 2, 3] ⟨⟨r1, x.it, r2, r3, r4⟩, ?_, rfl, rfl⟩ rfl rfl rfl ⟨rfl, rfl, rfl, rfl, trivial⟩
  show ASec.mk r1.l x.it r2.l r3.l r4.l = a
  rw [e1, e2, e3, e4, hr.it]

/-! ### texts -/
def strs (l : List ByteArray) : List Value := l.map Value.string
theorem strs_one (l : List ByteArray) : ∀ u ∈ strs l, u.oneCell' = true := by
  intro u hu
  obtain ⟨x, _, rfl⟩ := List.mem_map.1 hu
  rfl
theorem strs_len (l : List ByteArray) : (strs l).length = l.length := by simp [strs]
abbrev srowF (A : Option Addr) (l : List ByteArray) (c : Nat) : Fact := rowF ty_string 1 (.slice A l.length c) l.length (strs l)
theorem cloneS_c (w : World) (A : Option Addr) (l : List ByteArray) (c : Nat) (hr : Rd 1 A l.length (strs l) w) (hn : l.length ≤ 1000000) :
    Con Tryz.prog n_slices_Clone_string_string #[.slice A l.length c] w [] fun v Fs => ∃ A' c', v = .slice A' l.length c' ∧ l.length ≤ c' ∧ c' ≤ maxLen ∧ Fs = [srowF A' l c'] := by
  refine con_of_sx (cx := cx_slices_Clone_string_string w (Un [])) (good_slices_Clone_string_string w (Un [])) b_slices_Clone_string_string rfl rfl (β := Va.z) [.c (.v (.slice A l.length c))] 0 [] [rdF 1 A l.length (strs l)] rfl rfl ((Sat.start rfl).rd (fun _ h => by cases h) hr) ?_
  refine BIf.mk (fun h => ?_) (fun h => ?_)
  · intro β w' hs
    have hA : A = none := by simpa using h
    subst hA
    have hl : l = [] := by
      cases l with
      | nil => rfl
      | cons x r => obtain ⟨ad, q, _⟩ := hr.2 (by simp); cases q
    subst hl
    exact (hs.nilRow ty_string 1).fin [0] ⟨none, 0, rfl, Nat.le_refl _, Nat.zero_le _, rfl⟩
  intro b
  refine ⟨0, 0, l.length, [], strs l, _, rfl, fun β w hs => hs.get 1 rfl, strs_one l, Nat.zero_add _, rfl, by rw [maxLen_eq]; omega, by show l.length * 16 ≤ _; omega, ?_⟩
  intro A' c' h1 h2 h3 β w' hs
  exact hs.fin [0] ⟨A', c', rfl, h1, h2, rfl⟩

/-! ### a touch -/
theorem touched_c (w : World) (b cb last : Nat) (m r : Value) (cs : List Value) (hlen : cs.length = 10) (hlast : last < greatN) (hm : Mem w [bkF b ty_cred_Store [m, .int .u64 (last : Int), r], bkF cb ty_cred_Cred cs]) :
    Con Tryz.prog n_cred_Store_touched #[ptr b, ptr cb] w [bkF b ty_cred_Store [m, .int .u64 (last : Int), r], bkF cb ty_cred_Cred cs] fun v Fs => v = .int .i64 0 ∧ Fs = [bkF b ty_cred_Store [m, .int .u64 ((last + 1 : Nat) : Int), r], bkF cb ty_cred_Cred (putAll cs 7 [.int .u64 ((last + 1 : Nat) : Int)])] := by
  have g := good_cred_Store_touched w (Un [bkF b ty_cred_Store [m, .int .u64 (last : Int), r], bkF cb ty_cred_Cred cs])
  refine con_of_sx (cx := cx_cred_Store_touched w (Un [bkF b ty_cred_Store [m, .int .u64 (last : Int), r], bkF cb ty_cred_Cred cs])) g b_cred_Store_touched rfl rfl (β := Va.z) [.c (.v (ptr b)), .c (.v (ptr cb))] 0 [] [bkF b ty_cred_Store [m, .int .u64 (last : Int), r], bkF cb ty_cred_Cred cs] rfl rfl (hm.sat0 rfl (fun f hf ho k hk => ⟨f, hf, hk⟩)) ?_
  refine ⟨.int .u64 (last : Int), fun β w' hs => bkc (hs.get 0 rfl) rfl, ((last + 1 : Nat) : Int), ?_, ?_⟩
  · rw [wrap_u64']; unfold greatN at hlast; omega
  refine ⟨[bkF b ty_cred_Store [m, .int .u64 ((last + 1 : Nat) : Int), r], bkF cb ty_cred_Cred cs], fun β w' hs => ?_, ?_⟩
  · exact hs.bkSet 0 (o := 1) (us := [.int .u64 ((last + 1 : Nat) : Int)]) rfl (by simp) (fun u hu => by obtain rfl := List.mem_singleton.1 hu; rfl)
  refine ⟨.int .u64 ((last + 1 : Nat) : Int), fun β w' hs => bkc (hs.get 0 rfl) rfl, ?_⟩
  refine ⟨[bkF b ty_cred_Store [m, .int .u64 ((last + 1 : Nat) : Int), r], bkF cb ty_cred_Cred (putAll cs 7 [.int .u64 ((last + 1 : Nat) : Int)])], fun β w' hs => ?_, ?_⟩
  · exact hs.bkSet 1 (o := 7) (us := [.int .u64 ((last + 1 : Nat) : Int)]) rfl (by rw [hlen]; simp) (fun u hu => by obtain rfl := List.mem_singleton.1 hu; rfl)
  intro β w' hs
  exact hs.fin [0, 1] ⟨rfl, rfl⟩
end Go.Proofs.YtkobpamlmfpidaaGreatDoor.Sx

/- A map's keys, sorted: the library's contract as ours. -/
namespace Go.Proofs.YtkobpamlmfpidaaGreatDoor.Sx
open Go
attribute [local irreducible] Calls

def noRd : Value → Option (DataW Unit × List MemPlace) := fun _ => some (.nil, [])
/-- Texts, sorted. -/
def sortK (l : List ByteArray) : List ByteArray := ((l.map fun s => s.data.toList).mergeSort leB).map mkS
theorem sortK_len (l : List ByteArray) : (sortK l).length = l.length := by simp [sortK]
theorem rd_ent {P : Program} {k : TypeId} (hk : P.underlying k = some .string) {e : ME} (hs : e.1.size ≤ maxLen) : WideElems.rd P k noRd e.ent = some (.string e.1.data.toList, .nil) := by
  unfold WideElems.rd
  have h : keyOf P k e.ent.key = some (.string e.1.data.toList) := by
    simp [ME.ent, keyOf, hk, mapKey, hs]
  rw [h]
  rfl
structure KeysOk (l : ML) : Prop where
  nodup : (l.map (·.1)).Nodup
  size : ∀ p ∈ l, p.1.size ≤ maxLen
theorem owns_map {P : Program} {k : TypeId} (hk : P.underlying k = some .string) {w : World} {b : Nat} {l : ML} (h : mapP b l w) (ho : KeysOk l) (hl : l.length ≤ 1000000) :
    ∃ D : DataW Unit, w.ownsMap P k noRd b l.length D ∧ (strKeys D).Perm (l.map fun p => p.1.data.toList) ∧ Maps.size D ≤ 1000000 := by
  obtain ⟨es, c, hb, hm⟩ := h
  have hcut := hm.cut
  have hlen : es.length = l.length := by rw [← hcut, List.length_map]
  have hrg : ∀ e ∈ es, WideElems.rg P k noRd e.ent = (.string e.1.data.toList, .nil) := fun e he => by
    unfold WideElems.rg
    rw [rd_ent hk (ho.size (e.1, e.2.1) (by rw [← hcut]; exact List.mem_map.2 ⟨e, he, rfl⟩))]
    rfl
  have hmap : ((es.map ME.ent).toArray.toList.map (WideElems.rg P k noRd)) = es.map fun e => ((.string e.1.data.toList, .nil) : Lit × DataW Unit) := by
    rw [List.toList_toArray, List.map_map]
    exact List.map_congr_left fun e he => hrg e he
  refine ⟨_, ⟨_, c, hb, ⟨?_, ?_, ?_⟩, ?_, rfl⟩, ?_, ?_⟩
  · have := maxLen_eq
    simp only [List.size_toArray, List.length_map]
    omega
  · refine (MapKept.stamped_iff _ _).2 ⟨?_, ?_, ?_⟩
    · intro x hx
      rw [List.toList_toArray] at hx
      obtain ⟨e, he, rfl⟩ := List.mem_map.1 hx
      exact hm.lt e he
    · rw [List.toList_toArray, List.map_map]
      have h2 := hm.inc
      refine List.Pairwise.imp (fun {a b} q => Nat.ne_of_lt q) ?_
      have e3 : es.map ((·.born) ∘ ME.ent) = es.map (·.2.2) := rfl
      rw [e3]
      exact h2
    · rw [List.toList_toArray]
      have h2 := ho.nodup
      rw [← hcut, List.map_map] at h2
      refine List.pairwise_map.2 ?_
      have h3 := List.pairwise_map.1 h2
      refine h3.imp fun {a b} q r => q ?_
      have r' : Value.string a.1 = Value.string b.1 := r
      injection r'
  · intro x hx
    rw [List.toList_toArray] at hx
    obtain ⟨e, he, rfl⟩ := List.mem_map.1 hx
    exact ⟨_, rd_ent hk (ho.size (e.1, e.2.1) (by rw [← hcut]; exact List.mem_map.2 ⟨e, he, rfl⟩))⟩
  · simp only [List.size_toArray, List.length_map]
    omega
  · rw [hmap]
    show ((es.map fun e => ((.string e.1.data.toList, .nil) : Lit × DataW Unit)).foldr DataW.insert []).map (fun p => strOf p.1) |>.Perm _
    refine ((WideShapes.sorted_perm _).map _).trans ?_
    rw [List.map_map, ← hcut, List.map_map]
    exact List.Perm.refl _
  · rw [hmap]
    show ((es.map fun e => ((.string e.1.data.toList, .nil) : Lit × DataW Unit)).foldr DataW.insert []).length ≤ _
    rw [(WideShapes.sorted_perm _).length_eq, List.length_map]
    omega
end Go.Proofs.YtkobpamlmfpidaaGreatDoor.Sx

/- A map's keys, sorted: the two calls. -/
namespace Go.Proofs.YtkobpamlmfpidaaGreatDoor.Sx
open Go Go.Maps Go.Shelf Go.RowKit
attribute [local irreducible] Calls

theorem bk_cell0 {b ty : Nat} {v : Value} {w : World} (h : (bkF b ty [v]).p w) : w.cell? ⟨b, 0, none⟩ = some v := by
  have hb : w.heap[b]? = some (.cells [v].toArray ty (0, 0)) := h
  rw [cell_of_row w b 0 _ _ _ hb]
  rfl
theorem chg_below {w w' : World} (h : Below w.heap.size w w') : Chg None_ w w' := ⟨h.os, h.tape, h.output, h.size, fun k hk _ => h.block k hk⟩
theorem sortsS (m : Nat) : AnyZ.SortsIn Tryz.prog Tryz.sorted64_ren Fence.wide m :=
  ⟨fun blk off cap ss W hH hblk hsz => callsIn_wide.2 (AnyM.slices_Sort_string Tryz.sort90 blk off cap ss W hH hblk hsz),
   fun p cap W => callsIn_wide.2 (AnyM.slices_Sort_string_none Tryz.sort90 p cap W)⟩
/-- A row of texts. -/
abbrev trowF (A : Option Addr) (l : List ByteArray) (c : Nat) : Fact := rowF ty_string 1 (.slice A l.length c) l.length (l.map Value.string)
theorem con_trow {P : Program} {k : FuncId} {args : Array Value} {w : World} {l : List ByteArray} (h : Calls P k args w fun en w' => ∃ v, en = .returned v ∧ w'.ownsRow w.heap.size ty_string 1 v l.length (l.map Value.string) ∧ Below w.heap.size w w') :
    Con P k args w [] fun v Fs => ∃ A c, v = .slice A l.length c ∧ (0 < l.length → ∃ ad, A = some ad) ∧ Fs = [trowF A l c] := by
  refine Calls.mono h ?_
  rintro en w' ⟨v, rfl, ho, hb⟩
  obtain ⟨A, c, rfl, hA⟩ : ∃ A c, v = .slice A l.length c ∧ (0 < l.length → ∃ ad, A = some ad) := by
    rcases ho.2 with ⟨rfl, h0⟩ | ⟨g, cap, cur, rfl, _⟩
    · exact ⟨none, 0, by rw [h0], fun h => absurd h0 (by omega)⟩
    · exact ⟨_, _, rfl, fun _ => ⟨_, rfl⟩⟩
  refine ⟨_, rfl, [trowF A l c], ⟨A, c, rfl, hA, rfl⟩, by rw [Un.nil]; exact chg_below hb, ⟨fun g hg => ?_, fun g hg k hk => ?_, List.pairwise_singleton _ _⟩, ⟨rfl, trivial⟩, fun g hg k hk => ?_⟩
  · obtain rfl := List.mem_singleton.1 hg; exact ownsRow_base_a ho (Nat.zero_le _)
  · obtain rfl := List.mem_singleton.1 hg; exact (ho.lt k hk).2
  · obtain rfl := List.mem_singleton.1 hg; exact .inr (ho.lt k hk).1
theorem sorted_row {ss : List (List UInt8)} {l : List ByteArray} (h : ss.Perm (l.map fun s => s.data.toList)) : (ss.mergeSort (fun x y => decide (x ≤ y))).map Proofs.encStr = (sortK l).map Value.string := by
  unfold sortK
  rw [List.map_map]
  have e : ss.mergeSort leB = (l.map fun s => s.data.toList).mergeSort leB := mergeSort_of_perm h
  show (ss.mergeSort leB).map _ = _
  rw [e]
  exact List.map_congr_left fun a _ => rfl
/-- maps.Keys(m): an iterator, its map in a block of its own. -/
theorem keysT_c (w : World) (mb : Option Nat) : Con Tryz.prog 65 #[.map mb] w [] fun v Fs => ∃ B, v = .func (.func 91) #[] #[.pointer (some ⟨B, 0, none⟩)] ∧ Fs = [bkF B 61 [.map mb]] := by
  have h := AnyZ.keys_in Tryz.keys65 Fence.wide 5 trivial rfl mb w
  refine Calls.mono (callsIn_wide.1 h) ?_
  rintro e w' ⟨rfl, rfl⟩
  refine ⟨_, rfl, [bkF w.heap.size 61 [.map mb]], ⟨_, rfl, rfl⟩, by rw [Un.nil]; exact Chg.alloc w _, ⟨fun g hg => ?_, fun g hg k hk => ?_, List.pairwise_singleton _ _⟩, ⟨rfl, trivial⟩, fun g hg k hk => ?_⟩
  · obtain rfl := List.mem_singleton.1 hg; exact heap_alloc_new w _
  · obtain rfl := List.mem_singleton.1 hg
    obtain rfl : k = w.heap.size := hk
    simp
  · obtain rfl := List.mem_singleton.1 hg
    obtain rfl : k = w.heap.size := hk
    exact .inr (Nat.le_refl _)
/-- slices.Sorted of that. -/
theorem sortedT_c (w : World) (B b : Nat) (l : ML) (ho : KeysOk l) (hl : l.length ≤ 1000000) (hm : Mem w [bkF B 61 [.map (some b)], mapF b l]) :
    Con Tryz.prog 64 #[.func (.func 91) #[] #[.pointer (some ⟨B, 0, none⟩)]] w [] fun v Fs => ∃ A c, v = .slice A (sortK (l.map (·.1))).length c ∧ (0 < (sortK (l.map (·.1))).length → ∃ ad, A = some ad) ∧ Fs = [trowF A (sortK (l.map (·.1))) c] := by
  have hml := maxLen_eq
  have hB := hm.fact _ List.mem_cons_self
  have hbm : mapP b l w := hm.fact (mapF b l) (by simp)
  have hBl : B < w.heap.size := hm.flt _ List.mem_cons_self B rfl
  obtain ⟨D, hown, hperm, hsz⟩ := owns_map (P := Tryz.prog) (k := ty_string) Tryz.underlying9 hbm ho hl
  have hseq : SeqGives Fence.wide 2 Tryz.prog 91 #[.pointer (some ⟨B, 0, none⟩)] Proofs.encStr (fun ss => ss.Perm (strKeys D)) (Maps.size D) w :=
    AnyZ.keys_gives (ρ := Tryz.keys65_ren) { Tryz.keys65 with } Fence.wide _ trivial rfl (by omega) B b l.length D w hBl (bk_cell0 hB) hown
  have cS := AnyZ.sorted_in Tryz.sorted64 Fence.wide 5 trivial trivial trivial trivial rfl (by omega) (sortsS _) (enters_of Tryz.func90 (by kernel_rfl) rfl) 91 #[.pointer (some ⟨B, 0, none⟩)] trivial (enters_of Tryz.func91 (by kernel_rfl) rfl) _ _ (by omega) (by omega) w hseq
  have hlen : (sortK (l.map (·.1))).length = l.length := by rw [sortK_len, List.length_map]
  refine con_trow (Calls.mono (callsIn_wide.1 cS) ?_)
  rintro e w' ⟨v, ss, rfl, hS, hrow, _, hb⟩
  have hp2 : ss.Perm ((l.map (·.1)).map fun s => s.data.toList) := by
    rw [List.map_map]
    exact hS.trans hperm
  have hsl : ss.length = (sortK (l.map (·.1))).length := by rw [hlen, hp2.length_eq]; simp
  rw [sorted_row hp2, hsl] at hrow
  exact ⟨v, rfl, hrow, hb⟩
/-- maps.Keys(m): an iterator, its map in a block of its own. -/
theorem keysU_c (w : World) (mb : Option Nat) : Con Tryz.prog 68 #[.map mb] w [] fun v Fs => ∃ B, v = .func (.func 92) #[] #[.pointer (some ⟨B, 0, none⟩)] ∧ Fs = [bkF B 98 [.map mb]] := by
  have h := AnyZ.keys_in Tryz.keys68 Fence.wide 5 trivial rfl mb w
  refine Calls.mono (callsIn_wide.1 h) ?_
  rintro e w' ⟨rfl, rfl⟩
  refine ⟨_, rfl, [bkF w.heap.size 98 [.map mb]], ⟨_, rfl, rfl⟩, by rw [Un.nil]; exact Chg.alloc w _, ⟨fun g hg => ?_, fun g hg k hk => ?_, List.pairwise_singleton _ _⟩, ⟨rfl, trivial⟩, fun g hg k hk => ?_⟩
  · obtain rfl := List.mem_singleton.1 hg; exact heap_alloc_new w _
  · obtain rfl := List.mem_singleton.1 hg
    obtain rfl : k = w.heap.size := hk
    simp
  · obtain rfl := List.mem_singleton.1 hg
    obtain rfl : k = w.heap.size := hk
    exact .inr (Nat.le_refl _)
/-- slices.Sorted of that. -/
theorem sortedU_c (w : World) (B b : Nat) (l : ML) (ho : KeysOk l) (hl : l.length ≤ 1000000) (hm : Mem w [bkF B 98 [.map (some b)], mapF b l]) :
    Con Tryz.prog 64 #[.func (.func 92) #[] #[.pointer (some ⟨B, 0, none⟩)]] w [] fun v Fs => ∃ A c, v = .slice A (sortK (l.map (·.1))).length c ∧ (0 < (sortK (l.map (·.1))).length → ∃ ad, A = some ad) ∧ Fs = [trowF A (sortK (l.map (·.1))) c] := by
  have hml := maxLen_eq
  have hB := hm.fact _ List.mem_cons_self
  have hbm : mapP b l w := hm.fact (mapF b l) (by simp)
  have hBl : B < w.heap.size := hm.flt _ List.mem_cons_self B rfl
  obtain ⟨D, hown, hperm, hsz⟩ := owns_map (P := Tryz.prog) (k := ty_string) Tryz.underlying9 hbm ho hl
  have hseq : SeqGives Fence.wide 2 Tryz.prog 92 #[.pointer (some ⟨B, 0, none⟩)] Proofs.encStr (fun ss => ss.Perm (strKeys D)) (Maps.size D) w :=
    AnyZ.keys_gives (ρ := Tryz.keys68_ren) { Tryz.keys68 with } Fence.wide _ trivial rfl (by omega) B b l.length D w hBl (bk_cell0 hB) hown
  have cS := AnyZ.sorted_in Tryz.sorted64 Fence.wide 5 trivial trivial trivial trivial rfl (by omega) (sortsS _) (enters_of Tryz.func90 (by kernel_rfl) rfl) 92 #[.pointer (some ⟨B, 0, none⟩)] trivial (enters_of Tryz.func92 (by kernel_rfl) rfl) _ _ (by omega) (by omega) w hseq
  have hlen : (sortK (l.map (·.1))).length = l.length := by rw [sortK_len, List.length_map]
  refine con_trow (Calls.mono (callsIn_wide.1 cS) ?_)
  rintro e w' ⟨v, ss, rfl, hS, hrow, _, hb⟩
  have hp2 : ss.Perm ((l.map (·.1)).map fun s => s.data.toList) := by
    rw [List.map_map]
    exact hS.trans hperm
  have hsl : ss.length = (sortK (l.map (·.1))).length := by rw [hlen, hp2.length_eq]; simp
  rw [sorted_row hp2, hsl] at hrow
  exact ⟨v, rfl, hrow, hb⟩
end Go.Proofs.YtkobpamlmfpidaaGreatDoor.Sx

/- Who there is: a store opened at one user, and shut. -/
namespace Go.Proofs.YtkobpamlmfpidaaGreatDoor.Sx
open Go
attribute [local irreducible] Calls

/-! ### facts cut anew -/
noncomputable def cx0 (w : World) (S : Nat → Prop) : Cx := ⟨Tryz.prog, w, S, 0, [], [], [], none, []⟩
theorem Sat.recut {cx : Cx} {β : Va} {n : Nat} {H : List Bk} {F : List Fact} {w : World} (h : Sat cx β n H F w) (js : List Nat) {F0 Fs : List Fact} (hre : Sat (cx0 w (Un F0)) Va.z 0 [] F0 w → Sat (cx0 w (Un F0)) Va.z 0 [] Fs w)
    (htk : takeIx F js = F0 := by rfl) (hn : nodupB js = true := by rfl) (ho : Owns F0 := by first | exact ⟨rfl, trivial⟩ | exact ⟨rfl, rfl, trivial⟩ | exact ⟨rfl, rfl, rfl, trivial⟩ | exact ⟨rfl, rfl, rfl, rfl, trivial⟩) (ho' : Owns Fs := by first | exact ⟨rfl, trivial⟩ | exact ⟨rfl, rfl, trivial⟩ | exact ⟨rfl, rfl, rfl, trivial⟩ | exact ⟨rfl, rfl, rfl, rfl, trivial⟩) :
    Sat cx β n H (Fs ++ dropIx js 0 F) w := by
  subst htk
  have hm := h.mem.take hn
  have h1 := hre (hm.sat0 rfl (fun f hf ho k hk => ⟨f, hf, hk⟩))
  refine h.swap js ho (Chg.refl _ _) h1.mem (fun f hf k hk => .inl ?_)
  rcases h1.fown f hf (ho'.mem f hf) k hk with q | q
  · exact q
  · exact absurd (h1.flt f hf k hk) (Nat.not_lt.2 q)

/-- What stands beside one user. -/
def restF (m : Nat) (ml : ML) (AB : List Ten) (mb : Nat) (mm : ML) (UV : List Crd) : Fact := sepF [mapF m ml, sepF (AB.map tenF), mapF mb mm, sepF (UV.map crdF)]
section
variable {c0 : Cx} {w : World}
theorem sto_open {S : Sto} {A B : List Ten} {T : Ten} {U V : List Crd} {c : Crd} (hT : S.ts = A ++ T :: B) (hc : T.us = U ++ c :: V) (h0 : Sat c0 Va.z 0 [] [stoF S] w) :
    Sat c0 Va.z 0 [] [bkF S.b ty_cred_Store S.vs, bkF c.b ty_cred_Cred c.vs, sepF c.parts, restF S.m S.ml (A ++ B) T.b T.m (U ++ V)] w := by
  have h1 := h0.unsep 0 rfl
  have h2 := h1.focus 2 (A := A.map tenF) (B := B.map tenF) (x := tenF T) (by show some (sepF (S.ts.map tenF)) = _; rw [hT, List.map_append, List.map_cons]) rfl
  have h3 := h2.unsep 0 rfl
  have h4 := h3.focus 1 (A := U.map crdF) (B := V.map crdF) (x := crdF c) (by show some (sepF (T.us.map crdF)) = _; rw [hc, List.map_append, List.map_cons]) rfl
  have h5 := h4.unsep 0 rfl
  have h6 := h5.sep [1, 2, 3, 4, 5] rfl ⟨rfl, rfl, rfl, rfl, rfl, trivial⟩
  have h7 := h6.sep [6, 4, 3, 2] rfl ⟨rfl, rfl, rfl, rfl, trivial⟩
  have h8 := h7.perm [3, 2, 1, 0]
  unfold restF
  rw [List.map_append, List.map_append]
  exact h8
theorem sto_shut {S S' : Sto} {A B : List Ten} {T : Ten} {U V : List Crd} {c c' : Crd} (hT : S.ts = A ++ T :: B) (hc : T.us = U ++ c :: V) (hb : c'.b = c.b) (hu : c'.user = c.user) (hS : S' = { S with ts := A ++ { T with us := U ++ c' :: V } :: B, last := S'.last, reads := S'.reads })
    (h0 : Sat c0 Va.z 0 [] [bkF S.b ty_cred_Store S'.vs, bkF c.b ty_cred_Cred c'.vs, sepF c'.parts, restF S.m S.ml (A ++ B) T.b T.m (U ++ V)] w) : Sat c0 Va.z 0 [] [stoF S'] w := by
  have e1 : T.m = (U ++ c' :: V).map fun c : Crd => (c.user, ptr c.b) := by
    unfold Ten.m
    rw [hc]
    simp [hb, hu]
  have e2 : S.ml = S'.ml := by
    unfold Sto.ml
    rw [hS, hT]
    simp
  unfold restF at h0
  rw [List.map_append, List.map_append, e1, e2] at h0
  have h1 := h0.unsep 3 rfl
  have h2 := h1.unsep 6 rfl
  have h3 := h2.sep [10, 0, 1, 2, 3, 4] rfl ⟨rfl, rfl, rfl, rfl, rfl, rfl, trivial⟩
  have h3' : Sat c0 Va.z 0 [] [crdF c', mapF S.m S'.ml, sepF (A.map tenF ++ B.map tenF), mapF T.b ((U ++ c' :: V).map fun c : Crd => (c.user, ptr c.b)), sepF (U.map crdF ++ V.map crdF), bkF S.b ty_cred_Store S'.vs] w := by
    have : crdF c' = sepF (bkF c.b ty_cred_Cred c'.vs :: c'.parts) := by unfold crdF Crd.fs; rw [hb]
    rw [this]
    exact h3
  have h4 := h3'.blur 0 4 (A := U.map crdF) (B := V.map crdF) (x := crdF c') rfl rfl rfl (by decide)
  have h5 := h4.sep [3, 0]
  have h5' : Sat c0 Va.z 0 [] [tenF { T with us := U ++ c' :: V }, mapF S.m S'.ml, sepF (A.map tenF ++ B.map tenF), bkF S.b ty_cred_Store S'.vs] w := by
    have : tenF { T with us := U ++ c' :: V } = sepF [mapF T.b ((U ++ c' :: V).map fun c : Crd => (c.user, ptr c.b)), sepF (U.map crdF ++ crdF c' :: V.map crdF)] := by
      unfold tenF Ten.m
      simp
    rw [this]
    exact h5
  have h6 := h5'.blur 0 2 (A := A.map tenF) (B := B.map tenF) (x := tenF { T with us := U ++ c' :: V }) rfl rfl rfl (by decide)
  have h7 := h6.sep [2, 1, 0]
  have : stoF S' = sepF [bkF S.b ty_cred_Store S'.vs, mapF S.m S'.ml, sepF (A.map tenF ++ tenF { T with us := U ++ c' :: V } :: B.map tenF)] := by
    unfold stoF
    rw [hS]
    simp
  rw [this]
  exact h7
end
theorem mput_end : ∀ {l : ML} {s : ByteArray} {v : Value}, mlook l s = none → mput l s v = l ++ [(s, v)]
  | [], _, _, _ => rfl
  | (k, u) :: r, s, v, h => by
    simp only [mlook] at h
    split at h
    · cases h
    · rename_i hne
      simp only [mput, if_neg hne, List.cons_append]
      rw [mput_end h]

/-! ### what is only read -/
def secF (x : SecV) (a : ASec) : Fact where
  own := false
  D := Un [bsF x.A1 a.salt, bsF x.A2 a.stored, bsF x.A3 a.server, bsF x.A4 a.ha1]
  p := SRd x a
  st := fun w w' hs h => ⟨h.n1, h.it, h.n2, h.n3, h.n4, (bsF x.A1 a.salt).st w w' (fun k hk => hs k ⟨_, by simp, hk⟩) h.r1, (bsF x.A2 a.stored).st w w' (fun k hk => hs k ⟨_, by simp, hk⟩) h.r2, (bsF x.A3 a.server).st w w' (fun k hk => hs k ⟨_, by simp, hk⟩) h.r3, (bsF x.A4 a.ha1).st w w' (fun k hk => hs k ⟨_, by simp, hk⟩) h.r4⟩

/-! ### nobody -/
def sto0 (b m : Nat) : Sto := ⟨b, m, [], 0, 0⟩
theorem cnew_c (w : World) : Con Tryz.prog n_cred_New #[] w [] fun v Fs => ∃ b m, v = ptr b ∧ Fs = [stoF (sto0 b m)] := by
  have g := good_cred_New w (Un [])
  refine con_of_sx (cx := cx_cred_New w (Un [])) g b_cred_New rfl rfl (β := Va.z) [] 0 [] [] rfl rfl (Sat.start rfl) ?_
  intro m
  intro β w' hs
  have h1 := (hs.ofBk).noMem (sepF []) ⟨fun f hf => (by cases hf), List.Pairwise.nil⟩ (fun k hk => by obtain ⟨f, hf, _⟩ := hk; cases hf)
  have h2 := h1.sep [1, 2, 0]
  exact h2.fin [0] ⟨β 0, m, rfl, rfl⟩
end Go.Proofs.YtkobpamlmfpidaaGreatDoor.Sx

/- Who there is: tenants and users that come. -/
namespace Go.Proofs.YtkobpamlmfpidaaGreatDoor.Sx
open Go
attribute [local irreducible] Calls

def addT (X : ASto) (t : ByteArray) : Int × ASto :=
  if plainF t.data.toList = false then (5, X) else if (aten X.ts t).isSome then (7, X) else if 8 ≤ X.ts.length then (8, X) else (0, { X with ts := X.ts ++ [(t, [])] })
/-- What an operation leaves. -/
def stoOut (S : Sto) (r : Int × ASto) (v : Value) (Fs : List Fact) : Prop := ∃ S' : Sto, v = .int .i64 r.1 ∧ S'.a = r.2 ∧ S'.b = S.b ∧ Fs = [stoF S']
theorem stoOut_same {S : Sto} {r : Int × ASto} {e : Int} (h : r = (e, S.a)) : stoOut S r (.int .i64 e) [stoF S] := ⟨S, by rw [h], by rw [h], rfl, rfl⟩
theorem ml_len (S : Sto) : S.ml.length = S.a.ts.length := by simp [Sto.ml, Sto.a]

theorem mlook_end : ∀ {l : ML} {s : ByteArray} {v : Value}, mlook l s = none → mlook (l ++ [(s, v)]) s = some v
  | [], s, v, _ => by simp [mlook]
  | (k, u) :: r, s, v, h => by
    simp only [mlook] at h
    split at h
    · cases h
    · rename_i hne
      simp only [List.cons_append, mlook, if_neg hne]
      exact mlook_end h
theorem sto_addT {c0 : Cx} {w : World} {S : Sto} {t : ByteArray} {mb : Nat} (h0 : Sat c0 Va.z 0 [] [bkF S.b ty_cred_Store S.vs, mapF S.m (S.ml ++ [(t, .map (some mb))]), sepF (S.ts.map tenF), mapF mb []] w) :
    Sat c0 Va.z 0 [] [stoF { S with ts := S.ts ++ [⟨mb, t, []⟩] }] w := by
  have h1 := h0.noMem (sepF []) ⟨fun f hf => (by cases hf), List.Pairwise.nil⟩ (fun k hk => by obtain ⟨f, hf, _⟩ := hk; cases hf)
  have h2 := h1.sep [4, 0]
  have h3 := h2.blur 0 3 (A := S.ts.map tenF) (B := []) (x := tenF ⟨mb, t, []⟩) rfl (by show some (sepF (S.ts.map tenF)) = _; rw [List.append_nil]) rfl (by decide)
  have h4 := h3.sep [1, 2, 0]
  have e : stoF { S with ts := S.ts ++ [⟨mb, t, []⟩] } = sepF [bkF S.b ty_cred_Store S.vs, mapF S.m (S.ml ++ [(t, .map (some mb))]), sepF (S.ts.map tenF ++ [tenF ⟨mb, t, []⟩])] := by
    unfold stoF Sto.ml
    simp [Sto.vs]
  rw [e]
  exact h4
theorem addTenant_c (w : World) (S : Sto) (t : ByteArray) (ht : t.size ≤ 100000) (hm : Mem w [stoF S]) : Con Tryz.prog n_cred_Store_AddTenant #[ptr S.b, .string t] w [stoF S] (stoOut S (addT S.a t)) := by
  have g := good_cred_Store_AddTenant w (Un [stoF S])
  refine con_of_sx (cx := cx_cred_Store_AddTenant w (Un [stoF S])) g b_cred_Store_AddTenant rfl rfl (β := Va.z) [.c (.v (ptr S.b)), .c (.v (.string t))] 0 [] [stoF S] rfl rfl (hm.sat0 rfl (fun f hf ho k hk => ⟨f, hf, hk⟩)) ?_
  refine call_pu (fun β w' hs => plain_c w' t ht) ?_
  generalize hp : plainF t.data.toList = bp
  cases bp with
  | false =>
    intro β w' hs
    exact hs.fin [0] (stoOut_same (by unfold addT; rw [if_pos hp]))
  | true =>
    have hp' : ¬ plainF t.data.toList = false := by rw [hp]; decide
    rcases look_ten t S.ts with ⟨A, T, B, eT, h0, h1, h2, h3, _⟩ | ⟨h1, h2, h3⟩
    · refine call_pu (v := .map (some T.b)) (fun β w' hs => by
        have h := users_c w' S t (hs.get 0 rfl) (hs.getLt 0 rfl)
        rw [h0] at h
        exact h) ?_
      intro β w' hs
      refine hs.fin [0] (stoOut_same ?_)
      unfold addT
      rw [if_neg hp', if_pos (by show (aten (S.ts.map Ten.a) t).isSome = true; rw [h3]; rfl)]
    · refine call_pu (v := .map none) (fun β w' hs => by
        have h := users_c w' S t (hs.get 0 rfl) (hs.getLt 0 rfl)
        rw [h3] at h
        exact h) ?_
      have h2' : ¬ (aten S.a.ts t).isSome = true := by show ¬ (aten (S.ts.map Ten.a) t).isSome = true; rw [h2]; simp
      have hl := ml_len S
      refine ⟨.map (some S.m), fun β w' hs => bkc (sto_bk (hs.get 0 rfl)) rfl, ?_⟩
      refine ⟨S.ml, fun β w' hs => sto_map (hs.get 0 rfl), ?_⟩
      refine BIf.dec (fun hf => ?_) (fun hf => ?_)
      · have hf0 : (8 : Int) ≤ (S.ml.length : Int) := hf
        intro β w' hs
        refine hs.fin [0] (stoOut_same ?_)
        unfold addT
        rw [if_neg hp', if_neg h2', if_pos (by omega)]
      · have hf0 : ¬ (8 : Int) ≤ (S.ml.length : Int) := hf
        refine ⟨.map (some S.m), fun β w' hs => bkc (sto_bk (hs.get 0 rfl)) rfl, ?_⟩
        intro mb
        refine ⟨[], fun _ => [stoF { S with ts := S.ts ++ [⟨mb, t, []⟩] }], fun β w' hs => ?_, fun _ => ?_⟩
        · have q1 := hs.unsep 1 rfl
          obtain ⟨w2, q2, q3⟩ := q1.mapPut g 1 rfl (t := ty_map_string_map_string_ptr_cred_Cred) t (.map (some mb))
          rw [mput_end (show mlook S.ml t = none from h1)] at q3
          exact ⟨w2, 0, q2, q3.recut [0, 1, 2, 3] sto_addT⟩
        · intro β w' hs
          refine hs.fin [0] ⟨{ S with ts := S.ts ++ [⟨mb, t, []⟩] }, ?_, ?_, rfl, rfl⟩
          · unfold addT
            rw [if_neg hp', if_neg h2', if_neg (by omega)]
            rfl
          · unfold addT
            rw [if_neg hp', if_neg h2', if_neg (by omega)]
            show ASto.mk ((S.ts ++ [(⟨mb, t, []⟩ : Ten)]).map Ten.a) _ _ = _
            rw [List.map_append]
            rfl

/-! ### a user more -/
def addU (X : ASto) (t u : ByteArray) (a : ASec) : Int × ASto :=
  match aten X.ts t with
  | none => (6, X)
  | some us => if (nameA u).2 = 0 then if rightA a = false then (4, X) else if (ausr us (nameA u).1).isSome then (7, X) else if 32 ≤ us.length then (8, X) else if greatN ≤ X.last then (8, X) else
      (0, { X with ts := atenU X.ts t (fun us => us ++ [⟨t, (nameA u).1, a, X.last + 1, [], false⟩]), last := X.last + 1 })
    else ((nameA u).2, X)
def newCrd (b : Nat) (t n : ByteArray) (y : Sec) (gen : Nat) : Crd := ⟨b, t, n, y, gen, none, 0, [], false⟩
theorem sto_addU {c0 : Cx} {w : World} {S : Sto} {A B : List Ten} {T : Ten} {n : ByteArray} {c : Crd} {last : Nat} (hT : S.ts = A ++ T :: B) (hn : c.user = n)
    (h0 : Sat c0 Va.z 0 [] [bkF S.b ty_cred_Store [.map (some S.m), .int .u64 (last : Int), .int .u64 S.reads], bkF c.b ty_cred_Cred c.vs, sepF c.parts, mapF T.b (T.m ++ [(n, ptr c.b)]), sepF (T.us.map crdF), mapF S.m S.ml, sepF ((A ++ B).map tenF)] w) :
    Sat c0 Va.z 0 [] [stoF { S with ts := A ++ { T with us := T.us ++ [c] } :: B, last := last }] w := by
  have h1 := h0.unsep 2 rfl
  have h2 := h1.sep [6, 0, 1, 2, 3, 4] rfl ⟨rfl, rfl, rfl, rfl, rfl, rfl, trivial⟩
  have h3 := h2.blur 0 3 (A := T.us.map crdF) (B := []) (x := crdF c) rfl (by show some (sepF (T.us.map crdF)) = _; rw [List.append_nil]) rfl (by decide)
  have h4 := h3.sep [2, 0]
  have e1 : tenF { T with us := T.us ++ [c] } = sepF [mapF T.b (T.m ++ [(n, ptr c.b)]), sepF (T.us.map crdF ++ [crdF c])] := by
    unfold tenF Ten.m
    simp [hn]
  have h4' : Sat c0 Va.z 0 [] [tenF { T with us := T.us ++ [c] }, bkF S.b ty_cred_Store [.map (some S.m), .int .u64 (last : Int), .int .u64 S.reads], mapF S.m S.ml, sepF (A.map tenF ++ B.map tenF)] w := by
    rw [e1, ← List.map_append]
    exact h4
  have h5 := h4'.blur 0 3 (A := A.map tenF) (B := B.map tenF) (x := tenF { T with us := T.us ++ [c] }) rfl rfl rfl (by decide)
  have h6 := h5.sep [1, 2, 0]
  have e : stoF { S with ts := A ++ { T with us := T.us ++ [c] } :: B, last := last } = sepF [bkF S.b ty_cred_Store [.map (some S.m), .int .u64 (last : Int), .int .u64 S.reads], mapF S.m S.ml, sepF (A.map tenF ++ tenF { T with us := T.us ++ [c] } :: B.map tenF)] := by
    unfold stoF Sto.ml
    rw [hT]
    simp [Sto.vs]
  rw [e]
  exact h6
theorem sto_openT {c0 : Cx} {w : World} {S : Sto} {A B : List Ten} {T : Ten} (hT : S.ts = A ++ T :: B) (h0 : Sat c0 Va.z 0 [] [stoF S] w) :
    Sat c0 Va.z 0 [] [bkF S.b ty_cred_Store S.vs, mapF T.b T.m, sepF (T.us.map crdF), mapF S.m S.ml, sepF ((A ++ B).map tenF)] w := by
  have h1 := h0.unsep 0 rfl
  have h2 := h1.focus 2 (A := A.map tenF) (B := B.map tenF) (x := tenF T) (by show some (sepF (S.ts.map tenF)) = _; rw [hT, List.map_append, List.map_cons]) rfl
  have h3 := h2.unsep 0 rfl
  have h4 := h3.perm [3, 0, 1, 4, 2]
  rw [List.map_append]
  exact h4
set_option maxHeartbeats 1000000 in
theorem add_c (w : World) (S : Sto) (t u : ByteArray) (x : SecV) (a : ASec) (hu : u.size ≤ 100000) (hz : ASz a) (hm : Mem w [stoF S, secF x a, namF]) :
    Con Tryz.prog n_cred_Store_Add #[ptr S.b, .string t, .string u, .agg x.vs.toArray] w [stoF S] (stoOut S (addU S.a t u a)) := by
  have g := good_cred_Store_Add w (Un [stoF S])
  refine con_of_sx (cx := cx_cred_Store_Add w (Un [stoF S])) g b_cred_Store_Add rfl rfl (β := Va.z) [.c (.v (ptr S.b)), .c (.v (.string t)), .c (.v (.string u)), .agg x.ss] 0 [] [stoF S, secF x a, namF] rfl rfl (hm.sat0 rfl (ownIn (Gs := [stoF S]) (fun f hf => by
    simp only [List.mem_cons, List.not_mem_nil, or_false] at hf
    rcases hf with rfl | rfl <;> rfl))) ?_
  rcases look_ten t S.ts with ⟨A, T, B, eT, h0, h1, h2, h3, h4, _⟩ | ⟨h1, h2, h3⟩
  rotate_left
  · refine call_pu (v := .map none) (fun β w' hs => by
      have h := users_c w' S t (hs.get 0 rfl) (hs.getLt 0 rfl)
      rw [h3] at h
      exact h) ?_
    intro β w' hs
    refine (hs.keepB (List.nil_sublist _)).fin [0] (stoOut_same ?_)
    unfold addU
    rw [show aten S.a.ts t = none from h2]
  refine call_pu (v := .map (some T.b)) (fun β w' hs => by
    have h := users_c w' S t (hs.get 0 rfl) (hs.getLt 0 rfl)
    rw [h0] at h
    exact h) ?_
  obtain ⟨p, e, hpe⟩ : ∃ p e, nameA u = (p, e) := ⟨_, _, rfl⟩
  have hadd : addU S.a t u a = if e = 0 then if rightA a = false then (4, S.a) else if (ausr (T.us.map Crd.a) p).isSome then (7, S.a) else if 32 ≤ (T.us.map Crd.a).length then (8, S.a) else if greatN ≤ S.last then (8, S.a) else
      (0, { S.a with ts := atenU S.a.ts t (fun us => us ++ [⟨t, p, a, S.last + 1, [], false⟩]), last := S.last + 1 }) else (e, S.a) := by
    unfold addU
    rw [show aten S.a.ts t = _ from h3, hpe]
    rfl
  refine call_pu (v := .tuple #[.string p, .int .i64 e]) (fun β w' hs => by
    have h := nameA_c w' u hu (namF_T (hs.get 2 rfl))
    rw [hpe] at h
    exact h) ?_
  refine BIf.not (BIf.dec (fun he => ?_) (fun he => ?_))
  rotate_left
  · have he0 : ¬ e = 0 := he
    rw [if_neg he0] at hadd
    intro β w' hs
    exact (hs.keepB (List.nil_sublist _)).fin [0] (stoOut_same hadd)
  have he0 : e = 0 := he
  rw [if_pos he0] at hadd
  refine call_pu (fun β w' hs => cright_c w' x) ?_
  have hri : rightN x = rightA a := (hm.fact (secF x a) (by simp)).right
  rw [hri]
  generalize hr : rightA a = br at hadd
  cases br with
  | false =>
    rw [if_pos rfl] at hadd
    intro β w' hs
    exact (hs.keepB (List.nil_sublist _)).fin [0] (stoOut_same hadd)
  | true =>
  rw [if_neg (by decide)] at hadd
  refine ⟨.pointer none, fun w => zero_ptrC w, T.m, mlook T.m p, fun β w' hs => ten_map (sto_ten (hs.get 0 rfl) eT), rfl, ?_⟩
  rcases look_crd p T.us with ⟨U, c, V, eU, q0, q1, q2, q3, _⟩ | ⟨q1, q2, q3⟩
  · rw [show mlook T.m p = _ from q2]
    rw [q3, if_pos (show (some c.a).isSome = true from rfl)] at hadd
    intro β w' hs
    exact (hs.keepB (List.nil_sublist _)).fin [0] (stoOut_same hadd)
  rw [show mlook T.m p = _ from q1]
  rw [q2, if_neg (show ¬ (none : Option ACrd).isSome = true from fun h => by cases h)] at hadd
  have hml : T.m.length = (T.us.map Crd.a).length := by simp [Ten.m]
  refine ⟨T.m, fun β w' hs => ten_map (sto_ten (hs.get 0 rfl) eT), ?_⟩
  rw [← hml] at hadd
  refine BIf.dec (fun hf => ?_) (fun hf => ?_)
  · have hf0 : (32 : Int) ≤ (T.m.length : Int) := hf
    rw [if_pos (by omega)] at hadd
    intro β w' hs
    exact (hs.keepB (List.nil_sublist _)).fin [0] (stoOut_same hadd)
  have hf0 : ¬ (32 : Int) ≤ (T.m.length : Int) := hf
  rw [if_neg (by omega)] at hadd
  refine ⟨.int .u64 (S.last : Int), fun β w' hs => bkc (sto_bk (hs.get 0 rfl)) rfl, ?_⟩
  refine BIf.dec (fun hg => ?_) (fun hg => ?_)
  · have hg0 : (9007199254740992 : Int) ≤ (S.last : Int) := hg
    rw [if_pos (by unfold greatN; omega)] at hadd
    intro β w' hs
    exact (hs.keepB (List.nil_sublist _)).fin [0] (stoOut_same hadd)
  have hg0 : ¬ (9007199254740992 : Int) ≤ (S.last : Int) := hg
  have hgl : S.last < greatN := by unfold greatN; omega
  rw [if_neg (by unfold greatN; omega)] at hadd
  refine call_con [] (fun β w' hs => scopyOf_c w' x a (hs.get 1 rfl) hz) ?_
  rintro v Fs ⟨y, hy, rfl, rfl⟩
  refine ⟨[⟨0, ty_cred_Secret, x.ss⟩], fun yb => [bkF S.b ty_cred_Store S.vs, bkF yb ty_cred_Cred (newCrd yb t p y 0).vs, sepF (newCrd yb t p y 0).parts, mapF T.b (T.m ++ [(p, ptr yb)]), sepF (T.us.map crdF), mapF S.m S.ml, sepF ((A ++ B).map tenF), secF x a, namF], fun β w' hs => ?_, fun yb => ?_⟩
  · have k1 := hs.ofBk
    have k2 := k1.noMem (strsF none []) ⟨rfl, fun q => by cases q⟩ (fun k hk => by obtain ⟨q, _⟩ := hk; cases q)
    have k3 := k2.sep [0, 5, 4, 3, 2] rfl ⟨rfl, rfl, rfl, rfl, rfl, trivial⟩
    have k4 := k3.recut [2] (sto_openT eT) rfl rfl ⟨rfl, trivial⟩ ⟨rfl, rfl, rfl, rfl, rfl, trivial⟩
    obtain ⟨w2, k5, k6⟩ := k4.mapPut g 1 rfl (t := ty_map_string_ptr_cred_Cred) p (ptr (β 1))
    rw [mput_end (show mlook T.m p = none from q1)] at k6
    exact ⟨w2, β 1, k5, k6.perm [0, 6, 5, 1, 2, 3, 4, 7, 8]⟩
  refine ⟨.pointer none, fun w => zero_ptrC w, T.m ++ [(p, ptr yb)], some (ptr yb), fun β w' hs => hs.get 3 rfl, mlook_end (show mlook T.m p = none from q1), ?_⟩
  refine call_con [0, 1] (fun β w' hs => touched_c w' S.b yb S.last (.map (some S.m)) (.int .u64 S.reads) (newCrd yb t p y 0).vs rfl hgl (hs.mem.take (js := [0, 1]) rfl)) ?_
  rintro v Fs ⟨rfl, rfl⟩
  intro β w' hs
  have k := (hs.keepB (List.nil_sublist _)).recut [0, 1, 2, 3, 4, 5, 6] (sto_addU (S := S) (c := newCrd yb t p y (S.last + 1)) (last := S.last + 1) eT rfl) rfl rfl ⟨rfl, rfl, rfl, rfl, rfl, rfl, rfl, trivial⟩
  refine k.fin [0] ⟨{ S with ts := A ++ { T with us := T.us ++ [newCrd yb t p y (S.last + 1)] } :: B, last := S.last + 1 }, by rw [hadd]; rfl, ?_, rfl, rfl⟩
  rw [hadd]
  have k8 := h4 { T with us := T.us ++ [newCrd yb t p y (S.last + 1)] } (fun us => us ++ [⟨t, p, a, S.last + 1, [], false⟩]) h1 (by
    rw [List.map_append]
    show _ ++ [Crd.a (newCrd yb t p y (S.last + 1))] = _
    congr 2
    show ACrd.mk t p y.a (S.last + 1) [] false = _
    rw [hy])
  show ASto.mk _ _ _ = ASto.mk _ _ _
  rw [k8]
  rfl
end Go.Proofs.YtkobpamlmfpidaaGreatDoor.Sx

/- The tenants, rising. -/
namespace Go.Proofs.YtkobpamlmfpidaaGreatDoor.Sx
open Go
attribute [local irreducible] Calls

theorem Mem.part2 {w : World} {f g g' : Fact} (h : Mem w [f, g]) (hf : f.own = true) (hp : g'.p w) (hD : ∀ k, g'.D k → g.D k) : Mem w [f, g'] := by
  have hs := (List.pairwise_cons.1 h.sepf).1 g (by simp) (.inl hf)
  refine ⟨fun x hx => ?_, fun x hx k hk => ?_, List.pairwise_cons.2 ⟨fun x hx _ k hk hk' => ?_, List.pairwise_singleton _ _⟩⟩
  · simp only [List.mem_cons, List.not_mem_nil, or_false] at hx
    rcases hx with rfl | rfl
    · exact h.fact _ (by simp)
    · exact hp
  · simp only [List.mem_cons, List.not_mem_nil, or_false] at hx
    rcases hx with rfl | rfl
    · exact h.flt _ (by simp) k hk
    · exact h.flt g (by simp) k (hD k hk)
  · obtain rfl := List.mem_singleton.1 hx
    exact hs k hk (hD k hk')
theorem sto_mapD {S : Sto} : ∀ k, (mapF S.m S.ml).D k → (stoF S).D k := fun k hk => ⟨mapF S.m S.ml, by simp, hk⟩
def Sto.names (S : Sto) : List ByteArray := sortK (S.ml.map (·.1))
theorem Sto.names_len (S : Sto) : S.names.length = S.ts.length := by rw [Sto.names, sortK_len, List.length_map, Sto.ml, List.length_map]
def insN (L : List ByteArray) (pre : List ByteArray) (x : ByteArray) (args : Array Value) (X : Fact) : Prop := args = #[.string x] ∧ X = noF ∧ L[pre.length]? = some x
def tenEnd (S : Sto) (J Jx : List ByteArray → Fact → Prop) (Fs : List Fact) : Prop :=
  ∃ f Fs', Fs = f :: Fs' ∧ ((∃ xs, J xs f ∧ xs = S.names ∧ Fs' = [stoF S]) ∨ (∃ pre, Jx pre f ∧ Fs' = [stoF S]))
theorem ten_it (l : Nat) (w : World) (bx : Nat) (S : Sto) (f0 R : Fact) (J Jx : List ByteArray → Fact → Prop) (hok : KeysOk S.ml) (hL : S.ts.length ≤ 1000) (hJ0 : J [] f0) (hJo : ∀ pre f, J pre f → f.own = true) (hRo : R.own = false) (hY : Yc Tryz.prog l J Jx R (insN S.names))
    (hm : Mem w (f0 :: R :: [bkF bx ty_ptr_cred_Store [ptr S.b], stoF S])) :
    Con Tryz.prog n_cred_Store_Tenants_1 #[.func (.yield l) #[] #[], .pointer (some ⟨bx, 0, none⟩)] w [f0, bkF bx ty_ptr_cred_Store [ptr S.b], stoF S] (fun _ Fs => tenEnd S J Jx Fs) := by
  have g := good_cred_Store_Tenants_1 w (Un [f0, bkF bx ty_ptr_cred_Store [ptr S.b], stoF S]) [bx]
  have hs0 : Sat (cx_cred_Store_Tenants_1 w (Un [f0, bkF bx ty_ptr_cred_Store [ptr S.b], stoF S]) [bx]) (Va.of fun _ => bx) 1 [] (f0 :: R :: [bkF bx ty_ptr_cred_Store [ptr S.b], stoF S]) w := by
    refine hm.sat rfl (fun f hf ho k hk => ?_) ⟨Nat.le_refl 1, fun i hi => by obtain rfl : i = 0 := Nat.lt_one_iff.1 hi; rfl⟩
    simp only [List.mem_cons, List.not_mem_nil, or_false] at hf
    rcases hf with rfl | rfl | rfl | rfl
    · exact ⟨_, by simp, hk⟩
    · rw [hRo] at ho; cases ho
    · exact ⟨bkF bx ty_ptr_cred_Store [ptr S.b], by simp, hk⟩
    · exact ⟨stoF S, by simp, hk⟩
  have hs1 := hs0.toBk 2 rfl 0 Nat.zero_lt_one rfl
  refine con_of_sx (cx := cx_cred_Store_Tenants_1 w (Un [f0, bkF bx ty_ptr_cred_Store [ptr S.b], stoF S]) [bx]) g b_cred_Store_Tenants_1 rfl rfl (β := Va.of fun _ => bx) [.c (.v (.func (.yield l) #[] #[])), .c (.p 0 0)] 1 _ _ rfl rfl hs1 ?_
  have hml : S.ml.length = S.ts.length := by rw [Sto.ml, List.length_map]
  refine ⟨.map (some S.m), fun β w' hs => bkc (sto_bk (hs.get 2 rfl)) (o := 0) rfl, ?_⟩
  refine call_con [] (fun β w' hs => keysT_c w' (some S.m)) ?_
  rintro v Fs ⟨B, rfl, rfl⟩
  refine call_con [] (fun β w' hs => sortedT_c w' B S.m S.ml hok (by omega) ((hs.mem.take (js := [0, 3]) rfl).part2 rfl (sto_map (hs.get 3 rfl)) sto_mapD)) ?_
  have hnl := S.names_len
  rintro v Fs ⟨A, c, rfl, hA0, rfl⟩
  have e0 : sortK (S.ml.map (·.1)) = S.names := rfl
  rw [e0] at hA0 ⊢
  clear e0
  generalize hNm : S.names = N at *
  refine loop_rule (ι := List ByteArray × Fact) 1 (fun i => [(0, .c (.v (.func (.yield l) #[] #[]))), (1, .c (.p 0 0)), (12, .c (.v (.slice A N.length c))), (13, .c (.v (.int .i64 (N.length : Int)))), (14, .c (.v (.int .i64 (i.1.length : Int))))]) (fun _ => [⟨0, ty_ptr_cred_Store, [.v (ptr S.b)]⟩]) (fun i => [trowF A N c, i.2, R, stoF S])
    (fun i => J i.1 i.2 ∧ i.1 = N.take i.1.length ∧ i.1.length ≤ N.length) (fun i => N.length - i.1.length) ([], f0) ⟨hJ0, rfl, Nat.zero_le _⟩ (Ent.mk' ⟨rfl, rfl, rfl, rfl, rfl, trivial⟩ rfl (fun β w' hs => hs.perm [0, 2, 3, 4])) g ?_
  rintro ⟨pre, f⟩ ⟨hJ, hpre, hi⟩
  simp only at hJ hpre hi
  have hfo := hJo _ _ hJ
  simp only
  refine BIf.dec (fun hlt => ?_) (fun hge => ?_)
  · have hlt0 : (pre.length : Int) < N.length := hlt
    have hkl : pre.length < N.length := by omega
    obtain ⟨x, hx, _⟩ := at_lt hkl
    obtain ⟨ad, hAd⟩ := hA0 (by omega)
    refine ⟨ad, pre.length, hAd, rfl, hkl, .string x, fun β w' hs => ?_, ?_⟩
    · have h := row_rd (hs.get 0 rfl)
      rw [hAd] at h
      exact Rd.cell1 h (by simp [hx])
    refine yield_ro (X := noF) (x := x) hY 1 2 rfl hJ hfo rfl hRo (by decide) (fun β => ⟨rfl, rfl, hx⟩) rfl (fun β w _ => ⟨trivial, fun k hk => hk.elim, fun k _ h => h.elim⟩) ?_ ?_
    · intro f2 hfo2 hJ2
      have e : (pre ++ [x]).length = pre.length + 1 := by rw [List.length_append]; rfl
      refine ⟨((pre.length + 1 : Nat) : Int), by rw [wrap_i64 (by omega) (by omega)]; rfl, ?_⟩
      refine ⟨(pre ++ [x], f2), ⟨hJ2, ?_, by show (pre ++ [x]).length ≤ _; omega⟩, by show N.length - (pre ++ [x]).length < N.length - pre.length; omega, ?_⟩
      · show pre ++ [x] = N.take (pre ++ [x]).length
        rw [e, List.take_add_one, hx, ← hpre]
        rfl
      · simp only [e]
        exact Ent.mk' ⟨rfl, rfl, rfl, rfl, rfl, trivial⟩ rfl (fun β w' hs => hs.perm [1, 0, 2, 3])
    · intro f2 hfo2 hJ2 β w' hs
      exact (hs.keepB (List.nil_sublist _)).fin [0, 3] ⟨f2, _, rfl, .inr ⟨_, hJ2, rfl⟩⟩ rfl rfl rfl ⟨hfo2, rfl, trivial⟩
  · have hge0 : ¬ (pre.length : Int) < N.length := hge
    intro β w' hs
    exact (hs.keepB (List.nil_sublist _)).fin [1, 3] ⟨f, _, rfl, .inl ⟨pre, hJ, by rw [hpre, hNm, List.take_of_length_le (by omega)], rfl⟩⟩ rfl rfl rfl ⟨hfo, rfl, trivial⟩
theorem tenants_c (w : World) (S : Sto) : Con Tryz.prog n_cred_Store_Tenants #[ptr S.b] w [] (fun v Fs => ∃ bx, v = .func (.func n_cred_Store_Tenants_1) #[] #[.pointer (some ⟨bx, 0, none⟩)] ∧ Fs = [bkF bx ty_ptr_cred_Store [ptr S.b]]) := by
  refine con_of_sx (cx := cx_cred_Store_Tenants w (Un [])) (good_cred_Store_Tenants w (Un [])) b_cred_Store_Tenants rfl rfl (β := Va.z) [.c (.v (ptr S.b))] 0 [] [] rfl rfl (Sat.start rfl) ?_
  intro β w' hs
  exact hs.ofBk.fin [0] ⟨β 0, rfl, rfl⟩
end Go.Proofs.YtkobpamlmfpidaaGreatDoor.Sx

/- The tenants, collected. -/
namespace Go.Proofs.YtkobpamlmfpidaaGreatDoor.Sx
open Go
attribute [local irreducible] Calls

structure ColI where
  A : Option Addr
  c : Nat
  l : List ByteArray
theorem appendT_c (w : World) (bx : Nat) (S : Sto) (hok : KeysOk S.ml) (hL : S.ts.length ≤ 1000) (hm : Mem w [bkF bx ty_ptr_cred_Store [ptr S.b], stoF S]) :
    Con Tryz.prog n_slices_AppendSeq_string_string #[.slice none 0 0, .func (.func n_cred_Store_Tenants_1) #[] #[.pointer (some ⟨bx, 0, none⟩)]] w [bkF bx ty_ptr_cred_Store [ptr S.b], stoF S] fun v Fs => ∃ A c, v = .slice A S.names.length c ∧ (0 < S.names.length → ∃ ad, A = some ad) ∧ Fs = [trowF A S.names c, stoF S] := by
  have g := good_slices_AppendSeq_string_string w (Un [bkF bx ty_ptr_cred_Store [ptr S.b], stoF S])
  have hml := maxLen_eq
  have hnl := S.names_len
  have hs0 : Sat (cx_slices_AppendSeq_string_string w (Un [bkF bx ty_ptr_cred_Store [ptr S.b], stoF S])) Va.z 0 [] [bkF bx ty_ptr_cred_Store [ptr S.b], stoF S] w := hm.sat0 rfl (fun f hf _ k hk => ⟨f, hf, hk⟩)
  refine con_of_sx (cx := cx_slices_AppendSeq_string_string w (Un [bkF bx ty_ptr_cred_Store [ptr S.b], stoF S])) g b_slices_AppendSeq_string_string rfl rfl (β := Va.z) [.c (.v (.slice none 0 0)), .c (.v (.func (.func n_cred_Store_Tenants_1) #[] #[.pointer (some ⟨bx, 0, none⟩)]))] 0 [] _ rfl rfl hs0 ?_
  refine range_rule (α := ByteArray) (ι := ColI) (κ := Unit) g rfl (cv := [.pointer (some ⟨bx, 0, none⟩)]) rfl (by kernel_rfl) 1 (Nat.le_refl 1)
    (fun pre i => i.l = pre ∧ pre = S.names.take pre.length ∧ pre.length ≤ S.names.length ∧ (0 < i.l.length → ∃ ad, i.A = some ad)) (fun i => [⟨0, ty_sl_string, [.v (.slice i.A i.l.length i.c)]⟩]) (fun i => [trowF i.A i.l i.c]) (fun i => ⟨rfl, trivial⟩)
    (fun _ _ _ => False) (fun _ => []) (fun _ => []) (fun _ => trivial)
    [bkF bx ty_ptr_cred_Store [ptr S.b], stoF S] [] [] ⟨rfl, rfl, trivial⟩ (fun g h => by cases h) ⟨none, 0, []⟩ ⟨rfl, rfl, Nat.zero_le _, fun h => absurd h (by decide)⟩
    (fun β w hs => ⟨β, Agr.refl _ _, (hs.nilRow ty_string 1).perm [1, 2, 0]⟩) (insN S.names)
    (fun xs Fs' => xs = S.names ∧ Fs' = [stoF S]) (fun pre Fs' => Fs' = [stoF S])
    (fun l w f0 R J Jx hJ0 hJo hRo hY hm => (ten_it l w bx S f0 R J Jx hok hL hJ0 hJo hRo hY hm).mono fun _ Fs h => h) ?_ ?_ ?_
  · rintro ⟨A, c, l⟩ pre x args X W S' lb bs pn pn' hbs ⟨rfl, hpre, hlen, hA⟩ ⟨rfl, rfl, hx⟩
    simp only at hA
    have hkl : l.length < S.names.length := (List.getElem?_eq_some_iff.1 hx).1
    refine ⟨_, rfl, ?_⟩
    intro b2
    refine ⟨2, l.length, (l ++ [x]).length, l.map Value.string, [Value.string x], (l ++ [x]).map Value.string, rfl, fun β w hs => row_rd (hs.get 0 rfl), fun u hu => by obtain rfl := List.mem_singleton.1 hu; rfl, by simp, by simp, by rw [List.length_append, hml]; show l.length + 1 ≤ _; omega, by rw [List.length_append]; show (l.length + 1) * 16 ≤ _; omega, ?_⟩
    intro A' c' h1 h2 h3
    have e1 : (l ++ [x]).length = l.length + 1 := by rw [List.length_append]; rfl
    refine ⟨⟨A', c', l ++ [x]⟩, ⟨rfl, ?_, by rw [e1]; omega, fun _ => ?_⟩, Ent.mk' trivial rfl (fun β w hs => hs.perm [2])⟩
    · rw [e1, List.take_add_one, hx, ← hpre]
      rfl
    · cases A' with
      | none => exact absurd (h3 rfl).2 (by decide)
      | some ad => exact ⟨ad, rfl⟩
  · rintro xs ⟨A, c, l⟩ Fs ⟨rfl, _, _, hA⟩ ⟨rfl, rfl⟩
    simp only at hA
    intro β w' hs
    exact (hs.keepB (List.nil_sublist _)).fin [1, 0] ⟨A, c, rfl, hA, rfl⟩
  · rintro e pre j Fs ⟨⟩
theorem collectT_c (w : World) (bx : Nat) (S : Sto) (hok : KeysOk S.ml) (hL : S.ts.length ≤ 1000) (hm : Mem w [bkF bx ty_ptr_cred_Store [ptr S.b], stoF S]) :
    Con Tryz.prog n_slices_Collect_string #[.func (.func n_cred_Store_Tenants_1) #[] #[.pointer (some ⟨bx, 0, none⟩)]] w [bkF bx ty_ptr_cred_Store [ptr S.b], stoF S] fun v Fs => ∃ A c, v = .slice A S.names.length c ∧ (0 < S.names.length → ∃ ad, A = some ad) ∧ Fs = [trowF A S.names c, stoF S] := by
  have g := good_slices_Collect_string w (Un [bkF bx ty_ptr_cred_Store [ptr S.b], stoF S])
  have hs0 : Sat (cx_slices_Collect_string w (Un [bkF bx ty_ptr_cred_Store [ptr S.b], stoF S])) Va.z 0 [] [bkF bx ty_ptr_cred_Store [ptr S.b], stoF S] w := hm.sat0 rfl (fun f hf _ k hk => ⟨f, hf, hk⟩)
  refine con_of_sx (cx := cx_slices_Collect_string w (Un [bkF bx ty_ptr_cred_Store [ptr S.b], stoF S])) g b_slices_Collect_string rfl rfl (β := Va.z) [.c (.v (.func (.func n_cred_Store_Tenants_1) #[] #[.pointer (some ⟨bx, 0, none⟩)]))] 0 [] _ rfl rfl hs0 ?_
  refine call_con [0, 1] (fun β w' hs => appendT_c w' bx S hok hL (hs.mem.take (js := [0, 1]) rfl)) ?_
  rintro v Fs ⟨A, c, rfl, hA, rfl⟩
  intro β w' hs
  exact hs.fin [0, 1] ⟨A, c, rfl, hA, rfl⟩
end Go.Proofs.YtkobpamlmfpidaaGreatDoor.Sx

/- A store whose tenants have nobody: its users. -/
namespace Go.Proofs.YtkobpamlmfpidaaGreatDoor.Sx
open Go
attribute [local irreducible] Calls

theorem sto_tenD {S : Sto} {A B : List Ten} {T : Ten} (hT : S.ts = A ++ T :: B) : ∀ k, (mapF T.b T.m).D k → (stoF S).D k := fun k hk =>
  ⟨sepF (S.ts.map tenF), by simp, tenF T, List.mem_map.2 ⟨T, by rw [hT]; simp, rfl⟩, mapF T.b T.m, by simp, hk⟩
theorem usersF_c (w : World) (S : Sto) (t : ByteArray) : Con Tryz.prog n_cred_Store_Users #[ptr S.b, .string t] w [] (fun v Fs => ∃ bx bt, v = .func (.func n_cred_Store_Users_1) #[] #[.pointer (some ⟨bx, 0, none⟩), .pointer (some ⟨bt, 0, none⟩)] ∧ Fs = [bkF bx ty_ptr_cred_Store [ptr S.b], bkF bt ty_string [.string t]]) := by
  refine con_of_sx (cx := cx_cred_Store_Users w (Un [])) (good_cred_Store_Users w (Un [])) b_cred_Store_Users rfl rfl (β := Va.z) [.c (.v (ptr S.b)), .c (.v (.string t))] 0 [] [] rfl rfl (Sat.start rfl) ?_
  intro β w' hs
  exact hs.ofBk.ofBk.fin [0, 1] ⟨β 0, β 1, rfl, rfl⟩
theorem mem_sortK {x : ByteArray} {l : List ByteArray} (h : x ∈ sortK l) : x ∈ l := by
  unfold sortK at h
  obtain ⟨s, hs, rfl⟩ := List.mem_map.1 h
  rw [(List.mergeSort_perm _ _).mem_iff] at hs
  obtain ⟨y, hy, rfl⟩ := List.mem_map.1 hs
  exact hy
theorem mlook_of_mem {x : ByteArray} : ∀ {l : ML}, x ∈ l.map (·.1) → mlook l x ≠ none
  | [], h => by cases h
  | (k, v) :: r, h => by
    by_cases hk : k = x
    · simp [mlook, hk]
    · simp only [mlook, if_neg hk]
      refine mlook_of_mem ?_
      simp only [List.map_cons, List.mem_cons] at h
      rcases h with h | h
      · exact absurd h.symm hk
      · exact h
end Go.Proofs.YtkobpamlmfpidaaGreatDoor.Sx

/- The reference's names, plainly: which signs become blanks, go, may not be there; a sign's bytes. -/
namespace Go.Proofs.YtkobpamlmfpidaaGreatDoor.Sx
open Go

def rblank (r : Int) : Bool := decide (r = 160 ∨ r = 5760 ∨ (8192 ≤ r ∧ r ≤ 8202) ∨ r = 8239 ∨ r = 8287 ∨ r = 12288)
def rgoes (r : Int) : Bool := decide (r = 173 ∨ (8203 ≤ r ∧ r ≤ 8205) ∨ r = 8288 ∨ (65024 ≤ r ∧ r ≤ 65039) ∨ r = 65279)
def rbars (r : Int) : Bool := decide (r ≤ 31 ∨ (127 ≤ r ∧ r ≤ 159) ∨ (8232 ≤ r ∧ r ≤ 8238) ∨ (8294 ≤ r ∧ r ≤ 8297) ∨ (57344 ≤ r ∧ r ≤ 63743) ∨ 983040 ≤ r ∨ (65529 ≤ r ∧ r ≤ 65533) ∨ (64976 ≤ r ∧ r ≤ 65007) ∨ 65534 ≤ r % 65536)
theorem rblank_eq (r : Int) : rblank r = inSp r blanksL := by
  unfold rblank inSp blanksL
  simp only [List.any_cons, List.any_nil, Bool.or_false]
  rw [Bool.eq_iff_iff]
  simp only [decide_eq_true_eq, Bool.or_eq_true, Bool.and_eq_true]
  omega
theorem rgoes_eq (r : Int) : rgoes r = inSp r nothingL := by
  unfold rgoes inSp nothingL
  simp only [List.any_cons, List.any_nil, Bool.or_false]
  rw [Bool.eq_iff_iff]
  simp only [decide_eq_true_eq, Bool.or_eq_true, Bool.and_eq_true]
  omega
theorem and_fffe {x : Nat} (hx : x < 2147483648) : bits .and .i32 (x : Int) 65534 = 65534 ↔ 65534 ≤ x % 65536 := by
  have e : bits .and .i32 (x : Int) 65534 = ((x &&& 65534 : Nat) : Int) := by
    show IntKind.i32.wrap ((((BitVec.ofInt 32 (x : Int)) &&& (BitVec.ofInt 32 65534)).toNat : Nat) : Int) = _
    have h1 : (BitVec.ofInt 32 (x : Int)).toNat = x := by rw [BitVec.toNat_ofInt]; omega
    have h2 : (BitVec.ofInt 32 65534).toNat = 65534 := by decide
    rw [BitVec.toNat_and, h1, h2]
    have := Nat.and_le_left (n := x) (m := 65534)
    exact wrap_i32 (by omega) (by omega)
  rw [e]
  have h : x &&& 65534 = (x % 65536) / 2 * 2 := by
    apply Nat.eq_of_testBit_eq
    intro i
    have h3 : (x % 65536) / 2 * 2 = ((x % 2 ^ 16) >>> 1) <<< 1 := by rw [Nat.shiftRight_eq_div_pow, Nat.shiftLeft_eq]
    have h4 : (65534 : Nat) = (2 ^ 15 - 1) <<< 1 := by decide
    rw [h3, h4, Nat.testBit_and, Nat.testBit_shiftLeft, Nat.testBit_shiftLeft, Nat.testBit_shiftRight, Nat.testBit_mod_two_pow, Nat.testBit_two_pow_sub_one]
    by_cases hi : 1 ≤ i
    · have e2 : 1 + (i - 1) = i := by omega
      have e3 : decide (i - 1 < 15) = decide (i < 16) := decide_eq_decide.2 (by omega)
      rw [decide_eq_true hi, e2, e3, Bool.true_and, Bool.true_and, Bool.and_comm]
    · rw [decide_eq_false hi]; simp
  rw [h]
  omega
theorem rbars_eq {x : Nat} (hx : x ≤ 1114111) : rbars (x : Int) = badZ (x : Int) := by
  unfold rbars badZ inSp barredL
  simp only [List.any_cons, List.any_nil, Bool.or_false]
  rw [Bool.eq_iff_iff]
  simp only [decide_eq_true_eq, Bool.or_eq_true, Bool.and_eq_true]
  rw [and_fffe (by omega)]
  omega
/-- A sign's bytes. -/
def rbytesL (r : Nat) : List UInt8 :=
  if r < 128 then [UInt8.ofNat r]
  else if r < 2048 then [UInt8.ofNat (192 + r / 64), UInt8.ofNat (128 + r % 64)]
  else if r < 65536 then [UInt8.ofNat (224 + r / 4096), UInt8.ofNat (128 + r / 64 % 64), UInt8.ofNat (128 + r % 64)]
  else [UInt8.ofNat (240 + r / 262144), UInt8.ofNat (128 + r / 4096 % 64), UInt8.ofNat (128 + r / 64 % 64), UInt8.ofNat (128 + r % 64)]
theorem low6 (y : Nat) : 128 ||| (UInt8.ofNat y &&& 63) = UInt8.ofNat (128 + y % 64) := by
  have key : ∀ n : _root_.Fin 256, 128 ||| (UInt8.ofNat n.1 &&& 63) = UInt8.ofNat (128 + n.1 % 64) := by decide +kernel
  have h := key ⟨y % 256, Nat.mod_lt _ (by decide)⟩
  have e1 : UInt8.ofNat (y % 256) = UInt8.ofNat y := by apply UInt8.toNat_inj.1; simp
  simp only [e1] at h
  rw [h]
  congr 2
  omega
theorem hi2 {y : Nat} (h : y < 32) : 192 ||| UInt8.ofNat y = UInt8.ofNat (192 + y) := by
  have key : ∀ n : _root_.Fin 32, 192 ||| UInt8.ofNat n.1 = UInt8.ofNat (192 + n.1) := by decide +kernel
  exact key ⟨y, h⟩
theorem hi3 {y : Nat} (h : y < 16) : 224 ||| UInt8.ofNat y = UInt8.ofNat (224 + y) := by
  have key : ∀ n : _root_.Fin 16, 224 ||| UInt8.ofNat n.1 = UInt8.ofNat (224 + n.1) := by decide +kernel
  exact key ⟨y, h⟩
theorem hi4 {y : Nat} (h : y < 8) : 240 ||| UInt8.ofNat y = UInt8.ofNat (240 + y) := by
  have key : ∀ n : _root_.Fin 8, 240 ||| UInt8.ofNat n.1 = UInt8.ofNat (240 + n.1) := by decide +kernel
  exact key ⟨y, h⟩
theorem encL_eq {r : Nat} (hr : r ≤ 1114111) : encL r = rbytesL r := by
  unfold rbytesL
  have hf : formOf r = if r < 128 then form0 else if r < 2048 then ⟨2, 0xe0, 0xc0, 0x80⟩ else if r < 65536 then ⟨3, 0xf0, 0xe0, 0x800⟩ else ⟨4, 0xf8, 0xf0, 0x10000⟩ := by
    simp only [formOf, Nam.fms, List.foldl_cons, List.foldl_nil, pickF, Nat.zero_le, if_true]
    by_cases h1 : r < 128
    · rw [if_pos h1, if_neg (by omega), if_neg (by omega), if_neg (by omega)]; rfl
    · by_cases h2 : r < 2048
      · rw [if_neg h1, if_pos h2, if_neg (by omega), if_neg (by omega), if_pos (by omega)]
      · by_cases h3 : r < 65536
        · rw [if_neg h1, if_neg h2, if_pos h3, if_neg (by omega), if_pos (by omega)]
        · rw [if_neg h1, if_neg h2, if_neg h3, if_pos (by omega)]
  unfold encL
  rw [hf]
  by_cases h1 : r < 128
  · rw [if_pos h1, if_pos h1]
    show [0 ||| UInt8.ofNat (r / 1)] = _
    rw [Nat.div_one, UInt8.zero_or]
  · by_cases h2 : r < 2048
    · rw [if_neg h1, if_pos h2, if_neg h1, if_pos h2]
      show [192 ||| UInt8.ofNat (r / 64), 128 ||| (UInt8.ofNat (r / 1) &&& 63)] = _
      rw [low6, hi2 (by omega), Nat.div_one]
    · by_cases h3 : r < 65536
      · rw [if_neg h1, if_neg h2, if_pos h3, if_neg h1, if_neg h2, if_pos h3]
        show [224 ||| UInt8.ofNat (r / 4096), 128 ||| (UInt8.ofNat (r / 64) &&& 63), 128 ||| (UInt8.ofNat (r / 1) &&& 63)] = _
        rw [low6, low6, hi3 (by omega), Nat.div_one]
      · rw [if_neg h1, if_neg h2, if_neg h3, if_neg h1, if_neg h2, if_neg h3]
        show [240 ||| UInt8.ofNat (r / 262144), 128 ||| (UInt8.ofNat (r / 4096) &&& 63), 128 ||| (UInt8.ofNat (r / 64) &&& 63), 128 ||| (UInt8.ofNat (r / 1) &&& 63)] = _
        rw [low6, low6, low6, hi4 (by omega), Nat.div_one]
/-- What is written of the signs of a text; none: one may not be there. -/
def prepR : List Int → Option (List UInt8)
  | [] => some []
  | z :: l => if rblank z = true then (prepR l).map ([32] ++ ·) else if rgoes z = true then prepR l else if rbars z = true then none else (prepR l).map (rbytesL z.toNat ++ ·)
theorem prepR_eq : ∀ (l : List Int), (∀ z ∈ l, ∃ x : Nat, z = (x : Int) ∧ x ≤ 1114111) → prepR l = if (l.flatMap prep1).any badZ = true then none else some ((l.flatMap prep1).flatMap encZ)
  | [], _ => rfl
  | z :: l, h => by
    obtain ⟨x, rfl, hx⟩ := h z List.mem_cons_self
    have ih := prepR_eq l (fun y hy => h y (List.mem_cons_of_mem _ hy))
    have e32 : encZ 32 = [32] := by decide
    have b32 : badZ 32 = false := by decide
    simp only [prepR, List.flatMap_cons, prep1]
    rw [rblank_eq, rgoes_eq, ih]
    by_cases h1 : inSp (x : Int) blanksL = true
    · rw [if_pos h1, if_pos h1]
      by_cases hb : (l.flatMap prep1).any badZ = true
      · rw [if_pos hb, if_pos (by rw [List.any_append, hb]; simp)]; rfl
      · rw [if_neg hb, if_neg (by rw [List.any_append]; simp only [List.any_cons, b32, List.any_nil, Bool.or_false, Bool.false_or]; exact hb)]
        simp only [Option.map_some, List.flatMap_append, List.flatMap_cons, List.flatMap_nil, e32, List.append_nil]
    · rw [if_neg h1, if_neg h1]
      by_cases h2 : inSp (x : Int) nothingL = true
      · rw [if_pos h2, if_pos h2]; rfl
      · rw [if_neg h2, if_neg h2, rbars_eq hx]
        by_cases h3 : badZ (x : Int) = true
        · rw [if_pos h3, if_pos (by rw [List.any_append, List.any_cons, h3]; rfl)]
        · rw [if_neg h3]
          have h3' : badZ (x : Int) = false := by simpa using h3
          by_cases hb : (l.flatMap prep1).any badZ = true
          · rw [if_pos hb, if_pos (by rw [List.any_append, hb]; simp)]; rfl
          · rw [if_neg hb, if_neg (by rw [List.any_append, List.any_cons, h3']; simpa using hb)]
            simp only [Option.map_some, List.flatMap_append, List.flatMap_cons, List.flatMap_nil, List.append_nil]
            rw [encZ, encL_eq (by omega)]
theorem signs_val {l : List UInt8} (hv : validB l = true) : ∀ x ∈ runesAt l 0, ∃ r : Nat, x.2 = (r : Int) ∧ Nam.sign r = true ∧ r ≤ 1114111 := by
  intro x hx
  have h := runesAt_vals l _ 0 (Nat.le_refl _)
  rw [List.drop_zero] at h
  have hm : x.2 ∈ (Nam.runes l).map runeI := by rw [← h]; exact List.mem_map.2 ⟨x, hx, rfl⟩
  obtain ⟨o, ho, he⟩ := List.mem_map.1 hm
  cases o with
  | none => have := List.all_eq_true.1 hv none ho; cases this
  | some r =>
    have hs := runes_sign l.length l (Nat.le_refl _) ho
    exact ⟨r, he.symm, hs, sign_le hs⟩
theorem rprep_eq (l : List UInt8) : prepF l = if validB l = true then (match prepR ((runesAt l 0).map (·.2)) with | none => (([], 5) : List UInt8 × Int) | some p => (p, 0)) else ([], 4) := by
  unfold prepF
  by_cases hv : validB l = true
  · rw [if_pos hv, if_pos hv]
    have h := prepR_eq ((runesAt l 0).map (·.2)) (fun z hz => by
      obtain ⟨x, hx, rfl⟩ := List.mem_map.1 hz
      obtain ⟨r, h1, _, h3⟩ := signs_val hv x hx
      exact ⟨r, h1, h3⟩)
    have e1 : prepAt (runesAt l 0) = ((runesAt l 0).map (·.2)).flatMap prep1 := by rw [prepAt, List.flatMap_map]
    rw [h, e1]
    split <;> rfl
  · rw [if_neg hv, if_neg hv]
end Go.Proofs.YtkobpamlmfpidaaGreatDoor.Sx

/- A name that was prepared is prepared to itself. -/
namespace Go.Proofs.YtkobpamlmfpidaaGreatDoor.Sx
open Go

theorem ld1 {y : Nat} (h : y < 128) : UInt8.ofNat y &&& 0x80 = 0 ∧ (UInt8.ofNat y &&& ~~~0x80).toNat = y := by
  have key : ∀ n : _root_.Fin 128, UInt8.ofNat n.1 &&& 0x80 = 0 ∧ (UInt8.ofNat n.1 &&& ~~~0x80).toNat = n.1 := by decide +kernel
  exact key ⟨y, h⟩
theorem ld2 {y : Nat} (h : y < 32) : UInt8.ofNat (192 + y) &&& 0xe0 = 0xc0 ∧ (UInt8.ofNat (192 + y) &&& ~~~0xe0).toNat = y := by
  have key : ∀ n : _root_.Fin 32, UInt8.ofNat (192 + n.1) &&& 0xe0 = 0xc0 ∧ (UInt8.ofNat (192 + n.1) &&& ~~~0xe0).toNat = n.1 := by decide +kernel
  exact key ⟨y, h⟩
theorem ld3 {y : Nat} (h : y < 16) : UInt8.ofNat (224 + y) &&& 0xf0 = 0xe0 ∧ (UInt8.ofNat (224 + y) &&& ~~~0xf0).toNat = y := by
  have key : ∀ n : _root_.Fin 16, UInt8.ofNat (224 + n.1) &&& 0xf0 = 0xe0 ∧ (UInt8.ofNat (224 + n.1) &&& ~~~0xf0).toNat = n.1 := by decide +kernel
  exact key ⟨y, h⟩
theorem ld4 {y : Nat} (h : y < 8) : UInt8.ofNat (240 + y) &&& 0xf8 = 0xf0 ∧ (UInt8.ofNat (240 + y) &&& ~~~0xf8).toNat = y := by
  have key : ∀ n : _root_.Fin 8, UInt8.ofNat (240 + n.1) &&& 0xf8 = 0xf0 ∧ (UInt8.ofNat (240 + n.1) &&& ~~~0xf8).toNat = n.1 := by decide +kernel
  exact key ⟨y, h⟩
theorem bh6 (y : Nat) : (UInt8.ofNat (128 + y % 64)).toNat = 128 + y % 64 := by
  rw [UInt8.toNat_ofNat']
  omega
/-- A sign, written and read again. -/
theorem decL_enc {r : Nat} (hs : Nam.sign r = true) (y : List UInt8) : Nam.decL (rbytesL r ++ y) = (some r, (rbytesL r).length) := by
  have hr := sign_le hs
  unfold rbytesL
  split
  · rename_i h1
    unfold Nam.decL
    rw [List.cons_append, Nam.find_form (f := ⟨1, 0x80, 0, 0⟩) (by simp [Nam.fms]) (ld1 h1).1, if_pos (by simp)]
    have : Nam.tryF ⟨1, 0x80, 0, 0⟩ (UInt8.ofNat r :: ([] ++ y)) = some r := by
      simp only [Nam.tryF, Nat.sub_self, List.take_zero, Nam.tailR, (ld1 h1).2]
      rw [if_pos ⟨Nat.zero_le _, hs⟩]
    simp only [this]
    rfl
  · split
    · rename_i h1 h2
      have hl := ld2 (y := r / 64) (by omega)
      unfold Nam.decL
      rw [List.cons_append, Nam.find_form (f := ⟨2, 0xe0, 0xc0, 0x80⟩) (by simp [Nam.fms]) hl.1, if_pos (by simp)]
      have : Nam.tryF ⟨2, 0xe0, 0xc0, 0x80⟩ (UInt8.ofNat (192 + r / 64) :: ([UInt8.ofNat (128 + r % 64)] ++ y)) = some r := by
        simp only [Nam.tryF, List.cons_append, List.nil_append, Nat.add_one_sub_one, List.take_succ_cons, List.take_zero, Nam.tailR, hl.2, bh6]
        rw [if_pos (by omega)]
        have e : r / 64 * 64 + (128 + r % 64) % 64 = r := by omega
        simp only [e]
        rw [if_pos ⟨by omega, hs⟩]
      simp only [this]
      rfl
    · split
      · rename_i h1 h2 h3
        have hl := ld3 (y := r / 4096) (by omega)
        unfold Nam.decL
        rw [List.cons_append, Nam.find_form (f := ⟨3, 0xf0, 0xe0, 0x800⟩) (by simp [Nam.fms]) hl.1, if_pos (by simp)]
        have : Nam.tryF ⟨3, 0xf0, 0xe0, 0x800⟩ (UInt8.ofNat (224 + r / 4096) :: ([UInt8.ofNat (128 + r / 64 % 64), UInt8.ofNat (128 + r % 64)] ++ y)) = some r := by
          simp only [Nam.tryF, List.cons_append, List.nil_append, Nat.add_one_sub_one, List.take_succ_cons, List.take_zero, Nam.tailR, hl.2, bh6]
          rw [if_pos (by omega), if_pos (by omega)]
          have e : (r / 4096 * 64 + (128 + r / 64 % 64) % 64) * 64 + (128 + r % 64) % 64 = r := by omega
          simp only [e]
          rw [if_pos ⟨by omega, hs⟩]
        simp only [this]
        rfl
      · rename_i h1 h2 h3
        have hl := ld4 (y := r / 262144) (by omega)
        unfold Nam.decL
        rw [List.cons_append, Nam.find_form (f := ⟨4, 0xf8, 0xf0, 0x10000⟩) (by simp [Nam.fms]) hl.1, if_pos (by simp)]
        have : Nam.tryF ⟨4, 0xf8, 0xf0, 0x10000⟩ (UInt8.ofNat (240 + r / 262144) :: ([UInt8.ofNat (128 + r / 4096 % 64), UInt8.ofNat (128 + r / 64 % 64), UInt8.ofNat (128 + r % 64)] ++ y)) = some r := by
          simp only [Nam.tryF, List.cons_append, List.nil_append, Nat.add_one_sub_one, List.take_succ_cons, List.take_zero, Nam.tailR, hl.2, bh6]
          rw [if_pos (by omega), if_pos (by omega), if_pos (by omega)]
          have e : ((r / 262144 * 64 + (128 + r / 4096 % 64) % 64) * 64 + (128 + r / 64 % 64) % 64) * 64 + (128 + r % 64) % 64 = r := by omega
          simp only [e]
          rw [if_pos ⟨by omega, hs⟩]
        simp only [this]
        rfl
theorem rbytesL_ne (r : Nat) : rbytesL r ≠ [] := by
  unfold rbytesL
  split <;> (try split) <;> (try split) <;> simp
theorem runes_enc {r : Nat} (hs : Nam.sign r = true) (y : List UInt8) : Nam.runes (rbytesL r ++ y) = some r :: Nam.runes y := by
  rw [Nam.runes_cons (by simp [rbytesL_ne]), decL_enc hs y]
  simp
theorem runes_encs : ∀ (zs : List Int), (∀ z ∈ zs, ∃ r : Nat, z = (r : Int) ∧ Nam.sign r = true ∧ r ≤ 1114111) → Nam.runes (zs.flatMap encZ) = zs.map fun z => some z.toNat
  | [], _ => by simp [Nam.runes_nil]
  | z :: t, h => by
    obtain ⟨r, hz, hs, hr⟩ := h z List.mem_cons_self
    rw [List.flatMap_cons, encZ, encL_eq (by omega), show z.toNat = r by omega, runes_enc hs, runes_encs t (fun x hx => h x (List.mem_cons_of_mem _ hx)), List.map_cons, show z.toNat = r by omega]
theorem prep1_idem {z y : Int} (h : z ∈ prep1 y) : prep1 z = [z] := by
  unfold prep1 at h
  split at h
  · obtain rfl := List.mem_singleton.1 h
    decide
  · split at h
    · cases h
    · obtain rfl := List.mem_singleton.1 h
      rename_i h1 h2
      unfold prep1
      rw [if_neg h1, if_neg h2]
theorem flat_self {f : Int → List Int} : ∀ {l : List Int}, (∀ z ∈ l, f z = [z]) → l.flatMap f = l
  | [], _ => rfl
  | z :: t, h => by
    rw [List.flatMap_cons, h z List.mem_cons_self, flat_self (l := t) (fun x hx => h x (List.mem_cons_of_mem _ hx))]
    rfl
/-- What was prepared is prepared to itself. -/
theorem prepF_idem {l : List UInt8} (h : (prepF l).2 = 0) : prepF (prepF l).1 = ((prepF l).1, 0) := by
  have e0 : prepF l = if validB l = true then if (prepAt (runesAt l 0)).any badZ = true then ([], 5) else ((prepAt (runesAt l 0)).flatMap encZ, 0) else ([], 4) := by unfold prepF; rfl
  by_cases hv : validB l = true
  · rw [if_pos hv] at e0
    by_cases hb : (prepAt (runesAt l 0)).any badZ = true
    · rw [if_pos hb] at e0
      rw [e0] at h
      cases h
    · rw [if_neg hb] at e0
      have hsg : ∀ z ∈ prepAt (runesAt l 0), ∃ r : Nat, z = (r : Int) ∧ Nam.sign r = true ∧ r ≤ 1114111 := fun z hz => prep_sign hv hz
      have hid : ∀ z ∈ prepAt (runesAt l 0), prep1 z = [z] := fun z hz => by
        obtain ⟨x, _, hx⟩ := List.mem_flatMap.1 hz
        exact prep1_idem hx
      generalize prepAt (runesAt l 0) = P at *
      have hrn := runes_encs P hsg
      rw [e0]
      have hp : prepAt (runesAt (P.flatMap encZ) 0) = P := by
        rw [prepAt_runes, hrn]
        unfold prepO
        rw [List.flatMap_map]
        refine flat_self (f := fun z => prep1 (runeI (some z.toNat))) fun z hz => ?_
        obtain ⟨r, hz', _, _⟩ := hsg z hz
        have : runeI (some z.toNat) = z := by show ((z.toNat : Nat) : Int) = z; omega
        rw [this]
        exact hid z hz
      unfold prepF
      have hv2 : validB (P.flatMap encZ) = true := by unfold validB; rw [hrn]; simp
      rw [if_pos hv2, hp, if_neg hb]
  · rw [if_neg hv] at e0
    rw [e0] at h
    cases h
/-- A name that was prepared is a name. -/
theorem nameA_idem {u : ByteArray} (h : (nameA u).2 = 0) : nameA (nameA u).1 = ((nameA u).1, 0) := by
  have h' : (sizF u.data.toList 32).2 = 0 := h
  have hp : (prepF u.data.toList).2 = 0 ∧ sizF u.data.toList 32 = ((prepF u.data.toList).1, 0) ∧ (prepF u.data.toList).1 ≠ [] ∧ (prepF u.data.toList).1.length ≤ 32 := by
    unfold sizF at h' ⊢
    split at h'
    · rename_i h0
      split at h'
      · cases h'
      · rename_i h1
        split at h'
        · cases h'
        · rename_i h2
          refine ⟨h0, ?_, h1, by omega⟩
          rw [if_pos h0, if_neg h1, if_neg h2]
    · exact absurd h' (by assumption)
  obtain ⟨h0, h1, h2, h3⟩ := hp
  have h4 := prepF_idem h0
  unfold nameA
  rw [h1]
  have e : (mkS (prepF u.data.toList).1).data.toList = (prepF u.data.toList).1 := by simp [mkS]
  simp only [e]
  unfold sizF
  rw [h4, if_pos rfl, if_neg h2, if_neg (Nat.not_lt.2 h3)]
end Go.Proofs.YtkobpamlmfpidaaGreatDoor.Sx

/- Names and passwords, by the program and by the reference. -/
namespace Go.Proofs.YtkobpamlmfpidaaGreatDoor.Sx
open Go
attribute [local irreducible] Calls

theorem siz_len (l : List UInt8) (k : Nat) : (sizF l k).1.length ≤ k := by
  unfold sizF
  split
  · split
    · exact Nat.zero_le _
    · split
      · exact Nat.zero_le _
      · rename_i h; exact Nat.le_of_not_lt h
  · exact Nat.zero_le _
theorem mkS_size (l : List UInt8) : (mkS l).size = l.length := by simp [mkS, ByteArray.size]
theorem nameA_len (s : ByteArray) : (nameA s).1.size ≤ 32 := by rw [nameA, mkS_size]; exact siz_len _ 32
end Go.Proofs.YtkobpamlmfpidaaGreatDoor.Sx

/- Who there is: a user found; his credential copied; revoked. -/
namespace Go.Proofs.YtkobpamlmfpidaaGreatDoor.Sx
open Go
attribute [local irreducible] Calls

/-! ### where a user stands -/
structure At (S : Sto) (t u : ByteArray) (A : List Ten) (T : Ten) (B : List Ten) (U : List Crd) (c : Crd) (V : List Crd) : Prop where
  ten : S.ts = A ++ T :: B
  crd : T.us = U ++ c :: V
  name : T.name = t
  user : c.user = (nameA u).1
  fine : (nameA u).2 = 0
  is : aone S.a t u = some c.a
  upd : ∀ c' : Crd, ∀ f : ACrd → ACrd, c'.user = c.user → c'.a = f c.a → (A ++ { T with us := U ++ c' :: V } :: B).map Ten.a = atenU S.a.ts t (fun us => ausrU us (nameA u).1 f)
  del : (A ++ { T with us := U ++ V } :: B).map Ten.a = atenU S.a.ts t (fun us => ausrD us (nameA u).1)
  mdel : (U ++ V).map (fun c : Crd => (c.user, ptr c.b)) = Sx.mdel T.m (nameA u).1
  look : mlook S.ml t = some (.map (some T.b))
theorem usr_some {S : Sto} {t u : ByteArray} {c : Crd} (h : S.usr t u = some c) : ∃ A T B U V, At S t u A T B U c V := by
  unfold Sto.usr at h
  split at h
  · rename_i he
    rcases look_ten t S.ts with ⟨A, T, B, eT, h0, h1, h2, h3, h4, _⟩ | ⟨h1, h2, h3⟩
    · rw [h0] at h
      have h' : crdO T.us (nameA u).1 = some c := h
      rcases look_crd (nameA u).1 T.us with ⟨U, c', V, eU, q0, q1, q2, q3, q4, q5, q6, q7⟩ | ⟨q1, q2, q3⟩
      · rw [q0] at h'
        obtain rfl := Option.some.inj h'
        refine ⟨A, T, B, U, V, eT, eU, h1, q1, he, ?_, fun c1 f e1 e2 => ?_, ?_, q6, h2⟩
        · unfold aone aget
          rw [if_pos he, show aten S.a.ts t = _ from h3]
          exact q3
        · refine h4 { T with us := U ++ c1 :: V } (fun us => ausrU us (nameA u).1 f) h1 ?_
          exact q4 c1 f (e1.trans q1) e2
        · exact h4 { T with us := U ++ V } (fun us => ausrD us (nameA u).1) h1 q5
      · rw [q3] at h'; cases h'
    · rw [h3] at h; cases h
  · cases h
theorem usr_none {S : Sto} {t u : ByteArray} (h : S.usr t u = none) : aone S.a t u = none := by
  unfold Sto.usr at h
  unfold aone aget
  split at h
  · rename_i he
    rw [if_pos he]
    rcases look_ten t S.ts with ⟨A, T, B, eT, h0, h1, h2, h3, _⟩ | ⟨h1, h2, h3⟩
    · rw [h0] at h
      have h' : crdO T.us (nameA u).1 = none := h
      rw [show aten S.a.ts t = _ from h3]
      rcases look_crd (nameA u).1 T.us with ⟨U, c', V, eU, q0, q1, q2, q3, _⟩ | ⟨q1, q2, q3⟩
      · rw [q0] at h'; cases h'
      · exact q2
    · rw [show aten S.a.ts t = none from h2]; rfl
  · rename_i he
    rw [if_neg he]
theorem At.crdP {S : Sto} {t u : ByteArray} {A B : List Ten} {T : Ten} {U V : List Crd} {c : Crd} {w : World} (h : At S t u A T B U c V) (hp : (stoF S).p w) : (crdF c).p w := ten_crd (sto_ten hp h.ten) h.crd
theorem crd_sec {c : Crd} {w : World} (h : (crdF c).p w) : SRd c.sec.x c.sec.a w := Sec.rd fun f hf => h.1 f (by
  unfold Crd.fs Crd.parts
  exact List.mem_cons_of_mem _ (List.mem_cons_of_mem _ hf))
theorem crd_strs {c : Crd} {w : World} (h : (crdF c).p w) : Rd 1 c.rA c.roles.length (strs c.roles) w := h.1 (strsF c.rA c.roles) (by simp [Crd.fs, Crd.parts])

/-! ### copied -/
theorem strsRow {A : Option Addr} {l : List ByteArray} {c : Nat} {w : World} (h : (srowF A l c).p w) : (strsF A l).p w := row_rd h
theorem strsRowD {A : Option Addr} {l : List ByteArray} {c : Nat} {w : World} (h : (srowF A l c).p w) : ∀ k, (strsF A l).D k → (srowF A l c).D k := by
  rintro k ⟨hk, ad, q, rfl⟩
  have hl : 0 < l.length := by
    have : 0 < l.length * 1 := hk
    omega
  have q' : A = some ad := q
  rcases h.2 with ⟨he, h0⟩ | ⟨g, cap, cur, he, _⟩
  · omega
  · have hA : A = some ⟨g, 0, none⟩ := by injection he
    rw [q'] at hA
    obtain rfl := Option.some.inj hA
    show Value.ownBlock (.slice A l.length c) = _
    rw [q']
    rfl
/-- A row of texts, from now on to be read. -/
theorem Sat.strsRow {cx : Cx} {β : Va} {n : Nat} {H : List Bk} {F : List Fact} {w : World} (h : Sat cx β n H F w) (j : Nat) {A : Option Addr} {l : List ByteArray} {c : Nat} (hj : nth F j = some (srowF A l c)) : Sat cx β n H (putAt F j (strsF A l)) w := by
  have hp := h.get j hj
  exact h.upd hj rfl (Chg.refl _ _) (row_rd hp) (fun k hk => .inl (strsRowD hp k hk))
structure CSz (a : ACrd) : Prop where
  sec : ASz a.sec
  roles : a.roles.length ≤ 1000000
def Crd.ss (c : Crd) : List SL := .v (.string c.tenant) :: .v (.string c.user) :: (c.sec.x.ss ++ [.v (.int .u64 c.gen), .v (.slice c.rA c.roles.length c.rc), .v (.bool c.revoked)])
theorem ccopyOf_c (w : World) (c : Crd) (h1 : SRd c.sec.x c.sec.a w) (h2 : Rd 1 c.rA c.roles.length (strs c.roles) w) (hz : CSz c.a) :
    Con Tryz.prog n_cred_Cred_copyOf #[.agg c.vs.toArray] w [] fun v Fs => ∃ c' : Crd, c'.a = c.a ∧ v = .agg c'.vs.toArray ∧ Fs = [srowF c'.rA c'.roles c'.rc, c'.sec.ha1.f, c'.sec.server.f, c'.sec.stored.f, c'.sec.salt.f] := by
  have g := good_cred_Cred_copyOf w (Un [])
  refine con_of_sx (cx := cx_cred_Cred_copyOf w (Un [])) g b_cred_Cred_copyOf rfl rfl (β := Va.z) [.agg c.ss] 0 [] [oldF w] rfl rfl (old_sat rfl) ?_
  have hS : ∀ {n : Nat} {F : List Fact}, Sub (cx_cred_Cred_copyOf w (Un [])) n [⟨1, ty_cred_Cred, ti49.zero.map SL.v⟩, ⟨0, ty_cred_Cred, c.ss⟩] F [⟨0, ty_cred_Cred, c.ss⟩] [] := fun {n F} => Sub.of (List.sublist_cons_self _ _) (List.nil_sublist _)
  refine draw_rule g p_cred_Cred_copyOf_1 (by kernel_rfl) [⟨0, ty_cred_Cred, c.ss⟩] [] hS ?_
  refine call_con [] (fun β w' hs => scopyOf_c w' c.sec.x c.sec.a (h1.old (hs.get 0 rfl)) hz.sec) ?_
  rintro v Fs ⟨y, hy, rfl, rfl⟩
  refine ⟨hS, ?_⟩
  refine call_con [] (fun β w' hs => cloneS_c w' c.rA c.roles c.rc (Rd.old h2 (hs.get 4 rfl)) hz.roles) ?_
  rintro v Fs ⟨A', c', rfl, _, _, rfl⟩
  refine ⟨hS, ?_⟩
  intro β w' hs
  refine (hs.keepB (List.nil_sublist _)).fin [0, 1, 2, 3, 4] ⟨⟨0, c.tenant, c.user, y, c.gen, A', c', c.roles, c.revoked⟩, ?_, rfl, rfl⟩ rfl rfl rfl ⟨rfl, rfl, rfl, rfl, rfl, trivial⟩
  show ACrd.mk _ _ y.a _ _ _ = ACrd.mk _ _ _ _ _ _
  rw [hy]

/-! ### found -/
def stoR (S : Sto) : Sto := { S with reads := IntKind.u64.wrap (S.reads + 1) }
theorem stoR_usr (S : Sto) (t u : ByteArray) : (stoR S).usr t u = S.usr t u := rfl
theorem sto_reads {cx : Cx} {β : Va} {n : Nat} {H : List Bk} {w : World} {S : Sto} (h : Sat cx β n H [stoF S, namF] w) (r : Int) :
    ∃ w', (storeCells ((⟨S.b, 0, none⟩ : Addr).add 2) [.int .u64 r] 0).run cx.P w = .ok () w' ∧ Sat cx β n H [stoF { S with reads := r }, namF] w' := by
  have h1 := h.unsep 0 rfl
  obtain ⟨w', e1, e2⟩ := h1.bkSet 0 (o := 2) (us := [.int .u64 r]) rfl (by simp [Sto.vs]) (fun u hu => by obtain rfl := List.mem_singleton.1 hu; rfl)
  exact ⟨w', e1, e2.sep [0, 1, 2]⟩
def crd0 : Crd := ⟨0, ByteArray.empty, ByteArray.empty, ⟨⟨none, 0, []⟩, 0, ⟨none, 0, []⟩, ⟨none, 0, []⟩, ⟨none, 0, []⟩⟩, 0, none, 0, [], false⟩
def crdRows (c : Crd) : List Fact := [srowF c.rA c.roles c.rc, c.sec.ha1.f, c.sec.server.f, c.sec.stored.f, c.sec.salt.f]
def findOut (S : Sto) (t u : ByteArray) (v : Value) (Fs : List Fact) : Prop := match aone S.a t u with
  | none => v = .tuple #[.agg crd0.vs.toArray, .bool false] ∧ Fs = [stoF (stoR S)]
  | some a => ∃ c : Crd, c.a = a ∧ v = .tuple #[.agg c.vs.toArray, .bool true] ∧ Fs = crdRows c ++ [stoF (stoR S)]
theorem add2 (b o j : Nat) : ((⟨b, o, none⟩ : Addr).add j) = ⟨b, o + j, none⟩ := by rw [add_none]
theorem find_c (w : World) (S : Sto) (t u : ByteArray) (hu : u.size ≤ 100000) (hz : ∀ a, aone S.a t u = some a → CSz a) (hm : Mem w [stoF S, namF]) : Con Tryz.prog n_cred_Store_Find #[ptr S.b, .string t, .string u] w [stoF S] (findOut S t u) := by
  have g := good_cred_Store_Find w (Un [stoF S])
  refine con_of_sx (cx := cx_cred_Store_Find w (Un [stoF S])) g b_cred_Store_Find rfl rfl (β := Va.z) [.c (.v (ptr S.b)), .c (.v (.string t)), .c (.v (.string u))] 0 [] [stoF S, namF] rfl rfl (hm.sat0 rfl (ownIn (Gs := [stoF S]) (fun f hf => by
    obtain rfl := List.mem_singleton.1 hf; rfl))) ?_
  refine ⟨.int .u64 S.reads, fun β w' hs => bkc (sto_bk (hs.get 0 rfl)) rfl, IntKind.u64.wrap (S.reads + 1), rfl, ?_⟩
  refine ⟨[stoF (stoR S), namF], fun β w' hs => sto_reads hs _, ?_⟩
  cases hc : S.usr t u with
  | none =>
    refine call_pu (v := .pointer none) (fun β w' hs => by
      have h := get_c w' (stoR S) t u (hs.get 0 rfl) (hs.getLt 0 rfl) hu (namF_T (hs.get 1 rfl))
      rw [stoR_usr, hc] at h
      exact h) ?_
    intro β w' hs
    refine (hs.keepB (List.nil_sublist _)).fin [0] ?_
    unfold findOut
    rw [usr_none hc]
    exact ⟨rfl, rfl⟩
  | some c =>
    obtain ⟨A, T, B, U, V, at_⟩ := usr_some hc
    refine call_pu (v := ptr c.b) (fun β w' hs => by
      have h := get_c w' (stoR S) t u (hs.get 0 rfl) (hs.getLt 0 rfl) hu (namF_T (hs.get 1 rfl))
      rw [stoR_usr, hc] at h
      exact h) ?_
    have hcp : ∀ {w'}, (stoF (stoR S)).p w' → (crdF c).p w' := fun hp => ten_crd (sto_ten hp at_.ten) at_.crd
    refine ⟨c.vs, rfl, fun β w' hs j v hv => ?_, ?_⟩
    · rw [add2]
      exact bkc (crd_bk (hcp (hs.get 0 rfl))) (by rw [Nat.zero_add]; exact hv)
    refine call_con [] (fun β w' hs => ccopyOf_c w' c (crd_sec (hcp (hs.get 0 rfl))) (crd_strs (hcp (hs.get 0 rfl))) (hz _ at_.is)) ?_
    rintro v Fs ⟨c', hc', rfl, rfl⟩
    intro β w' hs
    refine (hs.keepB (List.nil_sublist _)).fin [0, 1, 2, 3, 4, 5] ?_ rfl rfl rfl ⟨rfl, rfl, rfl, rfl, rfl, rfl, trivial⟩
    unfold findOut
    rw [at_.is]
    exact ⟨c', hc', rfl, rfl⟩
end Go.Proofs.YtkobpamlmfpidaaGreatDoor.Sx

/- Who there is: who is revoked, or goes. -/
namespace Go.Proofs.YtkobpamlmfpidaaGreatDoor.Sx
open Go
attribute [local irreducible] Calls

/-! ### an entry goes -/
theorem fnd_none_del {s : ByteArray} : ∀ {es : List ME} {i : Nat}, fnd s es i = none → mdel (es.map ME.cut) s = es.map ME.cut
  | [], _, _ => rfl
  | e :: r, i, h => by
    simp only [fnd] at h
    split at h
    · cases h
    · rename_i hne
      simp only [List.map_cons, mdel, ME.cut, if_neg hne]
      exact congrArg (List.cons _) (fnd_none_del h)
theorem erase_mid {α : Type} (x : α) (c : List α) : ∀ a : List α, (a ++ x :: c).eraseIdx a.length = a ++ c
  | [] => rfl
  | y :: a => by simp [erase_mid x c a]
theorem run_del {P : Program} {t tk kt et : TypeId} (ht : P.underlying t = some (.map kt et)) (hk : P.underlying kt = some .string) {w : World} {b : Nat} {l : ML} (h : mapP b l w) (s : ByteArray) (ty : TypeId) (cst : Array Bool) :
    ∃ o, (builtin .delete #[t, tk] ty cst #[.map (some b), .string s]).run P w = .ok (.value (.tuple #[])) (w.putObj b o) ∧ mapP b (mdel l s) (w.putObj b o) := by
  obtain ⟨es, k, hb, hm⟩ := h
  have hlt : b < w.heap.size := (Array.getElem?_eq_some_iff.1 hb).1
  have hg : (getObj b).run P w = .ok (.map (es.map ME.ent).toArray k) w := MapKept.run_getObj_map hb
  have hput : ∀ o, (w.putObj b o).heap[b]? = some o := fun o => World.putObj_heap_same hlt
  cases hf : fnd s es 0 with
  | none =>
    refine ⟨.map (es.map ME.ent).toArray k, ?_, es, k, hput _, ?_, hm.inc, hm.lt⟩
    · have h1 := MapKept.run_setObj_map (P := P) (.map (es.map ME.ent).toArray k) hb
      have h2 := run_findKey (P := P) hk s es w
      rw [hf] at h2
      have h1' : (setObj b (.map (es.map ME.ent).toArray k)).run P w = .ok () (w.putObj b (.map (es.map ME.ent).toArray k)) := h1
      simp only [builtin, Builtin.delete_, Sem.run_bind, run_underlying ht, hg, run_checkKey hk, h2, Result.andThen_ok, Sem.run_pure, List.getElem?_toArray, List.getElem?_cons_zero, List.getElem?_cons_succ, h1']
    · rw [← hm.cut]; exact (fnd_none_del hf).symm
  | some q =>
    obtain ⟨j, u⟩ := q
    obtain ⟨a, c, t0, rfl, hj, _, h2⟩ := fnd_some hf
    rw [Nat.zero_add] at hj
    subst hj
    have he : ((a ++ (s, u, t0) :: c).map ME.ent).toArray.eraseIdxIfInBounds a.length = ((a ++ c).map ME.ent).toArray := by
      apply Array.ext'
      have := erase_mid (ME.ent (s, u, t0)) (c.map ME.ent) (a.map ME.ent)
      rw [List.length_map] at this
      simp [Array.eraseIdxIfInBounds, List.map_append, this]
    refine ⟨.map ((a ++ c).map ME.ent).toArray k, ?_, a ++ c, k, hput _, by rw [h2, hm.cut], ?_, fun e he' => hm.lt e ?_⟩
    · have h1 := MapKept.run_setObj_map (P := P) (.map ((a ++ c).map ME.ent).toArray k) hb
      have h3 := run_findKey (P := P) hk s (a ++ (s, u, t0) :: c) w
      rw [hf] at h3
      have h1' : (setObj b (.map ((a ++ c).map ME.ent).toArray k)).run P w = .ok () (w.putObj b (.map ((a ++ c).map ME.ent).toArray k)) := h1
      simp only [builtin, Builtin.delete_, Sem.run_bind, run_underlying ht, hg, run_checkKey hk, h3, Result.andThen_ok, Sem.run_pure, List.getElem?_toArray, List.getElem?_cons_zero, List.getElem?_cons_succ, he, h1']
    · have := hm.inc
      rw [List.map_append, List.map_cons] at this
      rw [List.map_append]
      exact this.sublist ((List.sublist_cons_self _ _).append_left _)
    · rcases List.mem_append.1 he' with q | q
      · exact List.mem_append_left _ q
      · exact List.mem_append_right _ (List.mem_cons_of_mem _ q)
theorem Sat.mapDel {cx : Cx} {β : Va} {n : Nat} {H : List Bk} {F : List Fact} {w : World} (h : Sat cx β n H F w) (g : Good cx) (j : Nat) {b : Nat} {l : ML} (hj : nth F j = some (mapF b l)) {t tk kt et : TypeId} {i ik : TI} (s : ByteArray) (ty : TypeId) (cst : Array Bool) (hi : lk cx.tt t = some i := by rfl) (hd : i.desc = .map kt et := by rfl) (hik : lk cx.tt kt = some ik := by rfl) (hdk : ik.desc = .string := by rfl) :
    ∃ w', (builtin .delete #[t, tk] ty cst #[.map (some b), .string s]).run cx.P w = .ok (.value (.tuple #[])) w' ∧ Sat cx β n H (putAt F j (mapF b (mdel l s))) w' := by
  obtain ⟨o, e1, e2⟩ := run_del (P := cx.P) (tk := tk) ((g.ti hi).real (d := .map _ _) hd rfl) ((g.ti hik).real (d := .string) hdk rfl) (h.get j hj) s ty cst
  exact ⟨_, e1, h.upd hj rfl (chg_put o) e2 (fun k hk => .inl hk)⟩

/-! ### who goes -/
theorem sto_shutT {c0 : Cx} {w : World} {S : Sto} {A B : List Ten} {T : Ten} {us : List Crd} {last : Nat} {mm : ML} (hT : S.ts = A ++ T :: B) (hn : mm = us.map fun c : Crd => (c.user, ptr c.b))
    (h0 : Sat c0 Va.z 0 [] [bkF S.b ty_cred_Store [.map (some S.m), .int .u64 (last : Int), .int .u64 S.reads], mapF T.b mm, sepF (us.map crdF), mapF S.m S.ml, sepF ((A ++ B).map tenF)] w) :
    Sat c0 Va.z 0 [] [stoF { S with ts := A ++ { T with us := us } :: B, last := last }] w := by
  subst hn
  have h4 := h0.sep [1, 2]
  have h4' : Sat c0 Va.z 0 [] [tenF { T with us := us }, bkF S.b ty_cred_Store [.map (some S.m), .int .u64 (last : Int), .int .u64 S.reads], mapF S.m S.ml, sepF (A.map tenF ++ B.map tenF)] w := by
    rw [← List.map_append]
    exact h4
  have h5 := h4'.blur 0 3 (A := A.map tenF) (B := B.map tenF) (x := tenF { T with us := us }) rfl rfl rfl (by decide)
  have h6 := h5.sep [1, 2, 0]
  have e : stoF { S with ts := A ++ { T with us := us } :: B, last := last } = sepF [bkF S.b ty_cred_Store [.map (some S.m), .int .u64 (last : Int), .int .u64 S.reads], mapF S.m S.ml, sepF (A.map tenF ++ tenF { T with us := us } :: B.map tenF)] := by
    unfold stoF Sto.ml
    rw [hT]
    simp [Sto.vs]
  rw [e]
  exact h6
def dropU (X : ASto) (t u : ByteArray) : Int × ASto := match aone X t u with
  | none => (6, X)
  | some _ => (0, { X with ts := atenU X.ts t (fun us => ausrD us (nameA u).1) })
theorem drop_c (w : World) (S : Sto) (t u : ByteArray) (hu : u.size ≤ 100000) (hm : Mem w [stoF S, namF]) : Con Tryz.prog n_cred_Store_Drop #[ptr S.b, .string t, .string u] w [stoF S] (stoOut S (dropU S.a t u)) := by
  have g := good_cred_Store_Drop w (Un [stoF S])
  refine con_of_sx (cx := cx_cred_Store_Drop w (Un [stoF S])) g b_cred_Store_Drop rfl rfl (β := Va.z) [.c (.v (ptr S.b)), .c (.v (.string t)), .c (.v (.string u))] 0 [] [stoF S, namF] rfl rfl (hm.sat0 rfl (ownIn (Gs := [stoF S]) (fun f hf => by
    obtain rfl := List.mem_singleton.1 hf; rfl))) ?_
  cases hc : S.usr t u with
  | none =>
    refine call_pu (v := .pointer none) (fun β w' hs => by
      have h := get_c w' S t u (hs.get 0 rfl) (hs.getLt 0 rfl) hu (namF_T (hs.get 1 rfl))
      rw [hc] at h
      exact h) ?_
    intro β w' hs
    refine hs.fin [0] (stoOut_same ?_)
    unfold dropU
    rw [usr_none hc]
  | some c =>
    obtain ⟨A, T, B, U, V, at_⟩ := usr_some hc
    refine call_puS (v := ptr c.b) (fun β w' hs => by
      have h := get_c w' S t u (hs.get 0 rfl) (hs.getLt 0 rfl) hu (namF_T (hs.get 1 rfl))
      rw [hc] at h
      exact h) [] [mapF S.m S.ml, sepF ((A ++ B).map tenF), mapF T.b T.m, sepF ((U ++ V).map crdF), bkF S.b ty_cred_Store S.vs, bkF c.b ty_cred_Cred c.vs, sepF c.parts, namF] (fun β w' hs => (hs.recut [0] (sto_open at_.ten at_.crd)).unsep 3 rfl) ?_
    refine draw_rule g p_cred_Store_Drop_4 (by kernel_rfl) [] [mapF S.m S.ml, bkF S.b ty_cred_Store S.vs, bkF c.b ty_cred_Cred c.vs] (subPerm [0, 4, 5]) ?_
    refine ⟨.map (some S.m), fun β w' hs => bkc (hs.get 1 rfl) rfl, ?_⟩
    refine ⟨.map none, fun w => zero_map w, S.ml, some (.map (some T.b)), fun β w' hs => hs.get 0 rfl, at_.look, ?_⟩
    refine ⟨.string c.user, fun β w' hs => bkc (hs.get 2 rfl) rfl, ?_⟩
    refine ⟨[], [mapF S.m S.ml, sepF ((A ++ B).map tenF), mapF T.b (mdel T.m c.user), sepF ((U ++ V).map crdF), bkF S.b ty_cred_Store S.vs, bkF c.b ty_cred_Cred c.vs, sepF c.parts, namF], .c (.v (.tuple #[])), fun β w' ty hs => hs.mapDel g 2 rfl (t := ty_map_string_ptr_cred_Cred) (tk := ty_string) c.user ty #[false, false], trivial, ?_⟩
    refine ⟨subPerm [0, 4, 5], ?_⟩
    intro β w' hs
    have e1 : mdel T.m c.user = (U ++ V).map fun c : Crd => (c.user, ptr c.b) := by rw [at_.mdel, at_.user]
    have k := (hs.perm [4, 2, 3, 0, 1, 7]).recut [0, 1, 2, 3, 4] (Fs := [stoF { S with ts := A ++ { T with us := U ++ V } :: B }]) (sto_shutT (us := U ++ V) (last := S.last) at_.ten e1) rfl rfl ⟨rfl, rfl, rfl, rfl, rfl, trivial⟩ ⟨rfl, trivial⟩
    refine k.fin [0] ⟨{ S with ts := A ++ { T with us := U ++ V } :: B }, ?_, ?_, rfl, rfl⟩
    · unfold dropU; rw [at_.is]; rfl
    · unfold dropU
      rw [at_.is]
      show ASto.mk _ _ _ = ASto.mk _ _ _
      rw [at_.del]
      rfl
def dropT (X : ASto) (t : ByteArray) : Int × ASto := match aten X.ts t with
  | none => (6, X)
  | some _ => (0, { X with ts := atenD X.ts t })
theorem dropTenant_c (w : World) (S : Sto) (t : ByteArray) (hm : Mem w [stoF S]) : Con Tryz.prog n_cred_Store_DropTenant #[ptr S.b, .string t] w [stoF S] (stoOut S (dropT S.a t)) := by
  have g := good_cred_Store_DropTenant w (Un [stoF S])
  refine con_of_sx (cx := cx_cred_Store_DropTenant w (Un [stoF S])) g b_cred_Store_DropTenant rfl rfl (β := Va.z) [.c (.v (ptr S.b)), .c (.v (.string t))] 0 [] [stoF S] rfl rfl (hm.sat0 rfl (fun f hf ho k hk => ⟨f, hf, hk⟩)) ?_
  rcases look_ten t S.ts with ⟨A, T, B, eT, h0, h1, h2, h3, h4, h5, h6⟩ | ⟨h1, h2, h3⟩
  · refine call_pu (v := .map (some T.b)) (fun β w' hs => by
      have h := users_c w' S t (hs.get 0 rfl) (hs.getLt 0 rfl)
      rw [h0] at h
      exact h) ?_
    refine ⟨.map (some S.m), fun β w' hs => bkc (sto_bk (hs.get 0 rfl)) rfl, ?_⟩
    refine ⟨[], [stoF { S with ts := A ++ B }], .c (.v (.tuple #[])), fun β w' ty hs => ?_, trivial, ?_⟩
    · have k1 := hs.unsep 0 rfl
      obtain ⟨w2, k2, k3⟩ := k1.mapDel g 1 rfl (t := ty_map_string_map_string_ptr_cred_Cred) (tk := ty_string) t ty #[false, false]
      have k4 := k3.focus 2 (A := A.map tenF) (B := B.map tenF) (x := tenF T) (by show some (sepF (S.ts.map tenF)) = _; rw [eT, List.map_append, List.map_cons]) rfl
      have k5 := k4.sep [2, 3, 1]
      have e : stoF { S with ts := A ++ B } = sepF [bkF S.b ty_cred_Store S.vs, mapF S.m (mdel S.ml t), sepF (A.map tenF ++ B.map tenF)] := by
        unfold stoF Sto.ml
        rw [← h6]
        simp [Sto.vs]
      rw [e]
      exact ⟨w2, k2, k5.perm [0]⟩
    · intro β w' hs
      refine hs.fin [0] ⟨{ S with ts := A ++ B }, ?_, ?_, rfl, rfl⟩
      · unfold dropT; rw [show aten S.a.ts t = _ from h3]; rfl
      · unfold dropT
        rw [show aten S.a.ts t = _ from h3]
        show ASto.mk _ _ _ = ASto.mk _ _ _
        rw [h5]
        rfl
  · refine call_pu (v := .map none) (fun β w' hs => by
      have h := users_c w' S t (hs.get 0 rfl) (hs.getLt 0 rfl)
      rw [h3] at h
      exact h) ?_
    intro β w' hs
    refine hs.fin [0] (stoOut_same ?_)
    unfold dropT
    rw [show aten S.a.ts t = none from h2]

/-! ### who is revoked -/
def updU (X : ASto) (t u : ByteArray) (f : ACrd → ACrd) : ASto := { X with ts := atenU X.ts t (fun us => ausrU us (nameA u).1 fun c => { f c with gen := X.last + 1 }), last := X.last + 1 }
def revU (X : ASto) (t u : ByteArray) (b : Bool) : Int × ASto := match aone X t u with
  | none => (6, X)
  | some _ => if greatN ≤ X.last then (8, X) else (0, updU X t u fun c => { c with revoked := b })
/-- The store, shut behind a touch. -/
theorem sto_touched {c0 : Cx} {w : World} {S : Sto} {t u : ByteArray} {A B : List Ten} {T : Ten} {U V : List Crd} {c c' : Crd} (at_ : At S t u A T B U c V) (hb : c'.b = c.b) (hu : c'.user = c.user)
    (h0 : Sat c0 Va.z 0 [] [bkF S.b ty_cred_Store [.map (some S.m), .int .u64 ((S.last + 1 : Nat) : Int), .int .u64 S.reads], bkF c.b ty_cred_Cred c'.vs, sepF c'.parts, restF S.m S.ml (A ++ B) T.b T.m (U ++ V)] w) :
    Sat c0 Va.z 0 [] [stoF { S with ts := A ++ { T with us := U ++ c' :: V } :: B, last := S.last + 1 }] w :=
  sto_shut (S := S) (S' := { S with ts := A ++ { T with us := U ++ c' :: V } :: B, last := S.last + 1 }) at_.ten at_.crd hb hu rfl h0
theorem revoke_c (w : World) (S : Sto) (t u : ByteArray) (b : Bool) (hu : u.size ≤ 100000) (hm : Mem w [stoF S, namF]) : Con Tryz.prog n_cred_Store_Revoke #[ptr S.b, .string t, .string u, .bool b] w [stoF S] (stoOut S (revU S.a t u b)) := by
  have g := good_cred_Store_Revoke w (Un [stoF S])
  refine con_of_sx (cx := cx_cred_Store_Revoke w (Un [stoF S])) g b_cred_Store_Revoke rfl rfl (β := Va.z) [.c (.v (ptr S.b)), .c (.v (.string t)), .c (.v (.string u)), .c (.v (.bool b))] 0 [] [stoF S, namF] rfl rfl (hm.sat0 rfl (ownIn (Gs := [stoF S]) (fun f hf => by
    obtain rfl := List.mem_singleton.1 hf; rfl))) ?_
  cases hc : S.usr t u with
  | none =>
    refine call_pu (v := .pointer none) (fun β w' hs => by
      have h := get_c w' S t u (hs.get 0 rfl) (hs.getLt 0 rfl) hu (namF_T (hs.get 1 rfl))
      rw [hc] at h
      exact h) ?_
    intro β w' hs
    refine hs.fin [0] (stoOut_same ?_)
    unfold revU
    rw [usr_none hc]
  | some c =>
    obtain ⟨A, T, B, U, V, at_⟩ := usr_some hc
    refine call_pu (v := ptr c.b) (fun β w' hs => by
      have h := get_c w' S t u (hs.get 0 rfl) (hs.getLt 0 rfl) hu (namF_T (hs.get 1 rfl))
      rw [hc] at h
      exact h) ?_
    refine ⟨.int .u64 (S.last : Int), fun β w' hs => bkc (sto_bk (hs.get 0 rfl)) rfl, ?_⟩
    refine BIf.dec (fun hg => ?_) (fun hg => ?_)
    · have hg0 : (9007199254740992 : Int) ≤ (S.last : Int) := hg
      intro β w' hs
      refine hs.fin [0] (stoOut_same ?_)
      unfold revU
      rw [at_.is]
      exact if_pos (by unfold greatN; show _ ≤ S.last; omega)
    · have hg0 : ¬ (9007199254740992 : Int) ≤ (S.last : Int) := hg
      have hgl : S.last < greatN := by unfold greatN; omega
      refine ⟨[bkF S.b ty_cred_Store S.vs, bkF c.b ty_cred_Cred { c with revoked := b }.vs, sepF c.parts, restF S.m S.ml (A ++ B) T.b T.m (U ++ V), namF], fun β w' hs => ?_, ?_⟩
      · have k1 := hs.recut [0] (sto_open at_.ten at_.crd)
        exact k1.bkSet 1 (o := 9) (us := [.bool b]) rfl (Nat.le_refl 10) (fun u hu => by obtain rfl := List.mem_singleton.1 hu; rfl)
      refine call_con [0, 1] (fun β w' hs => touched_c w' S.b c.b S.last (.map (some S.m)) (.int .u64 S.reads) (Crd.vs { c with revoked := b }) rfl hgl (by have h := hs.mem.take (js := [0, 1]) rfl; exact h)) ?_
      rintro v Fs ⟨rfl, rfl⟩
      intro β w' hs
      have k := hs.recut [0, 1, 2, 3] (sto_touched (c' := { c with revoked := b, gen := S.last + 1 }) at_ rfl rfl)
      refine k.fin [0] ⟨{ S with ts := A ++ { T with us := U ++ { c with revoked := b, gen := S.last + 1 } :: V } :: B, last := S.last + 1 }, ?_, ?_, rfl, rfl⟩
      · unfold revU
        rw [at_.is]
        show _ = Value.int .i64 (if greatN ≤ S.last then (8, S.a) else (0, _)).1
        rw [if_neg (Nat.not_le.2 hgl)]
        rfl
      · unfold revU
        rw [at_.is]
        show _ = (if greatN ≤ S.last then (8, S.a) else (0, updU S.a t u fun c => { c with revoked := b })).2
        rw [if_neg (Nat.not_le.2 hgl)]
        show ASto.mk _ _ _ = ASto.mk _ _ _
        rw [at_.upd { c with revoked := b, gen := S.last + 1 } (fun c => { c with revoked := b, gen := S.last + 1 }) rfl rfl]
        rfl
end Go.Proofs.YtkobpamlmfpidaaGreatDoor.Sx

/- Who there is: a role more, behind all others. -/
namespace Go.Proofs.YtkobpamlmfpidaaGreatDoor.Sx
open Go
attribute [local irreducible] Calls

theorem isNaN_c (w : World) (x : ByteArray) : Pu Tryz.prog n_cmp_isNaN_string #[.string x] w (.bool false) := by
  have g := good_cmp_isNaN_string w (Un [])
  refine con_of_sx (cx := cx_cmp_isNaN_string w (Un [])) g b_cmp_isNaN_string rfl rfl (β := Va.z) [.c (.v (.string x))] 0 [] [] rfl rfl (Sat.start rfl) ?_
  intro β w' hs
  refine hs.fin [] ⟨?_, rfl⟩
  show Value.bool (!decide (x = x)) = _
  simp
theorem less_c (w : World) (x y : ByteArray) : Pu Tryz.prog n_cmp_Less_string #[.string x, .string y] w (.bool (Op.bytesLess x.toList y.toList)) := by
  have g := good_cmp_Less_string w (Un [])
  refine con_of_sx (cx := cx_cmp_Less_string w (Un [])) g b_cmp_Less_string rfl rfl (β := Va.z) [.c (.v (.string x)), .c (.v (.string y))] 0 [] [] rfl rfl (Sat.start rfl) ?_
  refine call_pu (fun β w' hs => isNaN_c w' x) ?_
  intro β w' hs
  exact hs.fin [] ⟨rfl, rfl⟩
/-- Behind all that are less. -/
theorem bsE_c (w : World) (A : Option Addr) (l : List ByteArray) (c : Nat) (x : ByteArray) (hr : Rd 1 A l.length (strs l) w) (hn : l.length ≤ 1000000) (hall : ∀ y ∈ l, Op.bytesLess y.toList x.toList = true) :
    Pu Tryz.prog n_slices_BinarySearch_string_string #[.slice A l.length c, .string x] w (.tuple #[.int .i64 (l.length : Int), .bool false]) := by
  have g := good_slices_BinarySearch_string_string w (Un [])
  refine con_of_sx (cx := cx_slices_BinarySearch_string_string w (Un [])) g b_slices_BinarySearch_string_string rfl rfl (β := Va.z) [.c (.v (.slice A l.length c)), .c (.v (.string x))] 0 [] [oldF w] rfl rfl (old_sat rfl) ?_
  refine loop_rule 0 (fun i : Nat => [(0, .c (.v (.slice A l.length c))), (1, .c (.v (.string x))), (6, .c (.v (.int .i64 l.length))), (7, .c (.v (.int .i64 (i : Int)))), (8, .c (.v (.int .i64 l.length)))]) (fun _ => []) (fun _ => [oldF w])
    (fun i => i ≤ l.length) (fun i => l.length - i) 0 (Nat.zero_le _) (Ent.same ⟨rfl, rfl, rfl, rfl, rfl, trivial⟩ rfl) g ?_
  intro i hi
  refine BIf.dec (fun hlt => ?_) (fun hge => ?_)
  · have hlt0 : (i : Int) < l.length := hlt
    have hil : i < l.length := by omega
    have hh : (i + l.length) / 2 < l.length := by omega
    obtain ⟨y, hy, hym⟩ := at_lt hh
    refine ⟨((i + l.length : Nat) : Int), by rw [wrap_i64 (by omega) (by omega)]; omega, ((i + l.length : Nat) : Int), by rw [wrap_u64']; omega, by decide, (((i + l.length) / 2 : Nat) : Int), ?_, (((i + l.length) / 2 : Nat) : Int), by rw [wrap_i64 (by omega) (by omega)], ?_⟩
    · show Int.fdiv ((i + l.length : Nat) : Int) (2 ^ (min (Int.toNat 1) 64)) = _
      rw [Int.fdiv_eq_ediv_of_nonneg _ (by decide)]
      have : (2 : Int) ^ (min (Int.toNat 1) 64) = 2 := by decide
      rw [this]
      omega
    obtain ⟨ad, hA, _⟩ := hr.2 (by omega)
    refine ⟨ad, (i + l.length) / 2, hA, rfl, hh, .string y, fun β w' hs => ?_, ?_⟩
    · have h := Rd.old hr (hs.get 0 rfl)
      rw [hA] at h
      exact Rd.cell1 h (by simp [strs, hy])
    refine call_pu (v := .bool true) (fun β w' hs => by
      have h := less_c w' y x
      rw [hall y hym] at h
      exact h) ?_
    refine ⟨(((i + l.length) / 2 + 1 : Nat) : Int), by rw [wrap_i64 (by omega) (by omega)]; rfl, ?_⟩
    exact ⟨(i + l.length) / 2 + 1, hh, by omega, Ent.same ⟨rfl, rfl, rfl, rfl, rfl, trivial⟩ rfl⟩
  · have hge0 : ¬ (i : Int) < l.length := hge
    obtain rfl : i = l.length := by omega
    conv => whnf
    generalize h1 : decide ((l.length : Int) < (l.length : Int)) = b1
    cases b1 with
    | true => exact absurd (of_decide_eq_true h1) (by omega)
    | false =>
      intro β w' hs
      exact hs.fin [] ⟨rfl, rfl⟩
/-- A text more, at the end. -/
theorem insE_c (w : World) (A B : Option Addr) (l : List ByteArray) (c cb : Nat) (x : ByteArray) (hn : l.length ≤ 1000000) (hlc : l.length ≤ c) (hm : Mem w [srowF A l c, rowF ty_string 1 (.slice B 1 cb) 1 [.string x]]) :
    Con Tryz.prog n_slices_Insert_string_string #[.slice A l.length c, .int .i64 l.length, .slice B 1 cb] w [srowF A l c, rowF ty_string 1 (.slice B 1 cb) 1 [.string x]] fun v Fs => ∃ A' c', v = .slice A' (l ++ [x]).length c' ∧ (l ++ [x]).length ≤ c' ∧ Fs = [srowF A' (l ++ [x]) c'] := by
  have g := good_slices_Insert_string_string w (Un [srowF A l c, rowF ty_string 1 (.slice B 1 cb) 1 [.string x]])
  refine con_of_sx (cx := cx_slices_Insert_string_string w (Un [srowF A l c, rowF ty_string 1 (.slice B 1 cb) 1 [.string x]])) g b_slices_Insert_string_string rfl rfl (β := Va.z) [.c (.v (.slice A l.length c)), .c (.v (.int .i64 l.length)), .c (.v (.slice B 1 cb))] 0 [] [srowF A l c, rowF ty_string 1 (.slice B 1 cb) 1 [.string x]] rfl rfl (hm.sat0 rfl (fun f hf ho k hk => ⟨f, hf, hk⟩)) ?_
  refine ⟨c, l.length, l.length, 0, c - l.length, _, rfl, rfl, rfl, Nat.le_refl c, hlc, Nat.le_refl _, Nat.sub_self _, rfl, rfl, ?_⟩
  refine BIf.dec (fun _ => ?_) (fun h => absurd rfl h)
  refine ⟨0, l.length, (l ++ [x]).length, strs l, [.string x], strs (l ++ [x]), rfl, fun β w' hs => row_rd (hs.get 1 rfl), fun u hu => by obtain rfl := List.mem_singleton.1 hu; rfl, by simp, by simp [strs], by rw [maxLen_eq, List.length_append]; simp only [List.length_singleton]; omega, by show (l ++ [x]).length * 16 ≤ _; rw [List.length_append]; simp only [List.length_singleton]; omega, ?_⟩
  intro A' c' h1 h2 h3 β w' hs
  exact hs.fin [0] ⟨A', c', rfl, h1, rfl⟩
def grantE (X : ASto) (t u role : ByteArray) : Int × ASto := match aone X t u with
  | none => (6, X)
  | some c => if plainF role.data.toList = false then (5, X) else if 8 ≤ c.roles.length then (8, X) else if greatN ≤ X.last then (8, X) else (0, updU X t u fun c => { c with roles := c.roles ++ [role] })
theorem grantE_c (w : World) (S : Sto) (t u role : ByteArray) (hu : u.size ≤ 100000) (hro : role.size ≤ 100000) (hz : ∀ a, aone S.a t u = some a → a.roles.length ≤ 1000 ∧ ∀ r ∈ a.roles, Op.bytesLess r.toList role.toList = true) (hm : Mem w [stoF S, namF]) :
    Con Tryz.prog n_cred_Store_Grant #[ptr S.b, .string t, .string u, .string role] w [stoF S] (stoOut S (grantE S.a t u role)) := by
  have g := good_cred_Store_Grant w (Un [stoF S])
  refine con_of_sx (cx := cx_cred_Store_Grant w (Un [stoF S])) g b_cred_Store_Grant rfl rfl (β := Va.z) [.c (.v (ptr S.b)), .c (.v (.string t)), .c (.v (.string u)), .c (.v (.string role))] 0 [] [stoF S, namF] rfl rfl (hm.sat0 rfl (ownIn (Gs := [stoF S]) (fun f hf => by
    obtain rfl := List.mem_singleton.1 hf; rfl))) ?_
  cases hc : S.usr t u with
  | none =>
    refine call_pu (v := .pointer none) (fun β w' hs => by
      have h := get_c w' S t u (hs.get 0 rfl) (hs.getLt 0 rfl) hu (namF_T (hs.get 1 rfl))
      rw [hc] at h
      exact h) ?_
    intro β w' hs
    refine hs.fin [0] (stoOut_same ?_)
    unfold grantE
    rw [usr_none hc]
  | some c =>
    obtain ⟨A, T, B, U, V, at_⟩ := usr_some hc
    obtain ⟨hrl, hall⟩ := hz _ at_.is
    have hrl' : c.roles.length ≤ 1000 := hrl
    refine call_pu (v := ptr c.b) (fun β w' hs => by
      have h := get_c w' S t u (hs.get 0 rfl) (hs.getLt 0 rfl) hu (namF_T (hs.get 1 rfl))
      rw [hc] at h
      exact h) ?_
    have hgr : grantE S.a t u role = if plainF role.data.toList = false then (5, S.a) else if 8 ≤ c.roles.length then (8, S.a) else if greatN ≤ S.last then (8, S.a) else (0, updU S.a t u fun c => { c with roles := c.roles ++ [role] }) := by
      unfold grantE
      rw [at_.is]
      rfl
    refine call_pu (fun β w' hs => plain_c w' role hro) ?_
    generalize hp : plainF role.data.toList = bp at hgr
    cases bp with
    | false =>
      rw [if_pos rfl] at hgr
      intro β w' hs
      exact hs.fin [0] (stoOut_same hgr)
    | true =>
    rw [if_neg (by decide)] at hgr
    have hcell : ∀ {β : Va} {n : Nat} {H : List Bk} {F : List Fact} {w' : World}, Sat (cx_cred_Store_Grant w (Un [stoF S])) β n H F w' → ∀ j, nth F j = some (stoF S) → w'.cell? ⟨c.b, 8, none⟩ = some (.slice c.rA c.roles.length c.rc) := fun hs j hj => bkc (crd_bk (at_.crdP (hs.get j hj))) rfl
    refine ⟨.slice c.rA c.roles.length c.rc, fun β w' hs => hcell hs 0 rfl, ?_⟩
    refine call_pu (fun β w' hs => bsE_c w' c.rA c.roles c.rc role (crd_strs (at_.crdP (hs.get 0 rfl))) (by omega) hall) ?_
    refine ⟨.slice c.rA c.roles.length c.rc, fun β w' hs => hcell hs 0 rfl, ?_⟩
    refine BIf.dec (fun hf => ?_) (fun hf => ?_)
    · have hf0 : (8 : Int) ≤ (c.roles.length : Int) := hf
      rw [if_pos (by omega)] at hgr
      intro β w' hs
      exact hs.fin [0] (stoOut_same hgr)
    have hf0 : ¬ (8 : Int) ≤ (c.roles.length : Int) := hf
    rw [if_neg (by omega)] at hgr
    refine ⟨.int .u64 (S.last : Int), fun β w' hs => bkc (sto_bk (hs.get 0 rfl)) rfl, ?_⟩
    refine BIf.dec (fun hg => ?_) (fun hg => ?_)
    · have hg0 : (9007199254740992 : Int) ≤ (S.last : Int) := hg
      rw [if_pos (by unfold greatN; omega)] at hgr
      intro β w' hs
      exact hs.fin [0] (stoOut_same hgr)
    have hg0 : ¬ (9007199254740992 : Int) ≤ (S.last : Int) := hg
    have hgl : S.last < greatN := by unfold greatN; omega
    rw [if_neg (Nat.not_le.2 hgl)] at hgr
    refine ⟨.slice c.rA c.roles.length c.rc, fun β w' hs => hcell hs 0 rfl, ?_⟩
    refine call_con [] (fun β w' hs => cloneS_c w' c.rA c.roles c.rc (crd_strs (at_.crdP (hs.get 0 rfl))) (by omega)) ?_
    rintro v Fs ⟨A1, c1, rfl, hc1, _, rfl⟩
    intro b1
    refine call_con [1, 0] (fun β w' hs => insE_c w' A1 (some ⟨b1, 0, none⟩) c.roles c1 1 role (by omega) hc1 (hs.mem.take (js := [1, 0]) rfl)) ?_
    rintro v Fs ⟨A2, c2, rfl, hc2, rfl⟩
    obtain ⟨cr, hcr⟩ : ∃ cr : Crd, cr = { c with rA := A2, rc := c2, roles := c.roles ++ [role] } := ⟨_, rfl⟩
    have hvs : putAll c.vs 8 [.slice A2 (c.roles ++ [role]).length c2] = cr.vs := by rw [hcr]; rfl
    refine ⟨[bkF S.b ty_cred_Store S.vs, bkF c.b ty_cred_Cred cr.vs, sepF c.parts, restF S.m S.ml (A ++ B) T.b T.m (U ++ V), srowF A2 (c.roles ++ [role]) c2, namF], fun β w' hs => ?_, ?_⟩
    · have k1 := hs.recut [1] (sto_open at_.ten at_.crd)
      have k2 := k1.bkSet 1 (o := 8) (us := [.slice A2 (c.roles ++ [role]).length c2]) rfl (show 8 + 1 ≤ 10 by decide) (fun u hu => by obtain rfl := List.mem_singleton.1 hu; rfl)
      rw [hvs] at k2
      exact k2
    refine call_con [0, 1] (fun β w' hs => touched_c w' S.b c.b S.last (.map (some S.m)) (.int .u64 S.reads) cr.vs rfl hgl (by have h := hs.mem.take (js := [0, 1]) rfl; exact h)) ?_
    rintro v Fs ⟨rfl, rfl⟩
    intro β w' hs
    have k1 := hs.unsep 2 rfl
    have k2 := k1.strsRow 8 rfl
    have k3 := k2.sep [8, 1, 2, 3, 4] rfl ⟨rfl, rfl, rfl, rfl, rfl, trivial⟩
    have k4 := k3.perm [2, 3, 0, 4, 5]
    have k := k4.recut [0, 1, 2, 3] (Fs := [stoF { S with ts := A ++ { T with us := U ++ { cr with gen := S.last + 1 } :: V } :: B, last := S.last + 1 }]) (fun h => sto_touched (c' := { cr with gen := S.last + 1 }) at_ (by rw [hcr]) (by rw [hcr]) (by rw [hcr] at h ⊢; exact h)) rfl rfl ⟨rfl, rfl, rfl, rfl, trivial⟩ ⟨rfl, trivial⟩
    refine k.fin [0] ⟨{ S with ts := A ++ { T with us := U ++ { cr with gen := S.last + 1 } :: V } :: B, last := S.last + 1 }, ?_, ?_, rfl, rfl⟩
    · rw [hgr]; rfl
    · rw [hgr]
      show ASto.mk _ _ _ = ASto.mk _ _ _
      rw [at_.upd { cr with gen := S.last + 1 } (fun c => { c with roles := c.roles ++ [role], gen := S.last + 1 }) (by rw [hcr]) (by rw [hcr]; rfl)]
      rfl
end Go.Proofs.YtkobpamlmfpidaaGreatDoor.Sx

/- Texts in order; slices.BinarySearch of texts that rise. -/
namespace Go.Proofs.YtkobpamlmfpidaaGreatDoor.Sx
open Go
attribute [local irreducible] Calls

/-- One text ahead of another. -/
def tlt (x y : ByteArray) : Prop := x.toList < y.toList
instance (x y : ByteArray) : Decidable (tlt x y) := by unfold tlt; exact inferInstance
theorem less_tlt (x y : ByteArray) : Op.bytesLess x.toList y.toList = decide (tlt x y) := bytesLess_eq _ _
theorem ba_toList (b : ByteArray) : b.toList = b.data.toList := ByteArray.toList_eq b
theorem ba_inj {x y : ByteArray} (h : x.toList = y.toList) : x = y := by
  rw [ba_toList, ba_toList] at h
  exact ByteArray.ext (Array.ext' h)
theorem tlt_irrefl (x : ByteArray) : ¬ tlt x x := by unfold tlt; exact List.lt_irrefl _
theorem tlt_trans {x y z : ByteArray} (h : tlt x y) (k : tlt y z) : tlt x z := by unfold tlt at *; exact List.lt_trans h k
theorem tlt_asymm {x y : ByteArray} (h : tlt x y) : ¬ tlt y x := fun k => tlt_irrefl x (tlt_trans h k)
theorem tlt_tri (x y : ByteArray) : tlt x y ∨ x = y ∨ tlt y x := by
  unfold tlt
  by_cases h1 : x.toList < y.toList
  · exact .inl h1
  · by_cases h2 : y.toList < x.toList
    · exact .inr (.inr h2)
    · refine .inr (.inl (ba_inj ?_))
      exact List.le_antisymm (List.not_lt.1 h2) (List.not_lt.1 h1)
/-- How many are ahead. -/
def rank (l : List ByteArray) (x : ByteArray) : Nat := (l.filter fun y => decide (tlt y x)).length
theorem rank_eq {l : List ByteArray} {x : ByteArray} {i : Nat} (hi : i ≤ l.length) (h1 : ∀ k y, k < i → l[k]? = some y → tlt y x) (h2 : ∀ k y, i ≤ k → l[k]? = some y → ¬ tlt y x) : rank l x = i := by
  have e : l = l.take i ++ l.drop i := (List.take_append_drop i l).symm
  unfold rank
  rw [e, List.filter_append]
  have f1 : (l.take i).filter (fun y => decide (tlt y x)) = l.take i := by
    refine List.filter_eq_self.2 fun y hy => ?_
    obtain ⟨k, hk⟩ := List.mem_iff_getElem?.1 hy
    have hkl : k < i := by
      have := (List.getElem?_eq_some_iff.1 hk).1
      rw [List.length_take] at this
      omega
    rw [List.getElem?_take, if_pos hkl] at hk
    exact decide_eq_true (h1 k y hkl hk)
  have f2 : (l.drop i).filter (fun y => decide (tlt y x)) = [] := by
    refine List.filter_eq_nil_iff.2 fun y hy => ?_
    obtain ⟨k, hk⟩ := List.mem_iff_getElem?.1 hy
    rw [List.getElem?_drop] at hk
    simpa using h2 (i + k) y (Nat.le_add_right _ _) hk
  rw [f1, f2, List.append_nil, List.length_take]
  omega
theorem ris_lt {l : List ByteArray} (hs : l.Pairwise tlt) {i j : Nat} {x y : ByteArray} (hij : i < j) (hi : l[i]? = some x) (hj : l[j]? = some y) : tlt x y := by
  obtain ⟨h1, rfl⟩ := List.getElem?_eq_some_iff.1 hi
  obtain ⟨h2, rfl⟩ := List.getElem?_eq_some_iff.1 hj
  exact List.pairwise_iff_getElem.1 hs i j h1 h2 hij
def hasT (l : List ByteArray) (x : ByteArray) : Bool := l.any fun y => decide (y = x)
theorem hasT_iff {l : List ByteArray} {x : ByteArray} : hasT l x = true ↔ x ∈ l := by
  unfold hasT
  rw [List.any_eq_true]
  constructor
  · rintro ⟨y, hy, h⟩
    exact of_decide_eq_true h ▸ hy
  · exact fun h => ⟨x, h, decide_eq_true rfl⟩
theorem hasT_no {l : List ByteArray} {x : ByteArray} (h : ¬ x ∈ l) : hasT l x = false := by
  cases q : hasT l x with
  | false => rfl
  | true => exact absurd (hasT_iff.1 q) h
theorem sNaN_c (w : World) (x : ByteArray) : Pu Tryz.prog n_slices_isNaN_string #[.string x] w (.bool false) := by
  refine con_of_sx (cx := cx_slices_isNaN_string w (Un [])) (good_slices_isNaN_string w (Un [])) b_slices_isNaN_string rfl rfl (β := Va.z) [.c (.v (.string x))] 0 [] [] rfl rfl (Sat.start rfl) ?_
  conv => whnf
  generalize hb : decide (x = x) = b
  cases b with
  | false => exact absurd rfl (of_decide_eq_false hb)
  | true =>
  intro β w' hs
  exact hs.fin [] ⟨rfl, rfl⟩
theorem bsG_c (w : World) (A : Option Addr) (l : List ByteArray) (c : Nat) (x : ByteArray) (hr : Rd 1 A l.length (strs l) w) (hn : l.length ≤ 1000000) (hs : l.Pairwise tlt) :
    Pu Tryz.prog n_slices_BinarySearch_string_string #[.slice A l.length c, .string x] w (.tuple #[.int .i64 (rank l x : Int), .bool (hasT l x)]) := by
  have g := good_slices_BinarySearch_string_string w (Un [])
  refine con_of_sx (cx := cx_slices_BinarySearch_string_string w (Un [])) g b_slices_BinarySearch_string_string rfl rfl (β := Va.z) [.c (.v (.slice A l.length c)), .c (.v (.string x))] 0 [] [oldF w] rfl rfl (old_sat rfl) ?_
  refine loop_rule 0 (fun i : Nat × Nat => [(0, .c (.v (.slice A l.length c))), (1, .c (.v (.string x))), (6, .c (.v (.int .i64 l.length))), (7, .c (.v (.int .i64 (i.1 : Int)))), (8, .c (.v (.int .i64 (i.2 : Int))))]) (fun _ => []) (fun _ => [oldF w])
    (fun i => i.1 ≤ i.2 ∧ i.2 ≤ l.length ∧ (∀ k y, k < i.1 → l[k]? = some y → tlt y x) ∧ (∀ k y, i.2 ≤ k → l[k]? = some y → ¬ tlt y x)) (fun i => i.2 - i.1) (0, l.length) ⟨Nat.zero_le _, Nat.le_refl _, fun k y h => absurd h (Nat.not_lt_zero _), fun k y h h2 => by rw [List.getElem?_eq_none h] at h2; cases h2⟩ (Ent.same ⟨rfl, rfl, rfl, rfl, rfl, trivial⟩ rfl) g ?_
  rintro ⟨i, j⟩ ⟨hij, hjn, hlo, hhi⟩
  simp only at hij hjn hlo hhi
  refine BIf.dec (fun hlt => ?_) (fun hge => ?_)
  · have hlt0 : (i : Int) < (j : Int) := hlt
    have hh : (i + j) / 2 < l.length := by omega
    obtain ⟨y, hy, hym⟩ := at_lt hh
    refine ⟨((i + j : Nat) : Int), by rw [wrap_i64 (by omega) (by omega)]; omega, ((i + j : Nat) : Int), by rw [wrap_u64']; omega, by decide, (((i + j) / 2 : Nat) : Int), ?_, (((i + j) / 2 : Nat) : Int), by rw [wrap_i64 (by omega) (by omega)], ?_⟩
    · show Int.fdiv ((i + j : Nat) : Int) (2 ^ (min (Int.toNat 1) 64)) = _
      rw [Int.fdiv_eq_ediv_of_nonneg _ (by decide)]
      have : (2 : Int) ^ (min (Int.toNat 1) 64) = 2 := by decide
      rw [this]
      omega
    obtain ⟨ad, hA, _⟩ := hr.2 (by omega)
    refine ⟨ad, (i + j) / 2, hA, rfl, hh, .string y, fun β w' hs => ?_, ?_⟩
    · have h := Rd.old hr (hs.get 0 rfl)
      rw [hA] at h
      exact Rd.cell1 h (by simp [strs, hy])
    obtain ⟨b, hb⟩ : ∃ b, decide (tlt y x) = b := ⟨_, rfl⟩
    refine call_pu (v := .bool b) (fun β w' hs => by
      have h := less_c w' y x
      rw [less_tlt, hb] at h
      exact h) ?_
    cases b with
    | true =>
      have hyx := of_decide_eq_true hb
      refine ⟨(((i + j) / 2 + 1 : Nat) : Int), by rw [wrap_i64 (by omega) (by omega)]; rfl, ?_⟩
      refine ⟨((i + j) / 2 + 1, j), ⟨by show (i + j) / 2 + 1 ≤ j; omega, hjn, fun k z hk hz => ?_, hhi⟩, by show j - ((i + j) / 2 + 1) < j - i; omega, Ent.same ⟨rfl, rfl, rfl, rfl, rfl, trivial⟩ rfl⟩
      have hk' : k < (i + j) / 2 + 1 := hk
      rcases Nat.lt_or_ge k ((i + j) / 2) with hk2 | hk2
      · exact tlt_trans (ris_lt hs hk2 hz hy) hyx
      · obtain rfl : k = (i + j) / 2 := by omega
        rw [hy] at hz
        obtain rfl := Option.some.inj hz
        exact hyx
    | false =>
      have hyx := of_decide_eq_false hb
      refine ⟨(i, (i + j) / 2), ⟨by show i ≤ (i + j) / 2; omega, by show (i + j) / 2 ≤ l.length; omega, hlo, fun k z hk hz q => ?_⟩, by show (i + j) / 2 - i < j - i; omega, Ent.same ⟨rfl, rfl, rfl, rfl, rfl, trivial⟩ rfl⟩
      have hk' : (i + j) / 2 ≤ k := hk
      rcases Nat.lt_or_ge ((i + j) / 2) k with hk2 | hk2
      · exact hyx (tlt_trans (ris_lt hs hk2 hy hz) q)
      · obtain rfl : k = (i + j) / 2 := by omega
        rw [hy] at hz
        obtain rfl := Option.some.inj hz
        exact hyx q
  · have hge0 : ¬ (i : Int) < (j : Int) := hge
    obtain rfl : i = j := by omega
    have hrk : rank l x = i := rank_eq hjn hlo hhi
    rw [hrk]
    refine BIf.dec (fun hil => ?_) (fun hil => ?_)
    · have hil0 : (i : Int) < (l.length : Int) := hil
      obtain ⟨y, hy, hym⟩ := at_lt (show i < l.length by omega)
      obtain ⟨ad, hA, _⟩ := hr.2 (by omega)
      refine ⟨ad, i, hA, rfl, by omega, .string y, fun β w' hs => ?_, ?_⟩
      · have h := Rd.old hr (hs.get 0 rfl)
        rw [hA] at h
        exact Rd.cell1 h (by simp [strs, hy])
      refine BIf.dec (fun hyx => ?_) (fun hyx => ?_)
      · have hyx0 : y = x := hyx
        rw [hasT_iff.2 (hyx0 ▸ hym)]
        intro β w' hs
        exact hs.fin [] ⟨rfl, rfl⟩
      · have hyx0 : ¬ y = x := hyx
        have hno : ¬ x ∈ l := fun h => by
          obtain ⟨k, hk⟩ := List.mem_iff_getElem?.1 h
          rcases Nat.lt_trichotomy k i with h1 | h1 | h1
          · exact tlt_irrefl x (hlo k x h1 hk)
          · subst h1
            rw [hy] at hk
            exact hyx0 (Option.some.inj hk)
          · exact hhi i y (Nat.le_refl _) hy (ris_lt hs h1 hy hk)
        rw [hasT_no hno]
        refine ⟨ad, i, hA, rfl, by omega, .string y, fun β w' hs => ?_, ?_⟩
        · have h := Rd.old hr (hs.get 0 rfl)
          rw [hA] at h
          exact Rd.cell1 h (by simp [strs, hy])
        refine call_pu (fun β w' hs => sNaN_c w' y) ?_
        intro β w' hs
        exact hs.fin [] ⟨rfl, rfl⟩
    · have hil0 : ¬ (i : Int) < (l.length : Int) := hil
      have hno : ¬ x ∈ l := fun h => by
        obtain ⟨k, hk⟩ := List.mem_iff_getElem?.1 h
        have := (List.getElem?_eq_some_iff.1 hk).1
        exact tlt_irrefl x (hlo k x (by omega) hk)
      rw [hasT_no hno]
      intro β w' hs
      exact hs.fin [] ⟨rfl, rfl⟩
end Go.Proofs.YtkobpamlmfpidaaGreatDoor.Sx

/- slices.Insert of one text, anywhere. -/
namespace Go.Proofs.YtkobpamlmfpidaaGreatDoor.Sx
open Go
attribute [local irreducible] Calls

def insRen : Go.Shelf.Ren := ⟨fun | 22 => 60 | 17 => 113 | 29 => 88 | 30 => 89 | 36 => 100 | n => n, fun | 24 => 27 | 3 => 3 | 4 => 4 | 9 => 9 | n => n, fun n => n⟩
theorem insLays : Go.Proofs.Lays2.n22 Tryz.prog insRen := {
  mixed := by kernel_rfl
  f17 := Tryz.func113.trans (congrArg some (by kernel_rfl))
  f22 := Tryz.func60.trans (congrArg some (by kernel_rfl))
  f29 := Tryz.func88.trans (congrArg some (by kernel_rfl))
  f30 := Tryz.func89.trans (congrArg some (by kernel_rfl))
  f36 := Tryz.func100.trans (congrArg some (by kernel_rfl))
  t0 := Tryz.underlying0
  a0 := Tryz.isAgg0
  z0 := Tryz.sizeOf0
  v0 := Tryz.zeroValue0
  t3 := Tryz.underlying3
  a3 := Tryz.isAgg3
  z3 := Tryz.sizeOf3
  v3 := Tryz.zeroValue3
  t4 := Tryz.underlying4
  a4 := Tryz.isAgg4
  z4 := Tryz.sizeOf4
  v4 := Tryz.zeroValue4
  t9 := Tryz.underlying9
  a9 := Tryz.isAgg9
  z9 := Tryz.sizeOf9
  v9 := Tryz.zeroValue9
  t24 := Tryz.underlying27
  a24 := Tryz.isAgg27
  z24 := Tryz.sizeOf27
  v24 := Tryz.zeroValue27
  i9 := by kernel_rfl
}
/-- A block's cells, written. -/
theorem setCells_at {b e : Nat} : ∀ (vs : List Value) (o : Nat) (w : World) (cur : Array Value) (fz : Nat × Nat), w.heap[b]? = some (.cells cur e fz) → (w.setCells b o vs).heap[b]? = some (.cells (putAll cur.toList o vs).toArray e fz)
  | [], o, w, cur, fz, h => by simpa [World.setCells, putAll] using h
  | v :: r, o, w, cur, fz, h => by
    have h1 : (w.setCell ⟨b, o, none⟩ v).heap[b]? = some (.cells (cur.setIfInBounds o v) e fz) := by
      unfold World.setCell
      show (w.heap.modify b _)[b]? = _
      rw [Array.getElem?_modify, if_pos rfl, h]
      rfl
    have h2 := setCells_at r (o + 1) _ _ fz h1
    rw [World.setCells, h2, putAll, putAt_eq]
    simp
theorem setCells_off {b k : Nat} (hk : k ≠ b) : ∀ (vs : List Value) (o : Nat) (w : World), (w.setCells b o vs).heap[k]? = w.heap[k]? ∧ (w.setCells b o vs).heap.size = w.heap.size ∧ (w.setCells b o vs).os = w.os ∧ (w.setCells b o vs).tape = w.tape ∧ (w.setCells b o vs).output = w.output
  | [], _, _ => ⟨rfl, rfl, rfl, rfl, rfl⟩
  | v :: r, o, w => by
    obtain ⟨h1, h2, h3, h4, h5⟩ := setCells_off hk r (o + 1) (w.setCell ⟨b, o, none⟩ v)
    rw [World.setCells]
    refine ⟨h1.trans ?_, h2.trans ?_, h3, h4, h5⟩
    · unfold World.setCell
      show (w.heap.modify b _)[k]? = _
      rw [Array.getElem?_modify, if_neg (fun q => hk q.symm)]
    · unfold World.setCell
      show (w.heap.modify b _).size = _
      exact Array.size_modify
theorem setCells_chg (w : World) (b o : Nat) (vs : List Value) : Chg (· = b) w (w.setCells b o vs) := by
  have h0 := setCells_off (Nat.succ_ne_self b) vs o w
  exact ⟨h0.2.2.1, h0.2.2.2.1, h0.2.2.2.2, Nat.le_of_eq h0.2.1.symm, fun k _ hk => (setCells_off (fun q => hk q) vs o w).1⟩
theorem drew_chg (w : World) : Chg None_ w w.drew := ⟨rfl, rfl, rfl, Nat.le_refl _, fun _ _ _ => rfl⟩
theorem mem_one {w : World} {f : Fact} (h : f.p w) (hD : ∀ k, f.D k → k < w.heap.size) : Mem w [f] :=
  ⟨fun g hg => by obtain rfl := List.mem_singleton.1 hg; exact h, fun g hg => by obtain rfl := List.mem_singleton.1 hg; exact hD, List.pairwise_singleton _ _⟩
/-- Where a text comes to stand. -/
def insT (l : List ByteArray) (i : Nat) (x : ByteArray) : List ByteArray := l.take i ++ x :: l.drop i
theorem insT_len {l : List ByteArray} {i : Nat} {x : ByteArray} (hi : i ≤ l.length) : (insT l i x).length = l.length + 1 := by
  unfold insT
  rw [List.length_append, List.length_cons, List.length_take, List.length_drop]
  omega
theorem strs_insT (l : List ByteArray) (i : Nat) (x : ByteArray) : strs (insT l i x) = (strs l).take i ++ Value.string x :: (strs l).drop i := by
  simp [strs, insT, List.map_take, List.map_drop]
theorem shift_cells {cs cur : List Value} {n i : Nat} {v : Value} (hn : cs.length = n) (hi : i < n) (hcur : n + 1 ≤ cur.length) (ht : cur.take n = cs) : (putAll (putAll cur (i + 1) (cs.drop i)) i [v]).take (n + 1) = cs.take i ++ v :: cs.drop i := by
  have hd : (cs.drop i).length = n - i := by rw [List.length_drop, hn]
  have h1 : putAll cur (i + 1) (cs.drop i) = cur.take (i + 1) ++ cs.drop i ++ cur.drop (n + 1) := by
    rw [putAll_all _ _ _ (by rw [hd]; omega), hd]
    congr 2
    omega
  have hl : (putAll cur (i + 1) (cs.drop i)).length = cur.length := length_putAll _ _ _
  rw [putAll_all [v] _ _ (by rw [hl]; show i + 1 ≤ _; omega)]
  have e1 : (putAll cur (i + 1) (cs.drop i)).take i = cs.take i := by
    rw [h1, List.append_assoc, List.take_append_of_le_length (by rw [List.length_take]; omega), List.take_take, ← ht, List.take_take]
    congr 1
    omega
  have e2 : (putAll cur (i + 1) (cs.drop i)).drop (i + [v].length) = cs.drop i ++ cur.drop (n + 1) := by
    rw [h1, List.append_assoc]
    show List.drop (i + 1) _ = _
    rw [List.drop_left' (by rw [List.length_take]; omega)]
  rw [e1, e2, List.append_assoc]
  have hlen : (cs.take i ++ (v :: cs.drop i)).length = n + 1 := by
    rw [List.length_append, List.length_cons, List.length_take, hd, hn]
    omega
  have e3 : cs.take i ++ ([v] ++ (cs.drop i ++ cur.drop (n + 1))) = (cs.take i ++ (v :: cs.drop i)) ++ cur.drop (n + 1) := by simp
  rw [e3, List.take_append_of_le_length (by omega), List.take_of_length_le (by omega)]
theorem grow_cells {cs C : List Value} {n i : Nat} {v : Value} (hn : cs.length = n) (hi : i < n) (hC : n + 1 ≤ C.length) (ht : C.take i = cs.take i) : (putAll (putAll C i [v]) (i + 1) (cs.drop i)).take (n + 1) = cs.take i ++ v :: cs.drop i := by
  have hd : (cs.drop i).length = n - i := by rw [List.length_drop, hn]
  have hl : (putAll C i [v]).length = C.length := length_putAll _ _ _
  have h1 : putAll C i [v] = cs.take i ++ [v] ++ C.drop (i + 1) := by
    rw [putAll_all [v] _ _ (by show i + 1 ≤ _; omega), ht]
    rfl
  have e1 : (putAll C i [v]).take (i + 1) = cs.take i ++ [v] := by
    have hlen : (cs.take i ++ [v]).length = i + 1 := by rw [List.length_append, List.length_take, hn]; show min i n + 1 = i + 1; omega
    rw [h1, List.take_append_of_le_length (by omega), List.take_of_length_le (by omega)]
  rw [putAll_all _ _ _ (by rw [hl, hd]; omega), e1]
  have hlen : (cs.take i ++ [v] ++ cs.drop i).length = n + 1 := by
    rw [List.length_append, List.length_append, List.length_take, hd, hn]
    show min i n + 1 + (n - i) = n + 1
    omega
  rw [List.take_append_of_le_length (by omega), List.take_of_length_le (by omega), List.append_assoc]
  rfl
theorem insG_c (w : World) (A B : Option Addr) (l : List ByteArray) (c cb i : Nat) (x : ByteArray) (hi : i ≤ l.length) (hn : l.length ≤ 1000000) (hlc : l.length ≤ c) (hm : Mem w [srowF A l c, rowF ty_string 1 (.slice B 1 cb) 1 [.string x]]) :
    Con Tryz.prog n_slices_Insert_string_string #[.slice A l.length c, .int .i64 (i : Int), .slice B 1 cb] w [srowF A l c, rowF ty_string 1 (.slice B 1 cb) 1 [.string x]] fun v Fs => ∃ A' c', v = .slice A' (insT l i x).length c' ∧ (insT l i x).length ≤ c' ∧ Fs = [srowF A' (insT l i x) c'] := by
  rcases Nat.lt_or_ge i l.length with hlt | hge
  rotate_left
  · obtain rfl : i = l.length := by omega
    have e : insT l l.length x = l ++ [x] := by unfold insT; rw [List.take_length, List.drop_length]
    rw [e]
    exact insE_c w A B l c cb x hn hlc hm
  have ho1 : w.ownsRow 0 ty_string 1 (.slice A l.length c) l.length (strs l) := hm.fact (srowF A l c) (by simp)
  have ho2 : w.ownsRow 0 ty_string 1 (.slice B 1 cb) 1 [.string x] := hm.fact (rowF ty_string 1 (.slice B 1 cb) 1 [.string x]) (by simp)
  have hsep := hm.sepf
  rcases ho1.2 with ⟨q, hz⟩ | ⟨b, cap, cur, hv, hb0, hg, hnc, hcm, hcs, htake⟩
  · omega
  rcases ho2.2 with ⟨q, hz⟩ | ⟨vb, vcap, vcur, hv2, vb0, vg, vnc, vcm, vcs, vtake⟩
  · omega
  injection hv with e1 e2 e3
  injection hv2 with f1 f2 f3
  subst e1 f1
  subst e3 f3
  have hne : vb ≠ b := by
    intro q
    subst q
    exact (List.pairwise_cons.1 hsep).1 (rowF ty_string 1 (.slice (some ⟨vb, 0, none⟩) 1 cb) 1 [.string x]) (by simp) (.inl rfl) vb rfl rfl
  have hml := maxLen_eq
  have hr1 := (row_rd ho1).2 (by omega)
  have hr2 := (row_rd ho2).2 (by decide)
  have hcl1 : ∀ j v, (strs l)[j]? = some v → w.cell? ⟨b, 0 + j, none⟩ = some v := fun j v hj => by
    obtain ⟨ad, q, h⟩ := hr1
    obtain rfl := Option.some.inj q
    have := h j v hj
    rwa [add_none] at this
  have hcl2 : ∀ j v, ([.string x] : List Value)[j]? = some v → w.cell? ⟨vb, 0 + j, none⟩ = some v := fun j v hj => by
    obtain ⟨ad, q, h⟩ := hr2
    obtain rfl := Option.some.inj q
    have := h j v hj
    rwa [add_none] at this
  have h1v : ∀ v ∈ ([.string x] : List Value), v.oneCell' = true := fun v hv => by obtain rfl := List.mem_singleton.1 hv; rfl
  have hlt' := insT_len (x := x) (Nat.le_of_lt hlt)
  have hsl := strs_len l
  by_cases hroom : l.length + 1 ≤ c
  · refine Calls.mono (Any2.slices_Insert_string_shift insLays b 0 l.length c i vb 0 1 cb (strs l) [.string x] w hlt (by decide) hroom (by omega) hne (strs_len l) rfl hcl1 (fun j hj => ?_) (fun j _ => Lib.frozen_of_heap hg (0 + j)) hcl2 (strs_one l) h1v ty_string ty_string vcur.size cur.size ?_ ?_ ?_ (Lib.frozen_of_heap vg 0) (Lib.frozen_of_heap vg vcur.size)) ?_
    · rw [cell_of_row w b _ _ _ _ hg]
      rw [Array.getElem?_eq_getElem (by omega)]
      rfl
    · unfold World.shape?; rw [vg]
    · unfold World.shape?; rw [hg]
    · omega
    rintro e w' ⟨rfl, rfl⟩
    refine ⟨_, rfl, [srowF (some ⟨b, 0, none⟩) (insT l i x) c], ⟨some ⟨b, 0, none⟩, c, by rw [hlt'], by omega, rfl⟩, ?_, ?_, ⟨rfl, trivial⟩, ?_⟩
    · have k1 := (drew_chg w).trans (setCells_chg w.drew b (0 + (i + 1)) ((strs l).drop i)) (U := (· = b)) (fun _ _ h => h.elim) (fun _ _ h => h)
      have k2 := k1.trans (setCells_chg _ b (0 + i) [.string x]) (U := Un [srowF (some ⟨b, 0, none⟩) l c, rowF ty_string 1 (.slice (some ⟨vb, 0, none⟩) 1 cb) 1 [.string x]]) (fun k _ h => ⟨srowF (some ⟨b, 0, none⟩) l c, by simp, by subst h; rfl⟩) (fun k _ h => ⟨srowF (some ⟨b, 0, none⟩) l c, by simp, by subst h; rfl⟩)
      exact k2
    · have hb1 := setCells_at ((strs l).drop i) (0 + (i + 1)) w.drew cur (0, 0) hg
      have hb2 := setCells_at [.string x] (0 + i) _ _ (0, 0) hb1
      rw [Nat.zero_add, Nat.zero_add] at hb2 ⊢
      refine mem_one ⟨by rw [strs_len, Nat.mul_one], .inr ⟨b, c, _, rfl, Nat.zero_le _, hb2, by omega, hcm, ?_, ?_⟩⟩ (fun k hk => ?_)
      · simp only [List.size_toArray, length_putAll, Array.length_toList]
        exact hcs
      · show ((putAll _ i [Value.string x]).toArray.toList).take ((insT l i x).length * 1) = strs (insT l i x)
        rw [strs_insT, hlt', Nat.mul_one]
        exact shift_cells (strs_len l) hlt (by have : cur.toList.length = cur.size := Array.length_toList; omega) (by rw [← htake, Nat.mul_one])
      · obtain rfl : b = k := by simpa [rowF, Value.ownBlock] using hk
        exact (Array.getElem?_eq_some_iff.1 hb2).1
    · intro f hf k hk
      obtain rfl := List.mem_singleton.1 hf
      exact .inl ⟨srowF (some ⟨b, 0, none⟩) l c, by simp, hk⟩
  · refine Calls.mono (Any2.slices_Insert_string_grow insLays b 0 l.length c i vb 0 1 cb (strs l) [.string x] w hlt (by decide) hlc (by omega) (by omega) (strs_len l) rfl hcl1 hcl2 (strs_one l) h1v) ?_
    rintro e w' ⟨rfl, rfl⟩
    have hgc := grownCap_ge w (l.length + 1) c (insRen.t 9)
    have hgm := grownCap_le_maxLen w (l.length + 1) c (insRen.t 9) (by omega)
    generalize grownCap w (l.length + 1) c (insRen.t 9) = cap at hgc hgm ⊢
    have hz : ∀ m, (Builtin.zeroCells (Value.string ⟨#[]⟩).cells m).size = m := fun m => by
      simp [Builtin.zeroCells, Value.cells]
    obtain ⟨C, hC⟩ : ∃ C : Array Value, ((strs l).take i).toArray ++ Builtin.zeroCells (Value.string ⟨#[]⟩).cells (l.length + 1 - i) ++ Builtin.zeroCells (Value.string ⟨#[]⟩).cells (cap - (l.length + 1)) = C := ⟨_, rfl⟩
    have hCs : C.size = cap := by
      rw [← hC, Array.size_append, Array.size_append, hz, hz, List.size_toArray, List.length_take, strs_len]
      omega
    have hCt : C.toList.take i = (strs l).take i := by
      rw [← hC, Array.toList_append, Array.toList_append, List.append_assoc, List.take_append_of_le_length (by rw [List.length_take, strs_len]; omega), List.take_take]
      congr 1
      omega
    have hb1 := setCells_at [.string x] i (w.alloc (.cells C (insRen.t 9))).drew C (0, 0) (heap_alloc_new w _)
    have hb2 := setCells_at ((strs l).drop i) (i + 1) ((w.alloc (.cells C (insRen.t 9))).drew.setCells w.heap.size i [.string x]).drew _ (0, 0) hb1
    have hch : Chg None_ w (((w.alloc (.cells C (insRen.t 9))).drew.setCells w.heap.size i [.string x]).drew.setCells w.heap.size (i + 1) ((strs l).drop i)) := by
      have k1 := (Chg.alloc w (.cells C (insRen.t 9))).trans (drew_chg _) (U := None_) (fun _ _ h => h) (fun _ _ h => h)
      have k2 := k1.trans (setCells_chg _ w.heap.size i [.string x]) (U := None_) (fun _ _ h => h) (fun k hk h => by subst h; exact absurd hk (Nat.lt_irrefl _))
      have k3 := k2.trans (drew_chg _) (U := None_) (fun _ _ h => h) (fun _ _ h => h)
      exact k3.trans (setCells_chg _ w.heap.size (i + 1) ((strs l).drop i)) (U := None_) (fun _ _ h => h) (fun k hk h => by subst h; exact absurd hk (Nat.lt_irrefl _))
    rw [hC]
    refine ⟨_, rfl, [srowF (some ⟨w.heap.size, 0, none⟩) (insT l i x) cap], ⟨some ⟨w.heap.size, 0, none⟩, cap, by rw [hlt'], by omega, rfl⟩, ?_, ?_, ⟨rfl, trivial⟩, ?_⟩
    · exact hch.mono (fun _ _ h => h.elim)
    · refine mem_one ⟨by rw [strs_len, Nat.mul_one], .inr ⟨w.heap.size, cap, _, rfl, Nat.zero_le _, hb2, by omega, hgm, ?_, ?_⟩⟩ (fun k hk => ?_)
      · simp only [List.size_toArray, length_putAll, Array.length_toList]
        rw [hCs, Nat.mul_one]
      · show ((putAll (putAll C.toList i [Value.string x]).toArray.toList (i + 1) _).toArray.toList).take ((insT l i x).length * 1) = strs (insT l i x)
        rw [strs_insT, hlt', Nat.mul_one]
        exact grow_cells (strs_len l) hlt (by have : C.toList.length = C.size := Array.length_toList; omega) hCt
      · obtain rfl : w.heap.size = k := by simpa [rowF, Value.ownBlock] using hk
        exact (Array.getElem?_eq_some_iff.1 hb2).1
    · intro f hf k hk
      obtain rfl := List.mem_singleton.1 hf
      obtain rfl : w.heap.size = k := by simpa [rowF, Value.ownBlock] using hk
      exact .inr (Nat.le_refl _)
end Go.Proofs.YtkobpamlmfpidaaGreatDoor.Sx
