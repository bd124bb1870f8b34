/- Texts joined: Shelf, Bld, BoxL, Bk1, Hex, Sha1, Sha2, Sha3, Sha4, Sha5, Sha6, Sha7, Sha8, Sha9, Pd0, Pd4, Pd5, Nam1, Nam2, Nam3, Nam4, Nam5, Nam6, Nam7, Nam8, Nam9, RnP, NamP, Rn1, SxTri, Rn2, Rn3, Rn4, B6V, B6G, B6D, Rk1, B6W, B6E, SxAs, StepG, Bk2, Box1, Box2, Join, Bk3, SumJ, HmL, Rep, Rep2, RoF, Hm1, Bk4, Bk5, Srt. -/
import Derived.Test.YtoifclfanabalaaGreatDoorMKnowsMore2
import Derived.Shelf.Strings.Builder1
import Derived.Shelf.Strings.Builder2
import Derived.Shelf.Small.Bits
import Derived.Shelf.Small.Strs
import Derived.Shelf.Small.Wraps
import Derived.Shelf.Strconv.Itoa0
import Derived.Shelf.Strings.Search1
import Derived.Shelf.Sort.Plain
import Derived.Shelf.Strings.Prefix
import Derived.Shelf.Bits.Mul64
import Derived.Shelf.Slices.Turned
import Derived.Ground.Names2Prog
import Derived.Shelf.Slices.Clone
import Derived.Shelf.Slices.SearchI
import Derived.Shelf.Bytes.SlIndexSmall
import Derived.Shelf.Bytes.SlIndexAt
import Derived.Shelf.Bytes.SlSearch0
import Derived.Shelf.Bytes.SlSearch1
import Derived.Shelf.Bytes.SlSearch2
import Derived.Shelf.Bytes.SlIndexWhole
import Derived.Shelf.LaysM
import Derived.Ground.SlbCloneProg
import Derived.Shelf.Bytes.SlClone
import Derived.Ground.SlbNamesProg
import Derived.Shelf.Bytes.SlJoin
import Derived.Ground.SlgnProg
import Derived.Shelf.SlicesE.Clone
import Derived.Shelf.Bytes.SlEqualAll
import Derived.Shelf.Bytes.Small
import Derived.Shelf.Bytes.IndexByte
import Derived.Test.YtoifclfanabalaaGreatDoorProg
import Derived.Lib.Join
import Derived.Lib.SlParts
import Derived.Lib.SlFresh
import Derived.Lib.MakeNoZero
import Derived.Laws.Externs
import Derived.Sort.OwnSortedInts
set_option linter.unusedVariables false
set_option linter.unusedSimpArgs false
namespace Go.Proofs
open Go.Shelf
def Tryz.lays125_ren : Go.Shelf.Ren := ⟨fun | 125 => 116 | 128 => 152 | 129 => 153 | n => n, fun | 46 => 88 | 3 => 3 | 51 => 41 | 53 => 97 | 4 => 4 | 5 => 5 | 9 => 9 | n => n, fun | n => n⟩
theorem Tryz.lays125 : Go.Proofs.Lays.n125 Tryz.prog Tryz.lays125_ren := {
  mixed := by kernel_rfl
  f125 := Tryz.func116.trans (congrArg some (by kernel_rfl))
  f128 := Tryz.func152.trans (congrArg some (by kernel_rfl))
  f129 := Tryz.func153.trans (congrArg some (by kernel_rfl))
  t3 := Tryz.underlying3
  a3 := Tryz.isAgg3
  z3 := Tryz.sizeOf3
  v3 := Tryz.zeroValue3
  t4 := Tryz.underlying4
  a4 := Tryz.isAgg4
  z4 := Tryz.sizeOf4
  v4 := Tryz.zeroValue4
  t5 := Tryz.underlying5
  a5 := Tryz.isAgg5
  z5 := Tryz.sizeOf5
  v5 := Tryz.zeroValue5
  t9 := Tryz.underlying9
  a9 := Tryz.isAgg9
  z9 := Tryz.sizeOf9
  v9 := Tryz.zeroValue9
  t46 := Tryz.underlying88
  a46 := Tryz.isAgg88
  z46 := Tryz.sizeOf88
  v46 := Tryz.zeroValue88
  t51 := Tryz.underlying41
  a51 := Tryz.isAgg41
  z51 := Tryz.sizeOf41
  v51 := Tryz.zeroValue41
  t53 := Tryz.underlying97
  a53 := Tryz.isAgg97
  z53 := Tryz.sizeOf97
  v53 := Tryz.zeroValue97 }
theorem Tryz.bits_Len (x : Int) (w : World) (h0 : 0 ≤ x) (h1 : x ≤ 18446744073709551615) :
    Calls Tryz.prog 116 #[.int .u64 x] w fun e w' => e = .returned (.int .i64 (Lib.bitLen x.toNat)) ∧ w' = w := Any.bits_Len Tryz.lays125 x w h0 h1
def Tryz.lays137_ren : Go.Shelf.Ren := ⟨fun | 137 => 60 | 217 => 86 | 266 => 117 | n => n, fun | 9 => 9 | 5 => 5 | 3 => 3 | n => n, fun | n => n⟩
theorem Tryz.lays137 : Go.Proofs.Lays.n137 Tryz.prog Tryz.lays137_ren := {
  mixed := by kernel_rfl
  f137 := Tryz.func60.trans (congrArg some (by kernel_rfl))
  f217 := Tryz.func86.trans (congrArg some (by kernel_rfl))
  f266 := Tryz.func117.trans (congrArg some (by kernel_rfl))
  t3 := Tryz.underlying3
  a3 := Tryz.isAgg3
  z3 := Tryz.sizeOf3
  v3 := Tryz.zeroValue3
  t5 := Tryz.underlying5
  a5 := Tryz.isAgg5
  z5 := Tryz.sizeOf5
  v5 := Tryz.zeroValue5
  t9 := Tryz.underlying9
  a9 := Tryz.isAgg9
  z9 := Tryz.sizeOf9
  v9 := Tryz.zeroValue9 }
open Go.RowKit in
theorem Tryz.strings_IndexByte (s : ByteArray) (c : Int) (w : World) :
    Calls Tryz.prog 60 #[.string s, .int .u8 c] w fun e w' => e = .returned (.int .i64 (Lib.indexByte s.data.toList c.toNat.toUInt8)) ∧ w' = w := Any.strings_IndexByte Tryz.lays137 s c w
def Tryz.lays189_ren : Go.Shelf.Ren := ⟨fun | 189 => 84 | 125 => 116 | 257 => 115 | 128 => 152 | 129 => 153 | 294 => 143 | 295 => 144 | 296 => 145 | 297 => 146 | 298 => 147 | 299 => 148 | 216 => 149 | 300 => 150 | 301 => 151 | 328 => 168 | 329 => 169 | 330 => 170 | 331 => 171 | 332 => 172 | 215 => 173 | 343 => 187 | n => n, fun | 28 => 37 | 3 => 3 | 46 => 88 | 0 => 0 | 51 => 41 | 53 => 97 | 4 => 4 | 183 => 194 | 182 => 193 | 131 => 35 | 5 => 5 | 9 => 9 | 218 => 213 | 222 => 217 | 228 => 225 | 229 => 226 | n => n, fun | n => n⟩
theorem Tryz.lays189 : Go.Proofs.Lays.n189 Tryz.prog Tryz.lays189_ren := {
  mixed := by kernel_rfl
  f125 := Tryz.func116.trans (congrArg some (by kernel_rfl))
  f128 := Tryz.func152.trans (congrArg some (by kernel_rfl))
  f129 := Tryz.func153.trans (congrArg some (by kernel_rfl))
  f189 := Tryz.func84.trans (congrArg some (by kernel_rfl))
  f215 := Tryz.func173.trans (congrArg some (by kernel_rfl))
  f216 := Tryz.func149.trans (congrArg some (by kernel_rfl))
  f257 := Tryz.func115.trans (congrArg some (by kernel_rfl))
  f294 := Tryz.func143.trans (congrArg some (by kernel_rfl))
  f295 := Tryz.func144.trans (congrArg some (by kernel_rfl))
  f296 := Tryz.func145.trans (congrArg some (by kernel_rfl))
  f297 := Tryz.func146.trans (congrArg some (by kernel_rfl))
  f298 := Tryz.func147.trans (congrArg some (by kernel_rfl))
  f299 := Tryz.func148.trans (congrArg some (by kernel_rfl))
  f300 := Tryz.func150.trans (congrArg some (by kernel_rfl))
  f301 := Tryz.func151.trans (congrArg some (by kernel_rfl))
  f328 := Tryz.func168.trans (congrArg some (by kernel_rfl))
  f329 := Tryz.func169.trans (congrArg some (by kernel_rfl))
  f330 := Tryz.func170.trans (congrArg some (by kernel_rfl))
  f331 := Tryz.func171.trans (congrArg some (by kernel_rfl))
  f332 := Tryz.func172.trans (congrArg some (by kernel_rfl))
  f343 := Tryz.func187.trans (congrArg some (by kernel_rfl))
  t0 := Tryz.underlying0
  a0 := Tryz.isAgg0
  z0 := Tryz.sizeOf0
  v0 := Tryz.zeroValue0
  t3 := Tryz.underlying3
  a3 := Tryz.isAgg3
  z3 := Tryz.sizeOf3
  v3 := Tryz.zeroValue3
  t4 := Tryz.underlying4
  a4 := Tryz.isAgg4
  z4 := Tryz.sizeOf4
  v4 := Tryz.zeroValue4
  t5 := Tryz.underlying5
  a5 := Tryz.isAgg5
  z5 := Tryz.sizeOf5
  v5 := Tryz.zeroValue5
  t9 := Tryz.underlying9
  a9 := Tryz.isAgg9
  z9 := Tryz.sizeOf9
  v9 := Tryz.zeroValue9
  t28 := Tryz.underlying37
  a28 := Tryz.isAgg37
  z28 := Tryz.sizeOf37
  v28 := Tryz.zeroValue37
  t46 := Tryz.underlying88
  a46 := Tryz.isAgg88
  z46 := Tryz.sizeOf88
  v46 := Tryz.zeroValue88
  t51 := Tryz.underlying41
  a51 := Tryz.isAgg41
  z51 := Tryz.sizeOf41
  v51 := Tryz.zeroValue41
  t53 := Tryz.underlying97
  a53 := Tryz.isAgg97
  z53 := Tryz.sizeOf97
  v53 := Tryz.zeroValue97
  t131 := Tryz.underlying35
  a131 := Tryz.isAgg35
  z131 := Tryz.sizeOf35
  v131 := Tryz.zeroValue35
  t182 := Tryz.underlying193
  a182 := Tryz.isAgg193
  z182 := Tryz.sizeOf193
  v182 := Tryz.zeroValue193
  t183 := Tryz.underlying194
  a183 := Tryz.isAgg194
  z183 := Tryz.sizeOf194
  v183 := Tryz.zeroValue194
  t218 := Tryz.underlying213
  a218 := Tryz.isAgg213
  z218 := Tryz.sizeOf213
  v218 := Tryz.zeroValue213
  t222 := Tryz.underlying217
  a222 := Tryz.isAgg217
  z222 := Tryz.sizeOf217
  v222 := Tryz.zeroValue217
  t228 := Tryz.underlying225
  a228 := Tryz.isAgg225
  z228 := Tryz.sizeOf225
  v228 := Tryz.zeroValue225
  t229 := Tryz.underlying226
  a229 := Tryz.isAgg226
  z229 := Tryz.sizeOf226
  v229 := Tryz.zeroValue226 }
open Go.Sort Go.RowKit in
theorem Tryz.slices_Sort_int (blk off cap : Nat) (zs : List Int) (w : World) (hH : Holds (Value.int .i64) w blk off zs.toArray) (hblk : blk < w.heap.size) (hsz : zs.length < 4611686018427387904) :
    Calls Tryz.prog 84 #[.slice (some ⟨blk, off, none⟩) zs.length cap] w fun e w' =>
      e = .returned (.tuple #[]) ∧ ∃ n os, w' = grow (putRow (Value.int .i64) (Sort.ahead w n) blk off (zs.mergeSort fun x y => decide (x ≤ y)).toArray) os := Any.slices_Sort_int Tryz.lays189 blk off cap zs w hH hblk hsz
def Tryz.lays99_ren : Go.Shelf.Ren := ⟨fun | 99 => 108 | 206 => 138 | n => n, fun | 9 => 9 | 4 => 4 | 3 => 3 | n => n, fun | n => n⟩
theorem Tryz.lays99 : Go.Proofs.Lays.n99 Tryz.prog Tryz.lays99_ren := {
  mixed := by kernel_rfl
  f99 := Tryz.func108.trans (congrArg some (by kernel_rfl))
  f206 := Tryz.func138.trans (congrArg some (by kernel_rfl))
  t3 := Tryz.underlying3
  a3 := Tryz.isAgg3
  z3 := Tryz.sizeOf3
  v3 := Tryz.zeroValue3
  t4 := Tryz.underlying4
  a4 := Tryz.isAgg4
  z4 := Tryz.sizeOf4
  v4 := Tryz.zeroValue4
  t9 := Tryz.underlying9
  a9 := Tryz.isAgg9
  z9 := Tryz.sizeOf9
  v9 := Tryz.zeroValue9 }
open Go.RowKit Go.Lib in
theorem Tryz.strings_HasPrefix (s p : ByteArray) (w : World) :
    Calls Tryz.prog 108 #[.string s, .string p] w fun e w' => e = .returned (.bool (Lib.hasPrefix s.data.toList p.data.toList)) ∧ w' = w := Any.strings_HasPrefix Tryz.lays99 s p w
def Tryz.lays212_ren : Go.Shelf.Ren := ⟨fun | 212 => 107 | 263 => 136 | 264 => 137 | n => n, fun | 46 => 88 | 51 => 41 | 146 => 187 | 53 => 97 | 148 => 189 | n => n, fun | n => n⟩
theorem Tryz.lays212 : Go.Proofs.Lays.n212 Tryz.prog Tryz.lays212_ren := {
  mixed := by kernel_rfl
  f212 := Tryz.func107.trans (congrArg some (by kernel_rfl))
  f263 := Tryz.func136.trans (congrArg some (by kernel_rfl))
  f264 := Tryz.func137.trans (congrArg some (by kernel_rfl))
  t46 := Tryz.underlying88
  a46 := Tryz.isAgg88
  z46 := Tryz.sizeOf88
  v46 := Tryz.zeroValue88
  t51 := Tryz.underlying41
  a51 := Tryz.isAgg41
  z51 := Tryz.sizeOf41
  v51 := Tryz.zeroValue41
  t53 := Tryz.underlying97
  a53 := Tryz.isAgg97
  z53 := Tryz.sizeOf97
  v53 := Tryz.zeroValue97
  t146 := Tryz.underlying187
  a146 := Tryz.isAgg187
  z146 := Tryz.sizeOf187
  v146 := Tryz.zeroValue187
  t148 := Tryz.underlying189
  a148 := Tryz.isAgg189
  z148 := Tryz.sizeOf189
  v148 := Tryz.zeroValue189 }
open Go.RowKit Go.Lib in
theorem Tryz.bits_Mul (x y : Nat) (hx : x < 18446744073709551616) (hy : y < 18446744073709551616) (w : World) :
    Calls Tryz.prog 107 #[.int .u64 x, .int .u64 y] w fun e w' => e = .returned (.tuple #[.int .u64 ((x * y / 18446744073709551616 : Nat) : Int), .int .u64 ((x * y % 18446744073709551616 : Nat) : Int)]) ∧ w' = w := Any.bits_Mul Tryz.lays212 x y hx hy w
def Tryz.lays186_ren : Go.Shelf.Ren := ⟨fun | 186 => 119 | 185 => 154 | 187 => 174 | 115 => 42 | 253 => 175 | 224 => 176 | 254 => 177 | 255 => 188 | 291 => 189 | n => n, fun | 37 => 22 | 4 => 4 | 3 => 3 | 0 => 0 | 5 => 5 | 46 => 88 | 9 => 9 | 146 => 187 | 51 => 41 | n => n, fun | 1 => 1 | n => n⟩
theorem Tryz.lays186 : Go.Proofs.Lays.n186 Tryz.prog Tryz.lays186_ren := {
  mixed := by kernel_rfl
  f115 := Tryz.func42.trans (congrArg some (by kernel_rfl))
  f185 := Tryz.func154.trans (congrArg some (by kernel_rfl))
  f186 := Tryz.func119.trans (congrArg some (by kernel_rfl))
  f187 := Tryz.func174.trans (congrArg some (by kernel_rfl))
  f224 := Tryz.func176.trans (congrArg some (by kernel_rfl))
  f253 := Tryz.func175.trans (congrArg some (by kernel_rfl))
  f254 := Tryz.func177.trans (congrArg some (by kernel_rfl))
  f255 := Tryz.func188.trans (congrArg some (by kernel_rfl))
  f291 := Tryz.func189.trans (congrArg some (by kernel_rfl))
  t0 := Tryz.underlying0
  a0 := Tryz.isAgg0
  z0 := Tryz.sizeOf0
  v0 := Tryz.zeroValue0
  t3 := Tryz.underlying3
  a3 := Tryz.isAgg3
  z3 := Tryz.sizeOf3
  v3 := Tryz.zeroValue3
  t4 := Tryz.underlying4
  a4 := Tryz.isAgg4
  z4 := Tryz.sizeOf4
  v4 := Tryz.zeroValue4
  t5 := Tryz.underlying5
  a5 := Tryz.isAgg5
  z5 := Tryz.sizeOf5
  v5 := Tryz.zeroValue5
  t9 := Tryz.underlying9
  a9 := Tryz.isAgg9
  z9 := Tryz.sizeOf9
  v9 := Tryz.zeroValue9
  t37 := Tryz.underlying22
  a37 := Tryz.isAgg22
  z37 := Tryz.sizeOf22
  v37 := Tryz.zeroValue22
  t46 := Tryz.underlying88
  a46 := Tryz.isAgg88
  z46 := Tryz.sizeOf88
  v46 := Tryz.zeroValue88
  t51 := Tryz.underlying41
  a51 := Tryz.isAgg41
  z51 := Tryz.sizeOf41
  v51 := Tryz.zeroValue41
  t146 := Tryz.underlying187
  a146 := Tryz.isAgg187
  z146 := Tryz.sizeOf187
  v146 := Tryz.zeroValue187
  g1 := by kernel_rfl }
open Go.Proofs Go.RowKit Go.Lib in
theorem Tryz.bytes_Contains_at (a1 a2 : Addr) (n c1 k c2 : Nat) (xs ys : List Int) (m : Int) (w : World) (hx : xs.length = n) (hy : ys.length = k) (hr1 : ∀ x ∈ xs, 0 ≤ x ∧ x < 256) (hr2 : ∀ y ∈ ys, 0 ≤ y ∧ y < 256) (hc1 : ∀ i, i < n → w.cell? (a1.add i) = some (.int .u8 (xs.getD i 0))) (hc2 : ∀ i, i < k → w.cell? (a2.add i) = some (.int .u8 (ys.getD i 0))) (hcap : n ≤ c1) (hs : n < 4294967281) (hk : k ≤ 9223372036854775807) (hm : w.cell? ⟨1, 0, none⟩ = some (.int .i64 m)) :
    Calls Tryz.prog 119 #[.slice (some a1) n c1, .slice (some a2) k c2] w fun e w' => e = .returned (.bool (Lib.contains (Lib.bytesOf xs) (Lib.bytesOf ys))) ∧ ∃ q, w' = w.drewN q := Any.bytes_Contains_at Tryz.lays186 a1 a2 n c1 k c2 xs ys m w hx hy hr1 hr2 hc1 hc2 hcap hs hk hm
open Go.Proofs Go.RowKit Go.Lib in
theorem Tryz.bytes_Contains_nil (p2 : Option Addr) (k c2 : Nat) (w : World) (hk : k ≤ 9223372036854775807) (h1 : k = 1 → ∃ b2 o2 cv, p2 = some ⟨b2, o2, none⟩ ∧ w.cell? ⟨b2, o2, none⟩ = some (.int .u8 cv)) :
    Calls Tryz.prog 119 #[.slice none 0 0, .slice p2 k c2] w fun e w' => e = .returned (.bool (decide (k = 0))) ∧ w' = w := Any.bytes_Contains_nil Tryz.lays186 p2 k c2 w hk h1
def Tryz.laysSlJ14_ren : Go.Shelf.Ren := ⟨fun | 14 => 40 | 15 => 71 | n => n, fun | 26 => 23 | 22 => 22 | 3 => 3 | 4 => 4 | 0 => 0 | 9 => 9 | 20 => 20 | 5 => 5 | n => n, fun | n => n⟩
theorem Tryz.laysSlJ14 : Go.Proofs.SlLaysJ.n14 Tryz.prog Tryz.laysSlJ14_ren := {
  mixed := by kernel_rfl
  f14 := Tryz.func40.trans (congrArg some (by kernel_rfl))
  f15 := Tryz.func71.trans (congrArg some (by kernel_rfl))
  t0 := Tryz.underlying0
  a0 := Tryz.isAgg0
  z0 := Tryz.sizeOf0
  v0 := Tryz.zeroValue0
  t3 := Tryz.underlying3
  a3 := Tryz.isAgg3
  z3 := Tryz.sizeOf3
  v3 := Tryz.zeroValue3
  t4 := Tryz.underlying4
  a4 := Tryz.isAgg4
  z4 := Tryz.sizeOf4
  v4 := Tryz.zeroValue4
  t9 := Tryz.underlying9
  a9 := Tryz.isAgg9
  z9 := Tryz.sizeOf9
  v9 := Tryz.zeroValue9
  t20 := Tryz.underlying20
  a20 := Tryz.isAgg20
  z20 := Tryz.sizeOf20
  v20 := Tryz.zeroValue20
  t22 := Tryz.underlying22
  a22 := Tryz.isAgg22
  z22 := Tryz.sizeOf22
  v22 := Tryz.zeroValue22
  t26 := Tryz.underlying23
  a26 := Tryz.isAgg23
  z26 := Tryz.sizeOf23
  v26 := Tryz.zeroValue23
  t5 := Tryz.underlying5
  z5 := Tryz.sizeOf5
  i5 := by kernel_rfl }
open Go.RowKit Go.Lib in
theorem Tryz.bytes_Join_many (b o n c : Nat) (vs : List Value) (ls : List (List UInt8)) (sv : Value) (sep : List UInt8) (w : World) (hn : ls.length = n) (h2 : 2 ≤ n) (hP : Lib.PartsAt w ⟨b, o, none⟩ vs ls) (hcap : n ≤ c) (hS : Lib.HoldsBytes w sv sep) (hn47 : n ≤ 140737488355328) (hlen : Lib.lens ls + sep.length * (n - 1) ≤ 140737488355328) :
    Calls Tryz.prog 40 #[.slice (some ⟨b, o, none⟩) n c, sv] w fun e w' => ∃ v', e = .returned v' ∧ Lib.FreshBytes w.heap.size w' v' (Lib.join ls sep) ∧ Below w.heap.size w w' := Any.bytes_Join_many Tryz.laysSlJ14 b o n c vs ls sv sep w hn h2 hP hcap hS hn47 hlen
end Go.Proofs

namespace Go.Proofs.YtoifclfanabalaaGreatDoor.Sx
open Go
attribute [local irreducible] Calls
theorem con_of_calls {P : Program} {k : FuncId} {args : Array Value} {w : World} {Gs : List Fact} {R : Value → List Fact → Prop} (h : Calls P k args w fun e w' => ∃ v, e = .returned v ∧ Fin w Gs R v w') : Con P k args w Gs R := h
theorem Mem.none (w : World) : Mem w [] := ⟨fun _ q => (by cases q), fun _ q => (by cases q), List.Pairwise.nil⟩
end Go.Proofs.YtoifclfanabalaaGreatDoor.Sx

namespace Go.Proofs.YtoifclfanabalaaGreatDoor.Bx
structure Term where
  kind : Nat
  key : List UInt8
  text : List UInt8
  rounds : Nat
  list : List Nat
  mask : List UInt8
def vint (n : Nat) : List UInt8 := if h : n < 128 then [UInt8.ofNat n] else UInt8.ofNat (n % 128 + 128) :: vint (n / 128)
termination_by n
decreasing_by omega
theorem vint_lt {n : Nat} (h : n < 128) : vint n = [UInt8.ofNat n] := by rw [vint, dif_pos h]
theorem vint_ge {n : Nat} (h : ¬ n < 128) : vint n = UInt8.ofNat (n % 128 + 128) :: vint (n / 128) := by rw [vint, dif_neg h]
theorem u8_inj {a b : Nat} (ha : a < 256) (hb : b < 256) (h : UInt8.ofNat a = UInt8.ofNat b) : a = b := by
  have := congrArg UInt8.toNat h
  simp only [UInt8.toNat_ofNat'] at this
  omega
theorem vint_inj : ∀ (a b : Nat) (x y : List UInt8), vint a ++ x = vint b ++ y → a = b ∧ x = y := by
  intro a
  induction a using Nat.strongRecOn with
  | _ a ih =>
    intro b x y h
    by_cases ha : a < 128
    · by_cases hb : b < 128
      · rw [vint_lt ha, vint_lt hb] at h
        simp only [List.cons_append, List.nil_append, List.cons.injEq] at h
        exact ⟨u8_inj (by omega) (by omega) h.1, h.2⟩
      · rw [vint_lt ha, vint_ge hb] at h
        simp only [List.cons_append, List.nil_append, List.cons.injEq] at h
        have := u8_inj (by omega) (by omega) h.1
        omega
    · by_cases hb : b < 128
      · rw [vint_ge ha, vint_lt hb] at h
        simp only [List.cons_append, List.nil_append, List.cons.injEq] at h
        have := u8_inj (by omega) (by omega) h.1
        omega
      · rw [vint_ge ha, vint_ge hb] at h
        simp only [List.cons_append, List.cons.injEq] at h
        have h1 := u8_inj (by omega) (by omega) h.1
        obtain ⟨h2, h3⟩ := ih (a / 128) (by omega) (b / 128) x y h.2
        exact ⟨by omega, h3⟩
theorem vints_inj : ∀ (l m : List Nat) (x y : List UInt8), l.length = m.length → l.flatMap vint ++ x = m.flatMap vint ++ y → l = m ∧ x = y
  | [], [], x, y, _, h => ⟨rfl, h⟩
  | [], _ :: _, _, _, hl, _ => by cases hl
  | _ :: _, [], _, _, hl, _ => by cases hl
  | a :: l, b :: m, x, y, hl, h => by
    simp only [List.flatMap_cons, List.append_assoc] at h
    obtain ⟨rfl, h2⟩ := vint_inj a b _ _ h
    obtain ⟨rfl, h3⟩ := vints_inj l m x y (by simpa using hl) h2
    exact ⟨rfl, h3⟩
def print (t : Term) : List UInt8 := [t.kind, t.rounds, t.key.length, t.text.length, t.list.length].flatMap vint ++ t.list.flatMap vint ++ (t.key ++ t.text ++ t.mask)
theorem print_inj {s t : Term} (h : print s = print t) : s = t := by
  obtain ⟨k, a, b, r, l, m⟩ := s
  obtain ⟨k', a', b', r', l', m'⟩ := t
  simp only [print, List.append_assoc] at h
  obtain ⟨h1, h2⟩ := vints_inj [k, r, a.length, b.length, l.length] [k', r', a'.length, b'.length, l'.length] _ _ rfl h
  simp only [List.cons.injEq, and_true] at h1
  obtain ⟨rfl, rfl, h3, h4, h5⟩ := h1
  obtain ⟨rfl, h6⟩ := vints_inj l l' _ _ h5 h2
  obtain ⟨rfl, h7⟩ := List.append_inj h6 h3
  obtain ⟨rfl, rfl⟩ := List.append_inj h7 h4
  rfl
def front : List UInt8 := [0xf1, 84, 82, 77] ++ List.replicate 24 0
theorem front_len : front.length = 28 := rfl
def be4 (n : Nat) : List UInt8 := [UInt8.ofNat (n / 16777216), UInt8.ofNat (n / 65536), UInt8.ofNat (n / 256), UInt8.ofNat n]
def handle (n : Nat) : List UInt8 := front ++ be4 n
theorem handle_len (n : Nat) : (handle n).length = 32 := rfl
def num : List UInt8 → Nat := List.foldl (fun n b => n * 256 + b.toNat) 0
def looks (p : List UInt8) : Option Nat := if p.length = 32 ∧ p.take 28 = front then some (num (p.drop 28)) else none
theorem num_be4 {n : Nat} (h : n < 4294967296) : num (be4 n) = n := by
  simp only [num, be4, List.foldl, UInt8.toNat_ofNat']
  omega
theorem looks_handle {n : Nat} (h : n < 4294967296) : looks (handle n) = some n := by
  have h1 : (handle n).take 28 = front := List.take_left' front_len
  have h2 : (handle n).drop 28 = be4 n := List.drop_left' front_len
  rw [looks, if_pos ⟨handle_len n, h1⟩, h2, num_be4 h]
open Classical in
noncomputable def place (t : Term) : List Term → Option Nat
  | [] => none
  | x :: r => if x = t then some 0 else (place t r).map (· + 1)
theorem place_some {t : Term} : ∀ {L : List Term} {i : Nat}, place t L = some i → L[i]? = some t
  | x :: r, i, h => by
    simp only [place] at h
    split at h
    · rename_i q; obtain rfl := Option.some.inj h; simp [q]
    · obtain ⟨j, hj, rfl⟩ := Option.map_eq_some_iff.1 h
      simpa using place_some hj
theorem place_none {t : Term} : ∀ {L : List Term}, place t L = none → t ∉ L
  | [], _ => List.not_mem_nil
  | x :: r, h => by
    simp only [place] at h
    split at h
    · cases h
    · rename_i q
      have h' : place t r = none := by simpa using h
      intro hm
      rcases List.mem_cons.1 hm with rfl | hm
      · exact q rfl
      · exact place_none h' hm
structure Box where
  sym : Bool
  full : Bool
  L : List Term
def noughts : List UInt8 := List.replicate 32 0
open Classical in
noncomputable def Box.tag (b : Box) (t : Term) : List UInt8 × Box := match place t b.L with
  | some i => (handle (i + 1), b)
  | none => if 4096 ≤ b.L.length then (noughts, { b with full := true }) else (handle (b.L.length + 1), { b with L := b.L ++ [t] })
def xorB (a b : List UInt8) : List UInt8 := List.zipWith (· ^^^ ·) a b
def Box.opens (b : Box) (tag : List UInt8) : Option (List Nat × List UInt8) :=
  if tag.length = 32 then
    if b.sym = true ∧ tag.take 28 = front then
      if num (tag.drop 28) < 1 ∨ b.L.length < num (tag.drop 28) then none
      else match b.L[num (tag.drop 28) - 1]? with
        | some t => if t.kind = 4 then some (t.list, t.mask) else some ([num (tag.drop 28)], noughts)
        | none => none
    else some ([], tag)
  else none
theorem opens_len {b : Box} {tag : List UInt8} (h : tag.length ≠ 32) : b.opens tag = none := by unfold Box.opens; rw [if_neg h]
theorem opens_raw {b : Box} {tag : List UInt8} (h : tag.length = 32) (hn : ¬ (b.sym = true ∧ tag.take 28 = front)) : b.opens tag = some ([], tag) := by unfold Box.opens; rw [if_pos h, if_neg hn]
theorem opens_out {b : Box} {tag : List UInt8} {n : Nat} (h : tag.length = 32) (hs : b.sym = true) (hf : tag.take 28 = front) (hn : num (tag.drop 28) = n) (ho : n < 1 ∨ b.L.length < n) : b.opens tag = none := by
  subst hn; unfold Box.opens; rw [if_pos h, if_pos ⟨hs, hf⟩, if_pos ho]
theorem opens_in {b : Box} {tag : List UInt8} {n : Nat} {t : Term} (h : tag.length = 32) (hs : b.sym = true) (hf : tag.take 28 = front) (hn : num (tag.drop 28) = n) (ho : ¬ (n < 1 ∨ b.L.length < n)) (ht : b.L[n - 1]? = some t) :
    b.opens tag = if t.kind = 4 then some (t.list, t.mask) else some ([n], noughts) := by
  subst hn; unfold Box.opens; rw [if_pos h, if_pos ⟨hs, hf⟩, if_neg ho, ht]
end Go.Proofs.YtoifclfanabalaaGreatDoor.Bx

namespace Go.Proofs.YtoifclfanabalaaGreatDoor.Sx
open Go
attribute [local irreducible] Calls
theorem mark_c (w : World) : Con Tryz.prog n_box_mark #[] w [] fun v Fs => ∃ b, v = .slice (some ⟨b, 0, none⟩) 28 28 ∧ Fs = [browF ty_uint8 (some ⟨b, 0, none⟩) Bx.front 28] := by
  have g := good_box_mark w (Un [])
  refine con_of_sx (cx := cx_box_mark w (Un [])) g b_box_mark rfl rfl (β := Va.z) [] 0 [] [] rfl rfl (Sat.start rfl) ?_
  refine ⟨28, 28, rfl, rfl, Nat.le_refl _, by decide, by decide, ?_⟩
  intro b
  intro b2
  refine ⟨_, _, .c (.v (.int .i64 4)), fun β w' ty hs => hs.copyRow g 1 rfl (row_rd (hs.get 0 rfl)) (bytes_one [241, 84, 82, 77]) ty _ rfl, trivial, ?_⟩
  intro β w' hs
  exact hs.fin [1] ⟨b, rfl, rfl⟩
theorem wrap_u8b (x : Nat) : IntKind.u8.wrap (x : Int) = ((UInt8.ofNat x).toNat : Int) := by
  rw [wrap_u8, UInt8.toNat_ofNat']
  omega
theorem shr_nat (n k : Nat) : (n : Int).fdiv (2 ^ k) = ((n / 2 ^ k : Nat) : Int) := by
  have : (2 ^ k : Int) = ((2 ^ k : Nat) : Int) := by push_cast; rfl
  rw [this, Int.fdiv_eq_ediv_of_nonneg _ (Int.natCast_nonneg _)]
  exact (Int.natCast_ediv _ _).symm
theorem handle_c (w : World) (n : Nat) : Con Tryz.prog n_box_Handle #[.int .i64 n] w [] fun v Fs => ∃ A c, v = .slice A 32 c ∧ 32 ≤ c ∧ c ≤ maxLen ∧ Fs = [browF ty_uint8 A (Bx.handle n) c] := by
  have g := good_box_Handle w (Un [])
  refine con_of_sx (cx := cx_box_Handle w (Un [])) g b_box_Handle rfl rfl (β := Va.z) [.c (.v (.int .i64 n))] 0 [] [] rfl rfl (Sat.start rfl) ?_
  refine call_con [] (fun β w' hs => mark_c w') ?_
  rintro v Fs ⟨b, rfl, rfl⟩
  refine ⟨by decide, _, shr_nat n 24, _, wrap_u8b _, by decide, _, shr_nat n 16, _, wrap_u8b _, by decide, _, shr_nat n 8, _, wrap_u8b _, _, wrap_u8b _, ?_⟩
  intro b2
  refine ⟨1, 28, 32, _, (Bx.be4 n).map byte, (Bx.handle n).map byte, rfl, fun β w' hs => row_rd (hs.get 0 rfl), bytes_one (Bx.be4 n), rfl, by rw [Bx.handle, List.map_append], by decide, by decide, ?_⟩
  intro A c h1 h2 h3
  intro β w' hs
  exact hs.fin [1] ⟨A, c, rfl, h1, h2, rfl⟩
end Go.Proofs.YtoifclfanabalaaGreatDoor.Sx

namespace Go.Proofs.YtoifclfanabalaaGreatDoor.Sx
open Go Sha
attribute [local irreducible] Calls
theorem rotl_c (w : World) (x : UInt32) (n : Nat) (h1 : 1 ≤ n) (h2 : n < 32) : Pu Tryz.prog n_math_bits_RotateLeft32 #[u32 x, .int .i64 (-(n : Int))] w (u32 (rotr x n)) := by
  refine pu_of (calls_of_sx (cx := cx_math_bits_RotateLeft32 w None_) (good_math_bits_RotateLeft32 w None_) b_math_bits_RotateLeft32 rfl rfl (β := Va.z) [.c (.v (u32 x)), .c (.v (.int .i64 (-(n : Int))))] 0 [] [] rfl rfl (Sat.start rfl) ?_)
  refine ⟨_, rfl, ?_⟩
  refine ⟨((32 - n : Nat) : Int), ?_, ?_⟩
  · have : ∀ n : _root_.Fin 32, 1 ≤ n.val → bits .and .u64 (IntKind.u64.wrap (-(n.val : Int))) 31 = ((32 - n.val : Nat) : Int) := by decide
    exact this ⟨n, h2⟩ h1
  refine ⟨by omega, _, shl32 x (32 - n) (by omega), ?_⟩
  refine ⟨(n : Int), by show IntKind.u64.wrap _ = _; simp only [IntKind.wrap, IntKind.bits, IntKind.signed]; simp; omega, ?_⟩
  refine ⟨by omega, _, shr32 x n h2, ?_⟩
  refine ⟨_, or32 _ _, ?_⟩
  intro β w' hs
  refine ⟨?_, hs.chg⟩
  rw [← rotl_eq]
  rfl
theorem turn_c (w : World) (x : UInt32) (n : Nat) (h1 : 1 ≤ n) (h2 : n < 32) : Pu Tryz.prog n_ostiaryref01_turn #[u32 x, .int .u64 (n : Int)] w (u32 (rotr x n)) := by
  refine pu_of (calls_of_sx (cx := cx_ostiaryref01_turn w None_) (good_ostiaryref01_turn w None_) b_ostiaryref01_turn rfl rfl (β := Va.z) [.c (.v (u32 x)), .c (.v (.int .u64 (n : Int)))] 0 [] [] rfl rfl (Sat.start rfl) ?_)
  refine ⟨by omega, _, shr32 x n h2, ?_⟩
  refine ⟨((32 - n : Nat) : Int), by show IntKind.u64.wrap _ = _; simp only [IntKind.wrap, IntKind.bits, IntKind.signed]; simp; omega, ?_⟩
  refine ⟨by omega, _, shl32 x (32 - n) (by omega), ?_⟩
  refine ⟨_, or32 _ _, ?_⟩
  intro β w' hs
  exact ⟨rfl, hs.chg⟩
theorem or_add {x y k : Nat} (h : y < 2 ^ k) : 2 ^ k * x ||| y = 2 ^ k * x + y := (Nat.two_pow_add_eq_or_of_lt h x).symm
theorem word_or (a b c d : UInt8) : ((UInt32.ofNat a.toNat <<< UInt32.ofNat 24 ||| UInt32.ofNat b.toNat <<< UInt32.ofNat 16) ||| UInt32.ofNat c.toNat <<< UInt32.ofNat 8) ||| UInt32.ofNat d.toNat = word a b c d := by
  apply UInt32.toNat_inj.1
  have h1 := a.toNat_lt
  have h2 := b.toNat_lt
  have h3 := c.toNat_lt
  have h4 := d.toNat_lt
  have sh : ∀ (x : UInt8) (n : Nat), n ≤ 24 → (UInt32.ofNat x.toNat <<< UInt32.ofNat n).toNat = 2 ^ n * x.toNat := by
    intro x n hn
    have hx := x.toNat_lt
    rw [UInt32.toNat_shiftLeft, UInt32.toNat_ofNat', UInt32.toNat_ofNat', Nat.mod_eq_of_lt (show n < 2 ^ 32 by omega), Nat.mod_eq_of_lt (show n < 32 by omega), Nat.shiftLeft_eq, Nat.mod_eq_of_lt (show x.toNat < 2 ^ 32 by omega), Nat.mul_comm]
    refine Nat.mod_eq_of_lt ?_
    have : 2 ^ n ≤ 2 ^ 24 := Nat.pow_le_pow_right (by omega) hn
    calc 2 ^ n * x.toNat ≤ 2 ^ 24 * x.toNat := Nat.mul_le_mul_right _ this
      _ < 2 ^ 32 := by omega
  unfold word
  simp only [UInt32.toNat_or, sh a 24 (by omega), sh b 16 (by omega), sh c 8 (by omega), UInt32.toNat_ofNat']
  rw [Nat.mod_eq_of_lt (show d.toNat < 2 ^ 32 by omega)]
  rw [or_add (show 2 ^ 16 * b.toNat < 2 ^ 24 by omega)]
  rw [show 2 ^ 24 * a.toNat + 2 ^ 16 * b.toNat = 2 ^ 16 * (256 * a.toNat + b.toNat) by omega, or_add (show 2 ^ 8 * c.toNat < 2 ^ 16 by omega)]
  rw [show 2 ^ 16 * (256 * a.toNat + b.toNat) + 2 ^ 8 * c.toNat = 2 ^ 8 * (256 * (256 * a.toNat + b.toNat) + c.toNat) by omega, or_add (show d.toNat < 2 ^ 8 by omega)]
  omega
theorem word_c (w : World) (A : Option Addr) (l : List UInt8) (c : Nat) (hr : Bs w A l) (x y z u : UInt8) (h0 : l[0]? = some x) (h1 : l[1]? = some y) (h2 : l[2]? = some z) (h3 : l[3]? = some u) :
    Pu Tryz.prog n_sha_word #[.slice A l.length c] w (u32 (word x y z u)) := by
  obtain ⟨k0, e0⟩ := List.getElem?_eq_some_iff.1 h0
  obtain ⟨k1, e1⟩ := List.getElem?_eq_some_iff.1 h1
  obtain ⟨k2, e2⟩ := List.getElem?_eq_some_iff.1 h2
  obtain ⟨k3, e3⟩ := List.getElem?_eq_some_iff.1 h3
  have g := good_sha_word w None_
  obtain ⟨ad, hA⟩ := Bs.addr hr (by omega)
  have cv : ∀ b : UInt8, IntKind.u32.wrap (b.toNat : Int) = ((UInt32.ofNat b.toNat).toNat : Int) := fun b => wrap32_nat _
  refine pu_of (calls_of_sx (cx := cx_sha_word w None_) g b_sha_word rfl rfl (β := Va.z) [.c (.v (.slice A l.length c))] 0 [] [bsF A l] rfl rfl ((Sat.start rfl).rd (fun _ h => by cases h) hr) ?_)
  refine draw_rule g p_sha_word_1 (by kernel_rfl) _ _ Sub.refl ?_
  refine ⟨ad, 0, hA, rfl, k0, byte x, fun β w hs => by rw [← e0]; exact Bs.cell (hs.get 0 rfl : Bs w A _) hA (j := 0) k0, ?_⟩
  refine ⟨_, cv x, by omega, _, shl32 (UInt32.ofNat x.toNat) 24 (by omega), ?_⟩
  refine ⟨ad, 1, hA, rfl, k1, byte y, fun β w hs => by rw [← e1]; exact Bs.cell (hs.get 0 rfl : Bs w A _) hA (j := 1) k1, ?_⟩
  refine ⟨_, cv y, by omega, _, shl32 (UInt32.ofNat y.toNat) 16 (by omega), ?_⟩
  refine ⟨_, or32 _ _, ?_⟩
  refine ⟨ad, 2, hA, rfl, k2, byte z, fun β w hs => by rw [← e2]; exact Bs.cell (hs.get 0 rfl : Bs w A _) hA (j := 2) k2, ?_⟩
  refine ⟨_, cv z, by omega, _, shl32 (UInt32.ofNat z.toNat) 8 (by omega), ?_⟩
  refine ⟨_, or32 _ _, ?_⟩
  refine ⟨ad, 3, hA, rfl, k3, byte u, fun β w hs => by rw [← e3]; exact Bs.cell (hs.get 0 rfl : Bs w A _) hA (j := 3) k3, ?_⟩
  refine ⟨_, cv u, _, or32 _ _, ?_⟩
  intro β w' hs
  refine ⟨?_, hs.chg⟩
  rw [← word_or]
  rfl
def sl32 (x : UInt32) : SL := .v (u32 x)
def arr (n : Nat) (ws : List UInt32) : List SL := (ws ++ List.replicate (n - ws.length) 0).map sl32
theorem arr_len {n : Nat} {ws : List UInt32} (h : ws.length ≤ n) : (arr n ws).length = n := by simp [arr]; omega
theorem arr_get {n : Nat} {ws : List UInt32} {i : Nat} (h : i < ws.length) : (arr n ws)[i]? = some (sl32 (ws.getD i 0)) := by
  simp only [arr, List.getElem?_map]
  rw [List.getElem?_append_left h, List.getElem?_eq_getElem h]
  simp [List.getD, List.getElem?_eq_getElem h]
theorem arr_set {n : Nat} {ws : List UInt32} (h : ws.length < n) (x : UInt32) : (arr n ws).set ws.length (sl32 x) = arr n (ws ++ [x]) := by
  obtain ⟨k, rfl⟩ : ∃ k, n = ws.length + (k + 1) := ⟨n - ws.length - 1, by omega⟩
  simp only [arr, List.length_append, List.length_cons, List.length_nil]
  rw [show ws.length + (k + 1) - ws.length = k + 1 by omega, show ws.length + (k + 1) - (ws.length + (0 + 1)) = k by omega, List.replicate_succ]
  simp
theorem arr_full {n : Nat} {ws : List UInt32} (h : ws.length = n) : arr n ws = ws.map sl32 := by simp [arr, h]
theorem arr_one (ws : List UInt32) : allOne (ws.map sl32) = true := allOne_of fun x hx => by obtain ⟨y, _, rfl⟩ := List.mem_map.1 hx; rfl
theorem arr_val (β : Va) (ws : List UInt32) : (ws.map sl32).map (SL.val β) = ws.map u32 := by rw [List.map_map]; rfl
theorem getD_drop (l : List UInt8) (i j : Nat) (h : i + j < l.length) : (l.drop i)[j]? = some (l.getD (i + j) 0) := by
  rw [List.getElem?_drop, List.getElem?_eq_getElem h]
  simp [List.getD, List.getElem?_eq_getElem h]
theorem spread_c (w : World) (A : Option Addr) (l : List UInt8) (c : Nat) (hr : Bs w A l) (hc : l.length ≤ c) (hl : 64 ≤ l.length) (hm : c ≤ maxLen) :
    Pu Tryz.prog n_sha_spread #[.slice A l.length c] w (.agg ((W l).map u32).toArray) := by
  obtain ⟨ws, hws⟩ : ∃ ws, W l = ws := ⟨_, rfl⟩
  have hwl : ws.length = 64 := by rw [← hws]; exact W_len l
  rw [hws]
  have g := good_sha_spread w None_
  refine pu_of (calls_of_sx (cx := cx_sha_spread w None_) g b_sha_spread rfl rfl (β := Va.z) [.c (.v (.slice A l.length c))] 0 [] [bsF A l] rfl rfl ((Sat.start rfl).rd (fun _ h => by cases h) hr) ?_)
  have e0 : arr 64 [] = ti182.zero.map SL.v := by simp only [arr, List.nil_append, List.length_nil, List.map_replicate]; rfl
  refine loop_rule (ι := Nat) 2 (fun i => [(0, .c (.v (.slice A l.length c))), (2, .c (.p 0 0)), (3, .c (.p 1 0)), (10, .c (.v (.int .i64 i)))]) (fun i => [⟨1, 182, arr 64 (sched l i)⟩, ⟨0, 182, arr 64 []⟩]) (fun _ => [bsF A l])
    (fun i => i ≤ 16) (fun i => 16 - i) 0 (Nat.zero_le _) (Ent.mk' ⟨rfl, rfl, rfl, rfl, trivial⟩ rfl (fun β w' hs => by rw [show sched l 0 = [] from rfl, e0]; exact hs)) g ?_
  intro i hi
  refine BIf.dec (fun hlt => ?_) (fun hge => ?_)
  · have hlt : i < 16 := by omega
    rw [maxLen_eq] at hm
    refine ⟨((4 * i : Nat) : Int), by rw [wrap_i64 (by omega) (by omega)]; omega, ?_⟩
    refine ⟨c, l.length, 4 * i, (l.drop (4 * i)).length, c - 4 * i, _, rfl, rfl, rfl, Nat.le_refl _, hc, by omega, by rw [List.length_drop], rfl, rfl, ?_⟩
    refine call_pu (fun β w' hs => word_c w' _ (l.drop (4 * i)) _ (Bs.cutB (hs.get 0 rfl : Bs w' A l) (j := l.length) hc (by omega) (Nat.le_refl _) (by rw [List.take_of_length_le (by simp)])) _ _ _ _
      (getD_drop l (4 * i) 0 (by omega)) (getD_drop l (4 * i) 1 (by omega)) (getD_drop l (4 * i) 2 (by omega)) (getD_drop l (4 * i) 3 (by omega))) ?_
    refine ⟨i, rfl, by omega, ?_⟩
    have hsl : (sched l i).length = i := sched_len l i
    refine m_true (b := Nat.ble (0 + i * 1 + 1) (arr 64 (sched l i)).length) (by rw [arr_len (by omega), Nat.ble_eq]; omega) ?_
    refine ⟨((i + 1 : Nat) : Int), by rw [wrap_i64 (by omega) (by omega)]; rfl, ?_⟩
    refine ⟨i + 1, by omega, by omega, Ent.mk' ⟨rfl, rfl, rfl, rfl, trivial⟩ rfl (fun β w' hs => ?_)⟩
    have e1 : putAll (arr 64 (sched l i)) (0 + i * 1) [sl32 (wordAt l i)] = arr 64 (sched l (i + 1)) := by
      rw [putAll, putAll, putAt_eq, Nat.zero_add, Nat.mul_one]
      have := arr_set (n := 64) (ws := sched l i) (by omega) (wordAt l i)
      rw [hsl] at this
      rw [this, sched, if_pos hlt]
    rw [← e1]
    exact hs
  · obtain rfl : i = 16 := by omega
    rw [maxLen_eq] at hm
    refine loop_rule (ι := Nat) 2 (fun i => [(0, .c (.v (.slice A l.length c))), (2, .c (.p 0 0)), (3, .c (.p 1 0)), (5, .c (.v (.int .i64 i)))]) (fun i => [⟨1, 182, arr 64 (sched l i)⟩, ⟨0, 182, arr 64 []⟩]) (fun _ => [bsF A l])
      (fun i => 16 ≤ i ∧ i ≤ 64) (fun i => 64 - i) 16 ⟨by omega, by omega⟩ (Ent.same ⟨rfl, rfl, rfl, rfl, trivial⟩ rfl) g ?_
    rintro i ⟨hi1, hi2⟩
    refine BIf.dec (fun hlt => ?_) (fun hge => ?_)
    · have hlt : i < 64 := by omega
      have hsl : (sched l i).length = i := sched_len l i
      have ld : ∀ {k : Nat}, k < i → nth (arr 64 (sched l i)) (0 + k * 1) = some (sl32 ((sched l i).getD k 0)) := fun {k} hk => by
        rw [nth_eq, Nat.zero_add, Nat.mul_one]; exact arr_get (by omega)
      refine draw_rule g p_sha_spread_10 (by kernel_rfl) _ _ Sub.refl ?_
      refine ⟨((i - 15 : Nat) : Int), by rw [wrap_i64 (by omega) (by omega)]; omega, i - 15, rfl, by omega, ?_⟩
      conv => whnf
      generalize hn : nth _ _ = o
      obtain rfl : o = some (sl32 ((sched l i).getD (i - 15) 0)) := hn.symm.trans (ld (by omega))
      clear hn
      refine ⟨((i - 2 : Nat) : Int), by rw [wrap_i64 (by omega) (by omega)]; omega, i - 2, rfl, by omega, ?_⟩
      conv => whnf
      generalize hn : nth _ _ = o
      obtain rfl : o = some (sl32 ((sched l i).getD (i - 2) 0)) := hn.symm.trans (ld (by omega))
      clear hn
      obtain ⟨xa, hxa⟩ : ∃ xa, (sched l i).getD (i - 15) 0 = xa := ⟨_, rfl⟩
      obtain ⟨xb, hxb⟩ : ∃ xb, (sched l i).getD (i - 2) 0 = xb := ⟨_, rfl⟩
      rw [hxa, hxb]
      refine call_pu (fun β w' hs => rotl_c w' xa 7 (by omega) (by omega)) ?_
      refine call_pu (fun β w' hs => rotl_c w' xa 18 (by omega) (by omega)) ?_
      refine ⟨_, xor32 _ _, by omega, _, shr32 xa 3 (by omega), _, xor32 _ _, ?_⟩
      refine call_pu (fun β w' hs => rotl_c w' xb 17 (by omega) (by omega)) ?_
      refine call_pu (fun β w' hs => rotl_c w' xb 19 (by omega) (by omega)) ?_
      refine ⟨_, xor32 _ _, by omega, _, shr32 xb 10 (by omega), _, xor32 _ _, ?_⟩
      refine draw_rule g p_sha_spread_13 (by kernel_rfl) _ _ Sub.refl ?_
      refine ⟨((i - 16 : Nat) : Int), by rw [wrap_i64 (by omega) (by omega)]; omega, i - 16, rfl, by omega, ?_⟩
      conv => whnf
      generalize hn : nth _ _ = o
      obtain rfl : o = some (sl32 ((sched l i).getD (i - 16) 0)) := hn.symm.trans (ld (by omega))
      clear hn
      refine ⟨_, add32 _ _, ?_⟩
      refine ⟨((i - 7 : Nat) : Int), by rw [wrap_i64 (by omega) (by omega)]; omega, i - 7, rfl, by omega, ?_⟩
      conv => whnf
      generalize hn : nth _ _ = o
      obtain rfl : o = some (sl32 ((sched l i).getD (i - 7) 0)) := hn.symm.trans (ld (by omega))
      clear hn
      refine ⟨_, add32 _ _, _, add32 _ _, i, rfl, by omega, ?_⟩
      refine m_true (b := Nat.ble (0 + i * 1 + 1) (arr 64 (sched l i)).length) (by rw [arr_len (by omega), Nat.ble_eq]; omega) ?_
      refine ⟨((i + 1 : Nat) : Int), by rw [wrap_i64 (by omega) (by omega)]; rfl, ?_⟩
      refine ⟨i + 1, ⟨by omega, by omega⟩, by omega, Ent.mk' ⟨rfl, rfl, rfl, rfl, trivial⟩ rfl (fun β w' hs => ?_)⟩
      have e1 : putAll (arr 64 (sched l i)) (0 + i * 1) [sl32 ((sched l i).getD (i - 16) 0 + s0 xa + (sched l i).getD (i - 7) 0 + s1 xb)] = arr 64 (sched l (i + 1)) := by
        rw [putAll, putAll, putAt_eq, Nat.zero_add, Nat.mul_one]
        have := arr_set (n := 64) (ws := sched l i) (by omega) ((sched l i).getD (i - 16) 0 + s0 xa + (sched l i).getD (i - 7) 0 + s1 xb)
        rw [hsl] at this
        rw [this, sched, if_neg (by omega), nxt, hxa, hxb]
      rw [← e1]
      exact hs
    · have hi64 : i = 64 := by omega
      have e2 : arr 64 (sched l i) = ws.map sl32 := by
        rw [← hws, hi64]
        exact arr_full (sched_len l 64)
      clear hi64 hi1 hi2 hge
      rw [e2]
      conv => whnf
      generalize hn : takeAt _ _ _ = o
      obtain rfl : o = some (ws.map sl32) := hn.symm.trans (takeAt_all (by rw [List.length_map, hwl]; rfl))
      clear hn
      conv => whnf
      generalize h1 : Nat.beq _ _ = b1
      generalize h2 : allOne _ = b2
      obtain rfl : b1 = true := h1.symm.trans (by rw [List.length_map, hwl]; rfl)
      obtain rfl : b2 = true := h2.symm.trans (arr_one ws)
      clear h1 h2
      conv => whnf
      generalize h1 : Nat.ble _ _ = b1
      obtain rfl : b1 = true := h1.symm.trans (by rw [List.length_map, hwl]; rfl)
      clear h1
      conv => whnf
      generalize hn : resOf _ _ _ _ = o
      obtain rfl : o = some [.agg (ws.map sl32)] := hn.symm.trans (by
        have hp : putAll (arr 64 []) 0 (ws.map sl32) = ws.map sl32 := putAll_full (by rw [List.length_map, hwl]; rfl)
        show (match takeAt (putAll (arr 64 []) 0 (ws.map sl32)) 0 64 with | some xs => some [SV.agg xs] | none => none) = _
        rw [hp, takeAt_all (by rw [List.length_map, hwl])])
      clear hn
      intro β w' hs
      refine ⟨?_, hs.chg⟩
      show Value.agg ((ws.map sl32).map (SL.val β)).toArray = _
      rw [arr_val]
def oddF (g : Nat) : Fact := rdF 1 (some ⟨g, 0, none⟩) 64 (K.map u32)
def stF (b ty : Nat) (s : S8) : Fact := bkF b ty (s.l.map u32)
theorem rounds_succ (s : S8) (w : List UInt32) (n : Nat) : rounds s w (n + 1) = (rounds s w n).round (K.getD n 0) (w.getD n 0) := rfl
theorem K_len : K.length = 64 := rfl
theorem odd_cell {g : Nat} {w : World} (h : (oddF g).p w) {i : Nat} (hi : i < 64) : w.cell? ((⟨g, 0, none⟩ : Addr).add (i * 1)) = some (u32 (K.getD i 0)) := by
  obtain ⟨_, h2⟩ := h
  obtain ⟨ad, q, hc⟩ := h2 (by omega)
  obtain rfl := Option.some.inj q
  rw [Nat.mul_one]
  refine hc i _ ?_
  rw [List.getElem?_map, List.getElem?_eq_getElem (by rw [K_len]; exact hi)]
  simp [List.getD, List.getElem?_eq_getElem (show i < K.length by rw [K_len]; exact hi)]
def mix (s t : S8) (i : Nat) : List SL := ((s.add t).l.take i ++ s.l.drop i).map sl32
theorem mix_len (s t : S8) : ∀ i, i < 9 → (mix s t i).length = 8
  | 0, _ => rfl | 1, _ => rfl | 2, _ => rfl | 3, _ => rfl | 4, _ => rfl | 5, _ => rfl | 6, _ => rfl | 7, _ => rfl | 8, _ => rfl
  | n + 9, h => by omega
theorem mix_get (s t : S8) : ∀ i, i < 8 → nth (mix s t i) i = some (sl32 (s.l.getD i 0))
  | 0, _ => rfl | 1, _ => rfl | 2, _ => rfl | 3, _ => rfl | 4, _ => rfl | 5, _ => rfl | 6, _ => rfl | 7, _ => rfl
  | n + 8, h => by omega
theorem mix_set (s t : S8) : ∀ i, i < 8 → putAll (mix s t i) i [sl32 (s.l.getD i 0 + t.l.getD i 0)] = mix s t (i + 1)
  | 0, _ => rfl | 1, _ => rfl | 2, _ => rfl | 3, _ => rfl | 4, _ => rfl | 5, _ => rfl | 6, _ => rfl | 7, _ => rfl
  | n + 8, h => by omega
theorem l_get (t : S8) : ∀ i, i < 8 → (t.l.map sl32)[i]? = some (sl32 (t.l.getD i 0))
  | 0, _ => rfl | 1, _ => rfl | 2, _ => rfl | 3, _ => rfl | 4, _ => rfl | 5, _ => rfl | 6, _ => rfl | 7, _ => rfl
  | n + 8, h => by omega
theorem step_c (w : World) (b ty : Nat) (s : S8) (A : Option Addr) (l : List UInt8) (c : Nat) (hm : Mem w [stF b ty s, bsF A l, oddF 2]) (hc : l.length ≤ c) (hl : 64 ≤ l.length) (hcm : c ≤ maxLen) :
    Con Tryz.prog n_sha_state_step #[.pointer (some ⟨b, 0, none⟩), .slice A l.length c] w [stF b ty s] fun v Fs => v = .tuple #[] ∧ Fs = [stF b ty (Sha.step s l)] := by
  obtain ⟨ws, hws⟩ : ∃ ws, W l = ws := ⟨_, rfl⟩
  have hwl : ws.length = 64 := by rw [← hws]; exact W_len l
  have g := good_sha_state_step w (Un [stF b ty s]) (bs := [b])
  have hs0 : Sat (cx_sha_state_step w (Un [stF b ty s]) [b]) (Va.of fun _ => b) 1 [] [stF b ty s, bsF A l, oddF 2] w :=
    hm.sat rfl (ownIn (Gs := [stF b ty s]) (Rs := [bsF A l, oddF 2]) (fun g hg => by
      rcases List.mem_cons.1 hg with rfl | hg
      · rfl
      · obtain rfl := List.mem_singleton.1 hg; rfl)) ⟨Nat.le_refl _, fun i hi => by
        have hi1 : i < 1 := hi
        have hi0 : i = 0 := by omega
        rw [hi0]; rfl⟩
  have hs1 := hs0.toBk 0 rfl 0 Nat.zero_lt_one rfl
  refine con_of_sx (cx := cx_sha_state_step w (Un [stF b ty s]) [b]) g b_sha_state_step rfl rfl (β := Va.of fun _ => b) [.c (.p 0 0), .c (.v (.slice A l.length c))] 1 [⟨0, ty, s.l.map sl32⟩] [bsF A l, oddF 2] rfl rfl (by rw [List.map_map] at hs1; exact hs1) ?_
  refine call_pu (fun β w' hs => spread_c w' A l c (hs.get 0 rfl) hc hl hcm) ?_
  rw [hws]
  have ea : ofValue (.agg (ws.map u32).toArray) = .agg (ws.map sl32) := by simp only [ofValue, List.map_map]; rfl
  rw [ea]
  conv => whnf
  generalize h1 : Nat.beq _ _ = b1
  generalize h2 : allOne _ = b2
  obtain rfl : b1 = true := h1.symm.trans (by rw [List.length_map, hwl]; rfl)
  obtain rfl : b2 = true := h2.symm.trans (arr_one ws)
  clear h1 h2
  conv => whnf
  generalize h1 : Nat.ble _ _ = b1
  obtain rfl : b1 = true := h1.symm.trans (by rw [List.length_map, hwl]; rfl)
  clear h1
  refine draw_rule g p_sha_state_step_1 (by kernel_rfl) _ _ Sub.refl ?_
  refine ⟨0, rfl, by decide, ?_⟩
  refine ⟨1, rfl, by decide, ?_⟩
  refine ⟨2, rfl, by decide, ?_⟩
  refine ⟨3, rfl, by decide, ?_⟩
  refine ⟨4, rfl, by decide, ?_⟩
  refine ⟨5, rfl, by decide, ?_⟩
  refine ⟨6, rfl, by decide, ?_⟩
  refine ⟨7, rfl, by decide, ?_⟩
  have hp : putAll (ti182.zero.map SL.v) 0 (ws.map sl32) = ws.map sl32 := putAll_full (by rw [List.length_map, hwl]; rfl)
  refine loop_rule (ι := Nat) 2 (fun i => [(0, .c (.p 0 0)), (4, .c (.p 1 0)), (5, .c (sl32 (rounds s ws i).a)), (6, .c (sl32 (rounds s ws i).b)), (7, .c (sl32 (rounds s ws i).c)), (8, .c (sl32 (rounds s ws i).d)), (9, .c (sl32 (rounds s ws i).e)), (10, .c (sl32 (rounds s ws i).f)), (11, .c (sl32 (rounds s ws i).g)), (12, .c (sl32 (rounds s ws i).h)), (55, .c (.v (.int .i64 i)))])
    (fun _ => [⟨1, 182, ws.map sl32⟩, ⟨0, ty, s.l.map sl32⟩]) (fun _ => [bsF A l, oddF 2])
    (fun i => i ≤ 64) (fun i => 64 - i) 0 (Nat.zero_le _) (Ent.mk' ⟨rfl, rfl, rfl, rfl, rfl, rfl, rfl, rfl, rfl, rfl, rfl, trivial⟩ rfl (fun β w' hs => by rw [← hp]; exact hs)) g ?_
  intro i hi
  obtain ⟨r, hr⟩ : ∃ r, rounds s ws i = r := ⟨_, rfl⟩
  rw [hr]
  obtain ⟨xa, xb, xc, xd, xe, xf, xg, xh⟩ := r
  refine BIf.dec (fun hlt => ?_) (fun hge => ?_)
  · have hlt : i < 64 := by omega
    refine call_pu (fun β w' hs => rotl_c w' xe 6 (by omega) (by omega)) ?_
    refine call_pu (fun β w' hs => rotl_c w' xe 11 (by omega) (by omega)) ?_
    refine ⟨_, xor32 _ _, ?_⟩
    refine call_pu (fun β w' hs => rotl_c w' xe 25 (by omega) (by omega)) ?_
    refine ⟨_, xor32 _ _, ?_⟩
    refine ⟨_, and32 _ _, _, not32 _, _, and32 _ _, _, xor32 _ _, ?_⟩
    refine draw_rule g p_sha_state_step_7 (by kernel_rfl) _ _ Sub.refl ?_
    refine ⟨_, add32 _ _, _, add32 _ _, i, rfl, hlt, u32 (K.getD i 0), fun β w' hs => odd_cell (hs.get 1 rfl) hlt, _, add32 _ _, i, rfl, hlt, ?_⟩
    conv => whnf
    generalize hn : nth _ _ = o
    obtain rfl : o = some (sl32 (ws.getD i 0)) := hn.symm.trans (by
      show nth (ws.map sl32) (0 + i * 1) = _
      rw [nth_eq, Nat.zero_add, Nat.mul_one, List.getElem?_map, List.getElem?_eq_getElem (by omega)]
      simp [List.getD, List.getElem?_eq_getElem (show i < ws.length by omega)])
    clear hn
    refine ⟨_, add32 _ _, ?_⟩
    refine call_pu (fun β w' hs => rotl_c w' xa 2 (by omega) (by omega)) ?_
    refine call_pu (fun β w' hs => rotl_c w' xa 13 (by omega) (by omega)) ?_
    refine ⟨_, xor32 _ _, ?_⟩
    refine call_pu (fun β w' hs => rotl_c w' xa 22 (by omega) (by omega)) ?_
    refine ⟨_, xor32 _ _, ?_⟩
    refine ⟨_, and32 _ _, _, and32 _ _, _, xor32 _ _, _, and32 _ _, _, xor32 _ _, ?_⟩
    refine ⟨_, add32 _ _, _, add32 _ _, _, add32 _ _, ?_⟩
    refine ⟨((i + 1 : Nat) : Int), by rw [wrap_i64 (by omega) (by omega)]; rfl, ?_⟩
    refine ⟨i + 1, by omega, by omega, Ent.same ?_ rfl⟩
    rw [rounds_succ, hr]
    exact ⟨rfl, rfl, rfl, rfl, rfl, rfl, rfl, rfl, rfl, rfl, rfl, trivial⟩
  · obtain ⟨t, ht⟩ : ∃ t, (⟨xa, xb, xc, xd, xe, xf, xg, xh⟩ : S8) = t := ⟨_, rfl⟩
    have hst : Sha.step s l = s.add t := by
      have : i = 64 := by omega
      rw [Sha.step, hws, ← ht, ← hr, this]
    rw [hst]
    refine loop_rule (ι := Nat) 2 (fun i => [(0, .c (.p 0 0)), (129, .agg [sl32 xa, sl32 xb, sl32 xc, sl32 xd, sl32 xe, sl32 xf, sl32 xg, sl32 xh]), (130, .c (.v (.int .i64 i)))])
      (fun i => [⟨1, 182, ws.map sl32⟩, ⟨0, ty, mix s t i⟩]) (fun _ => [bsF A l, oddF 2])
      (fun i => i ≤ 8) (fun i => 8 - i) 0 (Nat.zero_le _) (Ent.same ⟨rfl, rfl, rfl, trivial⟩ rfl) g ?_
    intro j hj
    refine BIf.dec (fun hlt => ?_) (fun hge => ?_)
    · have hlt : j < 8 := by omega
      refine ⟨j, sl32 (t.l.getD j 0), rfl, hlt, by rw [← ht]; show ((⟨xa, xb, xc, xd, xe, xf, xg, xh⟩ : S8).l.map sl32)[j * 1]? = _; rw [Nat.mul_one]; exact l_get _ j hlt, ?_⟩
      refine draw_rule g p_sha_state_step_15 (by kernel_rfl) [] [bsF A l, oddF 2] (Sub.of (List.nil_sublist _) (List.Sublist.refl _)) ?_
      refine ⟨j, rfl, hlt, ?_⟩
      conv => whnf
      generalize hn : nth _ _ = o
      obtain rfl : o = some (sl32 (s.l.getD j 0)) := hn.symm.trans (by
        show nth (mix s t j) (0 + j * 1) = _
        rw [Nat.zero_add, Nat.mul_one]
        exact mix_get s t j hlt)
      clear hn
      refine ⟨Sub.of (List.nil_sublist _) (List.Sublist.refl _), _, add32 _ _, j, rfl, hlt, ?_⟩
      conv => whnf
      generalize h1 : Nat.ble _ _ = b1
      obtain rfl : b1 = true := h1.symm.trans (by
        show Nat.ble (0 + j * 1 + 1) (mix s t j).length = true
        rw [mix_len s t j (by omega), Nat.ble_eq]; omega)
      clear h1
      refine ⟨Sub.of (List.nil_sublist _) (List.Sublist.refl _), ?_⟩
      refine ⟨((j + 1 : Nat) : Int), by rw [wrap_i64 (by omega) (by omega)]; rfl, ?_⟩
      refine ⟨j + 1, by omega, by omega, Ent.mk' ⟨rfl, rfl, rfl, trivial⟩ rfl (fun β w' hs => ?_)⟩
      have e1 := mix_set s t j hlt
      rw [← e1]
      have e3 : 0 + j * 1 = j := by omega
      have hs2 : Sat (cx_sha_state_step w (Un [stF b ty s]) [b]) β 2 [⟨1, 182, ws.map sl32⟩, ⟨0, ty, putAll (mix s t j) (0 + j * 1) [sl32 (s.l.getD j 0 + t.l.getD j 0)]⟩] [bsF A l, oddF 2] w' := hs
      rw [e3] at hs2
      exact hs2
    · obtain rfl : j = 8 := by omega
      intro β w' hs
      have h1 := hs.weaken (List.sublist_cons_self _ _) (List.Sublist.refl _)
      have h2 := h1.ofBk
      have hb : β 0 = b := h2.fix.2 0 (Nat.zero_lt_one)
      refine h2.fin [0] ⟨rfl, ?_⟩
      show [bkF (β 0) ty ((mix s t 8).map (SL.val β))] = [stF b ty (s.add t)]
      rw [hb]
      rfl
theorem u8_of32 (x : UInt32) : IntKind.u8.wrap (x.toNat : Int) = (x.toUInt8.toNat : Int) := by
  rw [show IntKind.u8.wrap (x.toNat : Int) = (x.toNat : Int) % 256 by simp [IntKind.wrap, IntKind.bits, IntKind.signed], UInt32.toNat_toUInt8]
  omega
def outN (s : S8) (i : Nat) : List UInt8 := (s.l.take i).flatMap b4
theorem outN_succ (s : S8) : ∀ i, i < 8 → outN s i ++ b4 (s.l.getD i 0) = outN s (i + 1)
  | 0, _ => rfl | 1, _ => rfl | 2, _ => rfl | 3, _ => rfl | 4, _ => rfl | 5, _ => rfl | 6, _ => rfl | 7, _ => rfl
  | n + 8, h => by omega
theorem stbytes_c (w : World) (b ty : Nat) (s : S8) (hm : Mem w [stF b ty s]) :
    Con Tryz.prog n_sha_state_bytes #[.pointer (some ⟨b, 0, none⟩)] w [stF b ty s] fun v Fs => ∃ A c, v = .slice A 32 c ∧ 32 ≤ c ∧ c ≤ maxLen ∧ Fs = [stF b ty s, browF ty_uint8 A (out s) c] := by
  have g := good_sha_state_bytes w (Un [stF b ty s]) (bs := [b])
  have hs0 : Sat (cx_sha_state_bytes w (Un [stF b ty s]) [b]) (Va.of fun _ => b) 1 [] [stF b ty s] w :=
    hm.sat rfl (ownIn (Gs := [stF b ty s]) (Rs := []) (fun g hg => by cases hg)) ⟨Nat.le_refl _, fun i hi => by
        have hi1 : i < 1 := hi
        have hi0 : i = 0 := by omega
        rw [hi0]; rfl⟩
  have hs1 := hs0.toBk 0 rfl 0 Nat.zero_lt_one rfl
  rw [List.map_map] at hs1
  refine con_of_sx (cx := cx_sha_state_bytes w (Un [stF b ty s]) [b]) g b_sha_state_bytes rfl rfl (β := Va.of fun _ => b) [.c (.p 0 0)] 1 [⟨0, ty, s.l.map sl32⟩] [browF ty_uint8 none [] 0] rfl rfl (hs1.nilRow _ _) ?_
  refine loop_rule (ι := Nat × Option Addr × Nat) 1 (fun i => [(6, .c (.p 0 0)), (7, .c (.v (.int .i64 i.1))), (3, .c (.v (.slice i.2.1 (4 * i.1) i.2.2)))]) (fun _ => [⟨0, ty, s.l.map sl32⟩])
    (fun i => [rowF ty_uint8 1 (.slice i.2.1 (4 * i.1) i.2.2) (4 * i.1) ((outN s i.1).map byte)])
    (fun i => i.1 ≤ 8 ∧ 4 * i.1 ≤ i.2.2 ∧ i.2.2 ≤ maxLen) (fun i => 8 - i.1) (0, none, 0) ⟨Nat.zero_le _, Nat.zero_le _, Nat.zero_le _⟩ (Ent.same ⟨rfl, rfl, rfl, trivial⟩ rfl) g ?_
  rintro ⟨i, A, c⟩ ⟨hi, hc, hcm⟩
  simp only at hi hc hcm
  refine BIf.dec (fun hlt => ?_) (fun hge => ?_)
  · have hlt : i < 8 := by omega
    obtain ⟨x, hx⟩ : ∃ x, s.l.getD i 0 = x := ⟨_, rfl⟩
    refine ⟨i, rfl, hlt, ?_⟩
    conv => whnf
    generalize hn : nth _ _ = o
    obtain rfl : o = some (sl32 x) := hn.symm.trans (by
      show nth (s.l.map sl32) (0 + i * 1) = _
      rw [Nat.zero_add, Nat.mul_one, ← hx, nth_eq]
      exact l_get s i hlt)
    clear hn
    refine ⟨by omega, _, shr32 x 24 (by omega), _, u8_of32 _, by omega, _, shr32 x 16 (by omega), _, u8_of32 _, by omega, _, shr32 x 8 (by omega), _, u8_of32 _, _, u8_of32 _, ?_⟩
    intro b2
    refine ⟨1, 4 * i, 4 * (i + 1), (outN s i).map byte, (b4 x).map byte, _, rfl, fun β w hs => row_rd (hs.get 0 rfl), bytes_one _, by omega, rfl, by rw [maxLen_eq]; omega, by show 4 * (i + 1) * 1 ≤ _; omega, ?_⟩
    intro A' c' h1 h2 _
    refine ⟨((i + 1 : Nat) : Int), by rw [wrap_i64 (by omega) (by omega)]; rfl, ?_⟩
    refine ⟨(i + 1, A', c'), ⟨by show i + 1 ≤ 8; omega, h1, h2⟩, by show 8 - (i + 1) < 8 - i; omega, Ent.mk' ⟨rfl, rfl, rfl, trivial⟩ rfl (fun β w' hs => ?_)⟩
    have e1 := outN_succ s i hlt
    rw [hx] at e1
    have h3 := hs.weaken (List.Sublist.refl _) (List.sublist_cons_self _ _)
    show Sat _ _ _ _ [rowF ty_uint8 1 (.slice A' (4 * (i + 1)) c') (4 * (i + 1)) ((outN s (i + 1)).map byte)] _
    rw [← e1, List.map_append]
    exact h3
  · obtain rfl : i = 8 := by omega
    intro β w' hs
    have h2 := hs.ofBk
    have hb : β 0 = b := h2.fix.2 0 (Nat.zero_lt_one)
    refine h2.fin [0, 1] ⟨A, c, rfl, hc, hcm, ?_⟩
    show [bkF (β 0) ty ((s.l.map sl32).map (SL.val β)), _] = [stF b ty s, _]
    rw [hb]
    rfl
theorem wrap_u8n (x : Nat) : IntKind.u8.wrap (x : Int) = ((UInt8.ofNat x).toNat : Int) := by
  rw [show IntKind.u8.wrap (x : Int) = (x : Int) % 256 by simp [IntKind.wrap, IntKind.bits, IntKind.signed], UInt8.toNat_ofNat']
  omega
theorem wrap_u64' (x : Int) : IntKind.u64.wrap x = x % 18446744073709551616 := by simp [IntKind.wrap, IntKind.bits, IntKind.signed]
theorem longN_succ (n : Nat) : ∀ i, i < 8 → (Sha.long n).take i ++ [UInt8.ofNat (n / 2 ^ (8 * (7 - i)))] = (Sha.long n).take (i + 1)
  | 0, _ => rfl | 1, _ => rfl | 2, _ => rfl | 3, _ => rfl | 4, _ => rfl | 5, _ => rfl | 6, _ => rfl | 7, _ => rfl
  | n + 8, h => by omega
theorem long_c (w : World) (n : Nat) :
    Con Tryz.prog n_sha_long #[.int .u64 n] w [] fun v Fs => ∃ A c, v = .slice A 8 c ∧ 8 ≤ c ∧ c ≤ maxLen ∧ Fs = [browF ty_uint8 A (Sha.long n) c] := by
  have g := good_sha_long w (Un [])
  refine con_of_sx (cx := cx_sha_long w (Un [])) g b_sha_long rfl rfl (β := Va.z) [.c (.v (.int .u64 n))] 0 [] [browF ty_uint8 none [] 0] rfl rfl ((Sat.start rfl).nilRow _ _) ?_
  refine loop_rule (ι := Nat × Option Addr × Nat) 0 (fun i => [(0, .c (.v (.int .u64 n))), (5, .c (.v (.int .i64 i.1))), (3, .c (.v (.slice i.2.1 i.1 i.2.2)))]) (fun _ => [])
    (fun i => [rowF ty_uint8 1 (.slice i.2.1 i.1 i.2.2) i.1 (((Sha.long n).take i.1).map byte)])
    (fun i => i.1 ≤ 8 ∧ i.1 ≤ i.2.2 ∧ i.2.2 ≤ maxLen) (fun i => 8 - i.1) (0, none, 0) ⟨Nat.zero_le _, Nat.zero_le _, Nat.zero_le _⟩ (Ent.same ⟨rfl, rfl, rfl, trivial⟩ rfl) g ?_
  rintro ⟨i, A, c⟩ ⟨hi, hc, hcm⟩
  simp only at hi hc hcm
  refine BIf.dec (fun hlt => ?_) (fun hge => ?_)
  · have hlt : i < 8 := by omega
    refine ⟨((7 - i : Nat) : Int), by rw [wrap_i64 (by omega) (by omega)]; omega, ((8 * (7 - i) : Nat) : Int), by rw [wrap_i64 (by omega) (by omega)]; omega, ?_⟩
    refine ⟨by omega, ((n / 2 ^ (8 * (7 - i)) : Nat) : Int), ?_, _, wrap_u8n _, ?_⟩
    · have h1 : min ((8 * (7 - i) : Nat) : Int).toNat IntKind.u64.bits = 8 * (7 - i) := by show min (8 * (7 - i)) 64 = _; omega
      rw [h1]
      have : (2 ^ (8 * (7 - i)) : Int) = ((2 ^ (8 * (7 - i)) : Nat) : Int) := by push_cast; rfl
      rw [this, Int.fdiv_eq_ediv_of_nonneg _ (Int.natCast_nonneg _)]
      exact (Int.natCast_ediv _ _).symm
    intro b2
    refine ⟨1, i, i + 1, ((Sha.long n).take i).map byte, [UInt8.ofNat (n / 2 ^ (8 * (7 - i)))].map byte, _, rfl, fun β w hs => row_rd (hs.get 0 rfl), bytes_one _, rfl, rfl, by rw [maxLen_eq]; omega, by show (i + 1) * 1 ≤ _; omega, ?_⟩
    intro A' c' h1 h2 _
    refine ⟨((i + 1 : Nat) : Int), by rw [wrap_i64 (by omega) (by omega)]; rfl, ?_⟩
    refine ⟨(i + 1, A', c'), ⟨by show i + 1 ≤ 8; omega, h1, h2⟩, by show 8 - (i + 1) < 8 - i; omega, Ent.mk' ⟨rfl, rfl, rfl, trivial⟩ rfl (fun β w' hs => ?_)⟩
    have h3 := hs.weaken (List.Sublist.refl _) (List.sublist_cons_self _ _)
    show Sat _ _ _ _ [rowF ty_uint8 1 (.slice A' (i + 1) c') (i + 1) (((Sha.long n).take (i + 1)).map byte)] _
    rw [← longN_succ n i hlt, List.map_append]
    exact h3
  · obtain rfl : i = 8 := by omega
    intro β w' hs
    exact hs.fin [0] ⟨A, c, rfl, hc, hcm, rfl⟩
theorem ends_c (w : World) (n : Nat) (hn : n ≤ 140737488355328) :
    Con Tryz.prog n_sha_ends #[.int .u64 n] w [] fun v Fs => ∃ A c, v = .slice A (Sha.ends n).length c ∧ (Sha.ends n).length ≤ c ∧ c ≤ maxLen ∧ Fs = [browF ty_uint8 A (Sha.ends n) c] := by
  have g := good_sha_ends w (Un [])
  have hz : zeros n < 64 := by unfold zeros; omega
  refine con_of_sx (cx := cx_sha_ends w (Un [])) g b_sha_ends rfl rfl (β := Va.z) [.c (.v (.int .u64 n))] 0 [] [] rfl rfl (Sat.start rfl) ?_
  intro b0
  refine loop_rule (ι := Nat × Option Addr × Nat) 0 (fun i => [(0, .c (.v (.int .u64 n))), (3, .c (.v (.slice i.2.1 (i.1 + 1) i.2.2)))]) (fun _ => [])
    (fun i => [rowF ty_uint8 1 (.slice i.2.1 (i.1 + 1) i.2.2) (i.1 + 1) (((0x80 : UInt8) :: List.replicate i.1 0).map byte)])
    (fun i => i.1 ≤ zeros n ∧ i.1 + 1 ≤ i.2.2 ∧ i.2.2 ≤ maxLen) (fun i => zeros n - i.1) (0, some ⟨b0, 0, none⟩, 1) ⟨Nat.zero_le _, Nat.le_refl _, by show 1 ≤ maxLen; decide⟩ (Ent.same ⟨rfl, rfl, trivial⟩ rfl) g ?_
  rintro ⟨i, A, c⟩ ⟨hi, hc, hcm⟩
  simp only at hi hc hcm
  obtain ⟨r, hr⟩ : ∃ r : Nat, (n + (i + 1) + 8) % 64 = r := ⟨_, rfl⟩
  refine ⟨((i + 1 : Nat) : Int), by rw [wrap_u64']; omega, ((n + (i + 1) : Nat) : Int), by rw [wrap_u64']; omega, ((n + (i + 1) + 8 : Nat) : Int), by rw [wrap_u64']; omega, by omega, (r : Int), by rw [Int.tmod_eq_emod_of_nonneg (by omega)]; omega, ?_⟩
  refine BIf.not (BIf.dec (fun h0 => ?_) (fun h0 => ?_))
  · have hiz : i = zeros n := by unfold zeros at *; omega
    refine ⟨((8 * n : Nat) : Int), by rw [wrap_u64']; omega, ?_⟩
    refine call_con [] (fun β w' hs => long_c w' (8 * n)) ?_
    rintro v Fs ⟨A2, c2, rfl, h1, h2, rfl⟩
    have hl : (Sha.ends n).length = i + 1 + 8 := by rw [Sha.ends_len, hiz]; omega
    refine ⟨1, i + 1, (Sha.ends n).length, _, (Sha.long (8 * n)).map byte, (Sha.ends n).map byte, rfl, fun β w hs => row_rd (hs.get 0 rfl), bytes_one _, hl.symm, by rw [← List.map_append, hiz]; rfl, by rw [maxLen_eq, hl]; omega, by show (Sha.ends n).length * 1 ≤ _; omega, ?_⟩
    intro A' c' h3 h4 _
    intro β w' hs
    exact hs.fin [1] ⟨A', c', rfl, h3, h4, rfl⟩
  · have hiz : i < zeros n := by
      rcases Nat.lt_or_ge i (zeros n) with h | h
      · exact h
      · exfalso
        apply h0
        have : i = zeros n := by omega
        subst this
        unfold zeros at hr
        omega
    intro b2
    refine ⟨1, i + 1, i + 1 + 1, ((0x80 : UInt8) :: List.replicate i 0).map byte, [(0 : UInt8)].map byte, _, rfl, fun β w hs => row_rd (hs.get 0 rfl), bytes_one _, rfl, rfl, by rw [maxLen_eq]; omega, by show (i + 1 + 1) * 1 ≤ _; omega, ?_⟩
    intro A' c' h1 h2 _
    refine ⟨(i + 1, A', c'), ⟨hiz, h1, h2⟩, by show zeros n - (i + 1) < zeros n - i; omega, Ent.mk' ⟨rfl, rfl, trivial⟩ rfl (fun β w' hs => ?_)⟩
    have h3 := hs.weaken (List.Sublist.refl _) (List.sublist_cons_self _ _)
    show Sat _ _ _ _ [rowF ty_uint8 1 (.slice A' (i + 1 + 1) c') (i + 1 + 1) (((0x80 : UInt8) :: List.replicate (i + 1) 0).map byte)] _
    rw [List.replicate_succ', ← List.cons_append, List.map_append]
    exact h3
theorem clone_c (w : World) (A : Option Addr) (l : List UInt8) (c : Nat) (hr : Bs w A l) (hn : l.length ≤ 140737488355328) :
    Con Tryz.prog n_bytes_Clone #[.slice A l.length c] w [] fun v Fs => ∃ A' c', v = .slice A' l.length c' ∧ l.length ≤ c' ∧ c' ≤ maxLen ∧ Fs = [browF ty_uint8 A' l c'] := by
  refine con_of_sx (cx := cx_bytes_Clone w (Un [])) (good_bytes_Clone w (Un [])) b_bytes_Clone rfl rfl (β := Va.z) [.c (.v (.slice A l.length c))] 0 [] [bsF A l] rfl rfl ((Sat.start rfl).rd (fun _ h => by cases h) hr) ?_
  refine BIf.mk (fun h => ?_) (fun h => ?_)
  · intro β w' hs
    have hA : A = none := by simpa using h
    subst hA
    have hl : l = [] := by
      cases l with
      | nil => rfl
      | cons x r => obtain ⟨ad, q⟩ := Bs.addr hr (by simp); cases q
    subst hl
    exact (hs.nilRow ty_uint8 1).fin [0] ⟨none, 0, rfl, Nat.le_refl _, Nat.zero_le _, rfl⟩
  intro b
  refine ⟨0, 0, l.length, [], l.map byte, _, rfl, fun β w hs => hs.get 1 rfl, bytes_one l, Nat.zero_add _, rfl, by rw [maxLen_eq]; omega, by show l.length * 1 ≤ _; omega, ?_⟩
  intro A' c' h1 h2 h3 β w' hs
  exact hs.fin [0] ⟨A', c', rfl, h1, h2, rfl⟩
def blk (q : List UInt8) (i : Nat) : List UInt8 := (q.drop (64 * i)).take 64
def blks (q : List UInt8) (n : Nat) : List (List UInt8) := (List.range n).map (blk q)
theorem blks_succ (q : List UInt8) (n : Nat) : blks q (n + 1) = blks q n ++ [blk q n] := by simp [blks, List.range_succ]
theorem go_eq : ∀ (n : Nat) (s : S8) (q : List UInt8), go n s q = (blks q n).foldl Sha.step s
  | 0, s, q => rfl
  | n + 1, s, q => by
    rw [go, go_eq n]
    have : blks q (n + 1) = q.take 64 :: blks (q.drop 64) n := by
      simp only [blks, List.range_succ_eq_map, List.map_cons, List.map_map]
      congr 1
      refine List.map_congr_left fun i _ => ?_
      simp only [Function.comp, blk, List.drop_drop]
      rw [show 64 * (i + 1) = 64 + 64 * i by omega]
    rw [this, List.foldl_cons]
def insB (x : List UInt8) (args : Array Value) (X : Fact) : Prop := x.length = 64 ∧ ∃ B, args = #[.slice B 64 64] ∧ X = bsF B x
theorem blocks_it (l : Nat) (w : World) (bx : Nat) (A : Option Addr) (p : List UInt8) (c : Nat) (f0 R : Fact) (J Jx : List (List UInt8) → Fact → Prop) (hJ0 : J [] f0) (hJo : ∀ pre f, J pre f → f.own = true) (hRo : R.own = false) (hY : Yc Tryz.prog l J Jx R (fun _ => insB))
    (hp : p.length ≤ 70368744177664) (hm : Mem w (f0 :: R :: [bkF bx ty_sl_uint8 [.slice A p.length c], bsF A p])) :
    Con Tryz.prog n_sha_Blocks_1 #[.func (.yield l) #[] #[], .pointer (some ⟨bx, 0, none⟩)] w [f0, bkF bx ty_sl_uint8 [.slice A p.length c]]
      (fun _ Fs => ∃ f Fs', Fs = f :: Fs' ∧ ((∃ xs, J xs f ∧ xs = blks (p ++ ends p.length) ((p ++ ends p.length).length / 64) ∧ Fs' = []) ∨ (∃ pre, Jx pre f ∧ Fs' = []))) := by
  have g := good_sha_Blocks_1 w (Un [f0, bkF bx ty_sl_uint8 [.slice A p.length c]]) [bx]
  have hs0 : Sat (cx_sha_Blocks_1 w (Un [f0, bkF bx ty_sl_uint8 [.slice A p.length c]]) [bx]) (Va.of fun _ => bx) 1 [] (f0 :: R :: [bkF bx ty_sl_uint8 [.slice A p.length c], bsF A p]) w := by
    refine hm.sat rfl (fun f hf ho k hk => ?_) ⟨Nat.le_refl 1, fun i hi => by obtain rfl : i = 0 := Nat.lt_one_iff.1 hi; rfl⟩
    simp only [List.mem_cons, List.not_mem_nil, or_false] at hf
    rcases hf with rfl | rfl | rfl | rfl
    · exact ⟨_, by simp, hk⟩
    · rw [hRo] at ho; cases ho
    · exact ⟨_, by simp, hk⟩
    · cases ho
  have hs1 := hs0.toBk 2 rfl 0 Nat.zero_lt_one rfl
  have hf0 := hJo _ _ hJ0
  refine con_of_sx (cx := cx_sha_Blocks_1 w (Un [f0, bkF bx ty_sl_uint8 [.slice A p.length c]]) [bx]) g b_sha_Blocks_1 rfl rfl (β := Va.of fun _ => bx) [.c (.v (.func (.yield l) #[] #[])), .c (.p 0 0)] 1 [⟨0, ty_sl_uint8, [.v (.slice A p.length c)]⟩] [f0, R, bsF A p] rfl rfl hs1 ?_
  refine draw_rule g p_sha_Blocks_1_0 (by kernel_rfl) [⟨0, ty_sl_uint8, [.v (.slice A p.length c)]⟩] [f0, R, bsF A p] Sub.refl ?_
  refine ⟨((p.length : Nat) : Int), by rw [wrap_u64']; omega, ?_⟩
  refine call_con [] (fun β w' hs => clone_c w' A p c (hs.get 2 rfl) (by omega)) ?_
  rintro v Fs ⟨A1, c1, rfl, h1, h2, rfl⟩
  refine ⟨Sub.dropF 1 rfl, ?_⟩
  refine call_con [] (fun β w' hs => ends_c w' p.length (by omega)) ?_
  rintro v Fs ⟨A2, c2, rfl, h3, h4, rfl⟩
  refine ⟨Sub.dropF 2 rfl, ?_⟩
  obtain ⟨q, hq⟩ : ∃ q, p ++ ends p.length = q := ⟨_, rfl⟩
  have hql : q.length = p.length + (ends p.length).length := by rw [← hq, List.length_append]
  have hel : (ends p.length).length < 73 := by rw [Sha.ends_len]; unfold zeros; omega
  have hqm : q.length % 64 = 0 := by rw [← hq]; exact Sha.pad_mod p
  rw [hq]
  refine ⟨1, p.length, q.length, _, (ends p.length).map byte, q.map byte, rfl, fun β w hs => row_rd (hs.get 0 rfl), bytes_one _, hql.symm, by rw [← hq, List.map_append], by rw [maxLen_eq]; omega, by show q.length * 1 ≤ _; omega, ?_⟩
  intro A3 c3 h5 h6 _
  refine ⟨Sub.dropF 2 rfl, ?_⟩
  refine loop_rule (ι := Nat × Option Addr × Nat × Fact) 1 (fun i => [(0, .c (.v (.func (.yield l) #[] #[]))), (3, .c (.v (.slice i.2.1 (q.length - 64 * i.1) i.2.2.1)))]) (fun _ => [⟨0, ty_sl_uint8, [.v (.slice A p.length c)]⟩])
    (fun i => [browF ty_uint8 A3 q c3, i.2.2.2, R])
    (fun i => 64 * i.1 ≤ q.length ∧ q.length - 64 * i.1 ≤ i.2.2.1 ∧ i.2.2.1 ≤ maxLen ∧ J (blks q i.1) i.2.2.2 ∧ (∀ w, Bs w A3 q → Bs w i.2.1 (q.drop (64 * i.1))) ∧ (∀ ad, i.2.1 = some ad → ∃ ad3, A3 = some ad3 ∧ ad.block = ad3.block)) (fun i => q.length - 64 * i.1) (0, A3, c3, f0)
    ⟨Nat.zero_le _, h5, h6, hJ0, fun w h => h, fun ad h => ⟨ad, h, rfl⟩⟩ (Ent.mk' ⟨rfl, rfl, trivial⟩ rfl (fun β w' hs => hs.weaken (List.Sublist.refl _) (List.Sublist.cons _ (List.Sublist.cons_cons _ (List.Sublist.cons_cons _ (List.Sublist.cons_cons _ (List.nil_sublist _))))))) g ?_
  rintro ⟨i, B, cap, f⟩ ⟨hi, hcap, hcm, hJ, hB, hBD⟩
  simp only at hi hcap hcm hJ hB hBD
  have hfo := hJo _ _ hJ
  obtain ⟨m, hm⟩ : ∃ m, q.length - 64 * i = m := ⟨_, rfl⟩
  have hmc : m ≤ cap := by omega
  rw [hm]
  have hdl : (q.drop (64 * i)).length = m := by rw [List.length_drop]; omega
  refine BIf.dec (fun h0 => ?_) (fun h0 => ?_)
  · have hm64 : 64 ≤ m := by omega
    have hbl : (blk q i).length = 64 := by unfold blk; rw [List.length_take, hdl]; omega
    refine ⟨64, 64, 0, 64, 64, _, rfl, rfl, rfl, by show 64 ≤ cap; omega, by omega, by omega, rfl, rfl, rfl, ?_⟩
    have hcutD : ∀ k, (bsF (cutA B 64 0 1) (blk q i)).D k → (browF ty_uint8 A3 q c3).D k := by
      rintro k ⟨_, ad, had, rfl⟩
      simp only [cutA] at had
      rw [if_neg (by decide)] at had
      cases B with
      | none => cases had
      | some ad0 =>
        obtain rfl : ad0.add (0 * 1) = ad := by simpa using had
        obtain ⟨ad3, h7, h8⟩ := hBD ad0 rfl
        subst h7
        have : (ad0.add (0 * 1)).block = ad0.block := by unfold Addr.add; split <;> rfl
        show some ad3.block = some (ad0.add (0 * 1)).block
        rw [this, h8]
    refine yield_ro (x := blk q i) (X := bsF (cutA B 64 0 1) (blk q i)) hY 1 2 rfl hJ hfo rfl hRo (by decide) (fun β => ⟨hbl, _, rfl, rfl⟩) rfl (fun β w' hs => ⟨?_, fun k hk => hs.getLt 0 rfl k (hcutD k hk), fun k hk hk' => ?_⟩) ?_ ?_
    · have h7 := Bs.cut (hB w' (row_rd (hs.get 0 rfl))) (c := cap) (m := 64) (i := 0) (j := 64) (by omega) (.inr (Nat.le_refl _)) (by omega) (by omega) (by omega)
      have h8 : Rd 1 (cutA B 64 0 1) (blk q i).length ((blk q i).map byte) w' := by rw [hbl]; exact h7
      exact h8
    · exact hs.apart (i := 1) (j := 0) rfl rfl (by decide) (.inr rfl) k hk (hcutD k hk')
    · intro f2 hfo2 hJ2
      refine ⟨cap, m, 64, m - 64, cap - 64, _, rfl, rfl, rfl, Nat.le_refl _, hmc, hm64, rfl, rfl, rfl, ?_⟩
      refine ⟨(i + 1, cutA B cap 64 1, cap - 64, f2), ⟨by show 64 * (i + 1) ≤ _; omega, by show q.length - 64 * (i + 1) ≤ cap - 64; omega, by show cap - 64 ≤ _; omega, by show J (blks q (i + 1)) f2; rw [blks_succ]; exact hJ2, fun w' h => ?_, fun ad had => ?_⟩, by show q.length - 64 * (i + 1) < m; omega, Ent.mk' ⟨rfl, ?_, trivial⟩ rfl (fun β w' hs => ?_)⟩
      · have h7 := Bs.cutB (hB w' h) (c := cap) (i := 64) (j := m) (m := q.drop (64 * (i + 1))) (by omega) hm64 (by omega) (by
          rw [List.drop_drop, show 64 * i + 64 = 64 * (i + 1) by omega, List.take_of_length_le]
          rw [List.length_drop]; omega)
        exact h7
      · have had' : cutA B cap 64 1 = some ad := had
        unfold cutA at had'
        split at had'
        · exact hBD ad had'
        · cases B with
          | none => cases had'
          | some ad0 =>
            obtain rfl : ad0.add (64 * 1) = ad := by simpa using had'
            obtain ⟨ad3, h7, h8⟩ := hBD ad0 rfl
            refine ⟨ad3, h7, ?_⟩
            rw [← h8]
            unfold Addr.add; split <;> rfl
      · show _ = some (SV.c (.v (.slice _ (q.length - 64 * (i + 1)) _)))
        rw [show q.length - 64 * (i + 1) = m - 64 by omega]
        rfl
      · exact (hs.keepB (List.Sublist.refl _)).perm [1, 0, 2]
    · intro f2 hfo2 hJ2 β w' hs
      exact hs.fin [0] ⟨f2, [], rfl, .inr ⟨_, hJ2, rfl⟩⟩ rfl rfl rfl ⟨hfo2, trivial⟩
  · have hi2 : i = q.length / 64 := by omega
    intro β w' hs
    exact hs.fin [1] ⟨f, [], rfl, .inl ⟨_, hJ, by rw [hi2], rfl⟩⟩ rfl rfl rfl ⟨hfo, trivial⟩
theorem rd_sub_row {e size k n c : Nat} {A : Option Addr} {xs ys : List Value} : ∀ g, (rdF size A k xs).D g → (rowF e size (.slice A n c) n ys).D g := by
  rintro g ⟨_, ad, rfl, rfl⟩
  rfl
theorem Mem.lastRd {w : World} {f R X : Fact} {e c : Nat} {A : Option Addr} {l : List UInt8} (h : Mem w [f, R, X, browF e A l c]) : Mem w [f, R, X, bsF A l] := by
  have hp : Bs w A l := row_rd (h.fact (browF e A l c) (by simp))
  refine ⟨fun g hg => ?_, fun g hg k hk => ?_, ?_⟩
  · simp only [List.mem_cons, List.not_mem_nil, or_false] at hg
    rcases hg with rfl | rfl | rfl | rfl
    · exact h.fact _ (by simp)
    · exact h.fact _ (by simp)
    · exact h.fact _ (by simp)
    · exact hp
  · simp only [List.mem_cons, List.not_mem_nil, or_false] at hg
    rcases hg with rfl | rfl | rfl | rfl
    · exact h.flt g (by simp) k hk
    · exact h.flt g (by simp) k hk
    · exact h.flt g (by simp) k hk
    · exact h.flt (browF e A l c) (by simp) k (rd_sub_row k hk)
  · obtain ⟨h1, h2⟩ := List.pairwise_cons.1 h.sepf
    obtain ⟨h3, h4⟩ := List.pairwise_cons.1 h2
    obtain ⟨h5, _⟩ := List.pairwise_cons.1 h4
    refine List.pairwise_cons.2 ⟨fun g hg ho => ?_, List.pairwise_cons.2 ⟨fun g hg ho => ?_, List.pairwise_cons.2 ⟨fun g hg ho => ?_, List.pairwise_singleton _ _⟩⟩⟩
    · simp only [List.mem_cons, List.not_mem_nil, or_false] at hg
      rcases hg with rfl | rfl | rfl
      · exact h1 _ (by simp) ho
      · exact h1 _ (by simp) ho
      · exact fun k hk q => h1 (browF e A l c) (by simp) (.inr rfl) k hk (rd_sub_row k q)
    · simp only [List.mem_cons, List.not_mem_nil, or_false] at hg
      rcases hg with rfl | rfl
      · exact h3 _ (by simp) ho
      · exact fun k hk q => h3 (browF e A l c) (by simp) (.inr rfl) k hk (rd_sub_row k q)
    · obtain rfl := List.mem_singleton.1 hg
      exact fun k hk q => h5 (browF e A l c) (by simp) (.inr rfl) k hk (rd_sub_row k q)
theorem Blocks_c (w : World) (A : Option Addr) (n c : Nat) : Con Tryz.prog n_sha_Blocks #[.slice A n c] w [] (fun v Fs => ∃ bx, v = .func (.func n_sha_Blocks_1) #[] #[.pointer (some ⟨bx, 0, none⟩)] ∧ Fs = [bkF bx ty_sl_uint8 [.slice A n c]]) := by
  refine con_of_sx (cx := cx_sha_Blocks w (Un [])) (good_sha_Blocks w (Un [])) b_sha_Blocks rfl rfl (β := Va.z) [.c (.v (.slice A n c))] 0 [] [] rfl rfl (Sat.start rfl) ?_
  intro β w' hs
  exact hs.ofBk.fin [0] ⟨β 0, rfl, rfl⟩
theorem join1_c (w : World) (P A : Option Addr) (cP c : Nat) (l : List UInt8) (hP : Rd 1 P 1 [.slice A l.length c] w) (hr : Bs w A l) (hn : l.length ≤ 140737488355328) :
    Con Tryz.prog n_bytes_Join #[.slice P 1 cP, .slice none 0 0] w [] fun v Fs => ∃ A' c', v = .slice A' l.length c' ∧ l.length ≤ c' ∧ c' ≤ maxLen ∧ Fs = [browF ty_uint8 A' l c'] := by
  have hs0 : Sat (cx_bytes_Join w (Un [])) Va.z 0 [] [oldF w] w := old_sat rfl
  refine con_of_sx (cx := cx_bytes_Join w (Un [])) (good_bytes_Join w (Un [])) b_bytes_Join rfl rfl (β := Va.z) [.c (.v (.slice P 1 cP)), .c (.v (.slice none 0 0))] 0 [] [browF ty_uint8 none [] 0, oldF w] rfl rfl (hs0.nilRow _ _) ?_
  obtain ⟨ad, rfl, hc⟩ := hP.2 (by decide)
  refine ⟨ad, 0, rfl, rfl, by decide, .slice A l.length c, fun β w' hs => ?_, ?_⟩
  · have h1 : Rd 1 (some ad) 1 [.slice A l.length c] w' := hP.old (hs.get 1 rfl)
    obtain ⟨ad', h2, h3⟩ := h1.2 (by decide)
    obtain rfl := Option.some.inj h2
    exact h3 0 _ rfl
  refine ⟨0, 0, l.length, [], l.map byte, _, rfl, fun β w' hs => hr.old (hs.get 1 rfl), bytes_one l, Nat.zero_add _, rfl, by rw [maxLen_eq]; omega, by show l.length * 1 ≤ _; omega, ?_⟩
  intro A' c' h1 h2 h3 β w' hs
  exact hs.fin [0] ⟨A', c', rfl, h1, h2, rfl⟩
theorem step64_c (w : World) (b ty : Nat) (s : S8) (A : Option Addr) (x : List UInt8) (hx : x.length = 64) (hm : Mem w [stF b ty s, bsF A x, oddF 2]) :
    Con Tryz.prog n_sha_state_step #[.pointer (some ⟨b, 0, none⟩), .slice A 64 64] w [stF b ty s] fun v Fs => v = .tuple #[] ∧ Fs = [stF b ty (Sha.step s x)] := by
  have := step_c w b ty s A x 64 hm (by omega) (by omega) (by decide)
  rw [hx] at this
  exact this
def firstF (g : Nat) : Fact := rdF 1 (some ⟨g, 0, none⟩) 8 (Sha.first.l.map u32)
theorem sum1_c (w : World) (P A : Option Addr) (cP c : Nat) (l : List UInt8) (hP : Rd 1 P 1 [.slice A l.length c] w) (hr : Bs w A l) (hn : l.length ≤ 70368744177664) (h1 : (oddF 2).p w) (h0 : (firstF 0).p w) :
    Con Tryz.prog n_sha_Sum #[.slice P 1 cP] w [] fun v Fs => ∃ A' c', v = .slice A' 32 c' ∧ 32 ≤ c' ∧ c' ≤ maxLen ∧ Fs = [browF ty_uint8 A' (Sha.sum l) c'] := by
  have g := good_sha_Sum w (Un [])
  have hs0 : Sat (cx_sha_Sum w (Un [])) Va.z 0 [] [oldF w] w := old_sat rfl
  have hs1 : Sat (cx_sha_Sum w (Un [])) Va.z 0 [] [oddF 2, oldF w] w := hs0.sub 0 rfl rfl _ rfl h1 (rd_lt h1)
  refine con_of_sx (cx := cx_sha_Sum w (Un [])) g b_sha_Sum rfl rfl (β := Va.z) [.c (.v (.slice P 1 cP))] 0 [] [oddF 2, oldF w] rfl rfl hs1 ?_
  refine ⟨Sha.first.l.map u32, rfl, fun β w' hs j u hu => ?_, ?_⟩
  · have h2 : Rd 1 (some ⟨0, 0, none⟩) 8 (Sha.first.l.map u32) w' := Rd.old h0 (hs.get 1 rfl)
    obtain ⟨ad, h3, h4⟩ := h2.2 (by decide)
    obtain rfl := Option.some.inj h3
    exact h4 j u hu
  refine call_con [] (fun β w' hs => join1_c w' P A cP c l (hP.old (hs.get 1 rfl)) (hr.old (hs.get 1 rfl)) (by omega)) ?_
  rintro v Fs ⟨A1, c1, rfl, h2, h3, rfl⟩
  refine call_con [] (fun β w' hs => Blocks_c w' A1 l.length c1) ?_
  rintro v Fs ⟨bx, rfl, rfl⟩
  refine reify_rule g 0 (fun _ => Sha.first.l.map u32) rfl rfl (fun _ => rfl) (fun sb => ?_)
  obtain ⟨q, hq⟩ : ∃ q, l ++ ends l.length = q := ⟨_, rfl⟩
  have hsum : Sha.sum l = out ((blks q (q.length / 64)).foldl Sha.step Sha.first) := by rw [← go_eq, ← hq]; rfl
  rw [hsum]
  refine range_rule (α := List UInt8) (ι := S8) (κ := S8) g rfl (cv := [.pointer (some ⟨bx, 0, none⟩)]) rfl (by kernel_rfl) 1 (Nat.le_refl 1)
    (fun pre s => s = pre.foldl Sha.step Sha.first) (fun _ => []) (fun s => [stF sb 145 s]) (fun _ => ⟨rfl, trivial⟩)
    (fun _ _ _ => False) (fun _ => []) (fun _ => []) (fun _ => trivial)
    [bkF bx ty_sl_uint8 [.slice A1 l.length c1]] [browF ty_uint8 A1 l c1] [oddF 2] ⟨rfl, trivial⟩ (fun g hg => by obtain rfl := List.mem_singleton.1 hg; rfl)
    Sha.first rfl (fun β w' hs => ⟨β, Agr.refl _ _, hs.perm [1, 2, 0, 3]⟩) (fun _ => insB)
    (fun xs Fs' => xs = blks q (q.length / 64) ∧ Fs' = []) (fun _ Fs' => Fs' = [])
    (fun l' w' f0 R J Jx hJ0 hJo hRo hY hm => (blocks_it l' w' bx A1 l c1 f0 R J Jx hJ0 hJo hRo hY hn hm.lastRd).mono fun _ Fs h => by rw [hq] at h; exact h) ?_ ?_ ?_
  · rintro s pre x args X W S l' bs pn pn' hbs hpre ⟨hx, B, rfl, rfl⟩
    refine ⟨_, rfl, ?_⟩
    refine call_con [1] (fun β w' hs => step64_c w' sb 145 s B x hx (hs.mem.take (js := [1, 0, 2]) rfl)) ?_
    rintro v Fs ⟨rfl, rfl⟩
    refine ⟨Sha.step s x, by show Sha.step s x = (pre ++ [x]).foldl Sha.step Sha.first; rw [List.foldl_append, hpre]; rfl, Ent.mk' trivial rfl (fun β w' hs => ?_)⟩
    exact hs.weaken (List.Sublist.refl _) (List.Sublist.cons_cons _ (List.nil_sublist _))
  · rintro xs s Fs hpre ⟨rfl, rfl⟩
    refine call_con [0] (fun β w' hs => stbytes_c w' sb 145 s (hs.mem.take (js := [0]) rfl)) ?_
    rintro v Fs ⟨A3, c3, rfl, h5, h6, rfl⟩
    intro β w' hs
    refine hs.fin [1] ⟨A3, c3, rfl, h5, h6, ?_⟩
    rw [← hpre]
    rfl
  · rintro e pre s Fs h _
    exact h.elim
def stV (s : S8) : Value := .agg (s.l.map u32).toArray
theorem be4 (x : UInt32) : be 4 x.toNat = b4 x := by
  have hx := x.toNat_lt
  simp only [be, b4, List.nil_append, List.cons_append]
  have e : ∀ n, n < 256 → ∀ y : UInt8, y.toNat = n → UInt8.ofNat n = y := fun n _ y h => by rw [← h, UInt8.ofNat_toNat]
  have h1 : ∀ k : Nat, k < 32 → (x >>> UInt32.ofNat k).toNat = x.toNat / 2 ^ k := fun k hk => by
    rw [UInt32.toNat_shiftRight, UInt32.toNat_ofNat', Nat.mod_eq_of_lt (show k < 2 ^ 32 by omega), Nat.mod_eq_of_lt hk, Nat.shiftRight_eq_div_pow]
  congr 1
  · exact e _ (by omega) _ (by rw [UInt32.toNat_toUInt8, show (24 : UInt32) = UInt32.ofNat 24 from rfl, h1 24 (by omega)] <;> omega)
  congr 1
  · exact e _ (by omega) _ (by rw [UInt32.toNat_toUInt8, show (16 : UInt32) = UInt32.ofNat 16 from rfl, h1 16 (by omega)] <;> omega)
  congr 1
  · exact e _ (by omega) _ (by rw [UInt32.toNat_toUInt8, show (8 : UInt32) = UInt32.ofNat 8 from rfl, h1 8 (by omega)] <;> omega)
  congr 1
  exact e _ (by omega) _ (by rw [UInt32.toNat_toUInt8])
theorem ofNat_mod (n : Nat) : UInt8.ofNat (n % 256) = UInt8.ofNat n := by
  apply UInt8.toNat_inj.1
  rw [UInt8.toNat_ofNat', UInt8.toNat_ofNat']
  omega
theorem be8 (n : Nat) : be 8 n = Sha.long n := by
  simp only [be, Sha.long, List.nil_append, List.cons_append, ofNat_mod, List.map_cons, List.map_nil, Nat.div_div_eq_div_mul]
  simp
theorem first_c (w : World) : Pu Tryz.prog n_ostiaryref01_First #[] w (stV Sha.first) := by
  refine pu_of (calls_of_sx (cx := cx_ostiaryref01_First w None_) (good_ostiaryref01_First w None_) b_ostiaryref01_First rfl rfl (β := Va.z) [] 0 [] [] rfl rfl (Sat.start rfl) ?_)
  intro β w' hs
  exact ⟨rfl, hs.chg⟩
theorem be_con (w : World) (n k : Nat) (hn : n < 18446744073709551616) (hk : k ≤ 4096) :
    Con Tryz.prog n_ostiaryref01_Bytes #[.int .u64 n, .int .i64 k] w [] fun v Fs => ∃ A c, v = .slice A (be k n).length c ∧ (be k n).length ≤ c ∧ c ≤ maxLen ∧ Fs = [browF ty_uint8 A (be k n) c] := con_row (bytes_c w n k hn hk)
theorem tail_c (w : World) (n : Nat) (hn : n ≤ 140737488355328) :
    Con Tryz.prog n_ostiaryref01_Tail #[.int .u64 n] w [] fun v Fs => ∃ A c, v = .slice A (Sha.ends n).length c ∧ (Sha.ends n).length ≤ c ∧ c ≤ maxLen ∧ Fs = [browF ty_uint8 A (Sha.ends n) c] := by
  have g := good_ostiaryref01_Tail w (Un [])
  have hz : zeros n < 64 := by unfold zeros; omega
  refine con_of_sx (cx := cx_ostiaryref01_Tail w (Un [])) g b_ostiaryref01_Tail rfl rfl (β := Va.z) [.c (.v (.int .u64 n))] 0 [] [] rfl rfl (Sat.start rfl) ?_
  intro b0
  refine ⟨by decide, ((n % 64 : Nat) : Int), by rw [Int.tmod_eq_emod_of_nonneg (by omega)]; omega, ((n % 64 + 1 : Nat) : Int), by rw [wrap_u64']; omega, ?_⟩
  refine loop_rule (ι := Nat × Option Addr × Nat) 0 (fun i => [(0, .c (.v (.int .u64 n))), (4, .c (.v (.int .u64 ((n % 64 + 1 + i.1 : Nat) : Int)))), (3, .c (.v (.slice i.2.1 (i.1 + 1) i.2.2)))]) (fun _ => [])
    (fun i => [rowF ty_uint8 1 (.slice i.2.1 (i.1 + 1) i.2.2) (i.1 + 1) (((0x80 : UInt8) :: List.replicate i.1 0).map byte)])
    (fun i => i.1 ≤ zeros n ∧ i.1 + 1 ≤ i.2.2 ∧ i.2.2 ≤ maxLen) (fun i => zeros n - i.1) (0, some ⟨b0, 0, none⟩, 1) ⟨Nat.zero_le _, Nat.le_refl _, by show 1 ≤ maxLen; decide⟩ (Ent.same ⟨rfl, rfl, rfl, trivial⟩ rfl) g ?_
  rintro ⟨i, A, c⟩ ⟨hi, hc, hcm⟩
  simp only at hi hc hcm
  obtain ⟨r, hr⟩ : ∃ r : Nat, (n % 64 + 1 + i) % 64 = r := ⟨_, rfl⟩
  refine ⟨by decide, (r : Int), by dsimp only; rw [Int.tmod_eq_emod_of_nonneg (by omega)]; omega, ?_⟩
  refine BIf.not (BIf.dec (fun h0 => ?_) (fun h0 => ?_))
  · have hiz : i = zeros n := by unfold zeros at *; omega
    refine ⟨((8 * n : Nat) : Int), by rw [wrap_u64']; omega, ?_⟩
    refine call_con [] (fun β w' hs => be_con w' (8 * n) 8 (by omega) (by omega)) ?_
    rintro v Fs ⟨A2, c2, rfl, h1, h2, rfl⟩
    have hl : (Sha.ends n).length = i + 1 + 8 := by rw [Sha.ends_len, hiz]; omega
    refine ⟨1, i + 1, (Sha.ends n).length, _, (be 8 (8 * n)).map byte, (Sha.ends n).map byte, rfl, fun β w hs => row_rd (hs.get 0 rfl), bytes_one _, by rw [be_length]; exact hl.symm, by rw [← List.map_append, be8, hiz]; rfl, by rw [maxLen_eq, hl]; omega, by show (Sha.ends n).length * 1 ≤ _; omega, ?_⟩
    intro A' c' h3 h4 _
    intro β w' hs
    exact hs.fin [1] ⟨A', c', rfl, h3, h4, rfl⟩
  · have hiz : i < zeros n := by
      rcases Nat.lt_or_ge i (zeros n) with h | h
      · exact h
      · exfalso
        apply h0
        have : i = zeros n := by omega
        subst this
        unfold zeros at hr
        omega
    intro b2
    refine ⟨1, i + 1, i + 1 + 1, ((0x80 : UInt8) :: List.replicate i 0).map byte, [(0 : UInt8)].map byte, _, rfl, fun β w hs => row_rd (hs.get 0 rfl), bytes_one _, rfl, rfl, by rw [maxLen_eq]; omega, by show (i + 1 + 1) * 1 ≤ _; omega, ?_⟩
    intro A' c' h1 h2 _
    refine ⟨((n % 64 + 1 + (i + 1) : Nat) : Int), by dsimp only; rw [wrap_u64']; omega, ?_⟩
    refine ⟨(i + 1, A', c'), ⟨hiz, h1, h2⟩, by show zeros n - (i + 1) < zeros n - i; omega, Ent.mk' ⟨rfl, rfl, rfl, trivial⟩ rfl (fun β w' hs => ?_)⟩
    have h3 := hs.weaken (List.Sublist.refl _) (List.sublist_cons_self _ _)
    show Sat _ _ _ _ [rowF ty_uint8 1 (.slice A' (i + 1 + 1) c') (i + 1 + 1) (((0x80 : UInt8) :: List.replicate (i + 1) 0).map byte)] _
    rw [List.replicate_succ', ← List.cons_append, List.map_append]
    exact h3
theorem out_c (w : World) (s : S8) :
    Con Tryz.prog n_ostiaryref01_Out #[stV s] w [] fun v Fs => ∃ A c, v = .slice A 32 c ∧ 32 ≤ c ∧ c ≤ maxLen ∧ Fs = [browF ty_uint8 A (out s) c] := by
  have g := good_ostiaryref01_Out w (Un [])
  refine con_of_sx (cx := cx_ostiaryref01_Out w (Un [])) g b_ostiaryref01_Out rfl rfl (β := Va.z) [.agg (s.l.map sl32)] 0 [] [browF ty_uint8 none [] 0] rfl rfl ((Sat.start rfl).nilRow _ _) ?_
  refine loop_rule (ι := Nat × Option Addr × Nat) 1 (fun i => [(6, .agg (s.l.map sl32)), (7, .c (.v (.int .i64 i.1))), (3, .c (.v (.slice i.2.1 (4 * i.1) i.2.2)))]) (fun _ => [⟨0, 203, s.l.map sl32⟩])
    (fun i => [rowF ty_uint8 1 (.slice i.2.1 (4 * i.1) i.2.2) (4 * i.1) ((outN s i.1).map byte)])
    (fun i => i.1 ≤ 8 ∧ 4 * i.1 ≤ i.2.2 ∧ i.2.2 ≤ maxLen) (fun i => 8 - i.1) (0, none, 0) ⟨Nat.zero_le _, Nat.zero_le _, Nat.zero_le _⟩ (Ent.same ⟨rfl, rfl, rfl, trivial⟩ rfl) g ?_
  rintro ⟨i, A, c⟩ ⟨hi, hc, hcm⟩
  simp only at hi hc hcm
  refine BIf.dec (fun hlt => ?_) (fun hge => ?_)
  · have hlt : i < 8 := by omega
    obtain ⟨x, hx⟩ : ∃ x, s.l.getD i 0 = x := ⟨_, rfl⟩
    have hxl := x.toNat_lt
    refine ⟨i, sl32 x, rfl, hlt, by show (s.l.map sl32)[i * 1]? = _; rw [Nat.mul_one, ← hx]; exact l_get s i hlt, ?_⟩
    refine ⟨(x.toNat : Int), by rw [wrap_u64']; omega, ?_⟩
    refine call_con [] (fun β w' hs => be_con w' x.toNat 4 (by omega) (by omega)) ?_
    rintro v Fs ⟨A2, c2, rfl, h1, h2, rfl⟩
    refine ⟨1, 4 * i, 4 * (i + 1), (outN s i).map byte, (b4 x).map byte, _, rfl, fun β w hs => by rw [← be4]; exact row_rd (hs.get 0 rfl), bytes_one _, by rw [be_length]; omega, rfl, by rw [maxLen_eq]; omega, by show 4 * (i + 1) * 1 ≤ _; omega, ?_⟩
    intro A' c' h3 h4 _
    refine ⟨((i + 1 : Nat) : Int), by rw [wrap_i64 (by omega) (by omega)]; rfl, ?_⟩
    refine ⟨(i + 1, A', c'), ⟨by show i + 1 ≤ 8; omega, h3, h4⟩, by show 8 - (i + 1) < 8 - i; omega, Ent.mk' ⟨rfl, rfl, rfl, trivial⟩ rfl (fun β w' hs => ?_)⟩
    have e1 := outN_succ s i hlt
    rw [hx] at e1
    have h5 := hs.weaken (List.Sublist.refl _) (List.sublist_cons_self _ _)
    show Sat _ _ _ _ [rowF ty_uint8 1 (.slice A' (4 * (i + 1)) c') (4 * (i + 1)) ((outN s (i + 1)).map byte)] _
    rw [← e1, List.map_append]
    exact h5
  · obtain rfl : i = 8 := by omega
    intro β w' hs
    exact (hs.keepB (List.nil_sublist _)).fin [0] ⟨A, c, rfl, hc, hcm, rfl⟩
theorem take4 (l : List UInt8) (k : Nat) (h : k + 4 ≤ l.length) : (l.drop k).take 4 = [l.getD k 0, l.getD (k + 1) 0, l.getD (k + 2) 0, l.getD (k + 3) 0] := by
  refine List.ext_getElem? fun j => ?_
  rw [List.getElem?_take]
  have g : ∀ j, j < 4 → (l.drop k)[j]? = some (l.getD (k + j) 0) := fun j hj => getD_drop l k j (by omega)
  match j with
  | 0 => simpa using g 0 (by omega)
  | 1 => simpa using g 1 (by omega)
  | 2 => simpa using g 2 (by omega)
  | 3 => simpa using g 3 (by omega)
  | n + 4 => simp; omega
theorem numB4 (a b c d : UInt8) : IntKind.u32.wrap (numB [a, b, c, d] : Int) = ((word a b c d).toNat : Int) := by
  have h1 := a.toNat_lt
  have h2 := b.toNat_lt
  have h3 := c.toNat_lt
  have h4 := d.toNat_lt
  have : numB [a, b, c, d] = a.toNat * 16777216 + b.toNat * 65536 + c.toNat * 256 + d.toNat := by
    simp only [numB, List.foldl_cons, List.foldl_nil]
    omega
  rw [this, wrap32_nat]
  rfl
theorem nxt_ac (a b c d : UInt32) : ((d + c) + b) + a = a + b + c + d := by ac_rfl
theorem odd_cell3 {g : Nat} {w : World} (h : (oddF g).p w) {i : Nat} (hi : i < 64) : w.cell? ((⟨g, 0, none⟩ : Addr).add (i * 1)) = some (u32 (K.getD i 0)) := odd_cell h hi
theorem rstep_c (w : World) (s : S8) (A : Option Addr) (l : List UInt8) (c : Nat) (hr : Bs w A l) (hk : (oddF 3).p w) (hc : l.length ≤ c) (hl : 64 ≤ l.length) (hm : c ≤ maxLen) :
    Pu Tryz.prog n_ostiaryref01_Step #[stV s, .slice A l.length c] w (stV (Sha.step s l)) := by
  have g := good_ostiaryref01_Step w (Un [])
  obtain ⟨ws, hws⟩ : ∃ ws, W l = ws := ⟨_, rfl⟩
  have hwl : ws.length = 64 := by rw [← hws]; exact W_len l
  have hst0 : Sha.step s l = s.add (rounds s ws 64) := by rw [Sha.step, hws]
  rw [hst0]
  have hs0 : Sat (cx_ostiaryref01_Step w (Un [])) Va.z 0 [] [oldF w] w := old_sat rfl
  have hs1 : Sat (cx_ostiaryref01_Step w (Un [])) Va.z 0 [] [bsF A l, oddF 3, oldF w] w := (hs0.sub 0 rfl rfl (oddF 3) rfl hk (rd_lt hk)).sub 1 rfl rfl (bsF A l) rfl hr (rd_lt hr)
  rw [maxLen_eq] at hm
  refine con_of_sx (cx := cx_ostiaryref01_Step w (Un [])) g b_ostiaryref01_Step rfl rfl (β := Va.z) [.agg (s.l.map sl32), .c (.v (.slice A l.length c))] 0 [] [bsF A l, oddF 3, oldF w] rfl rfl hs1 ?_
  have e0 : arr 64 [] = ti182.zero.map SL.v := by simp only [arr, List.nil_append, List.length_nil, List.map_replicate]; rfl
  refine loop_rule (ι := Nat) 3 (fun i => [(1, .c (.v (.slice A l.length c))), (2, .c (.p 0 0)), (4, .c (.p 1 0)), (5, .c (.p 2 0)), (6, .c (.v (.int .i64 i)))]) (fun i => [⟨2, 182, arr 64 (sched l i)⟩, ⟨1, 203, ti203.zero.map SL.v⟩, ⟨0, 203, s.l.map sl32⟩]) (fun _ => [bsF A l, oddF 3, oldF w])
    (fun i => i ≤ 64) (fun i => 64 - i) 0 (Nat.zero_le _) (Ent.mk' ⟨rfl, rfl, rfl, rfl, rfl, trivial⟩ rfl (fun β w' hs => by rw [show sched l 0 = [] from rfl, e0]; exact hs)) g ?_
  intro i hi
  refine BIf.dec (fun hlt => ?_) (fun hge => ?_)
  · have hlt : i < 64 := by omega
    have hsl : (sched l i).length = i := sched_len l i
    have ld : ∀ {k : Nat}, k < i → nth (arr 64 (sched l i)) (0 + k * 1) = some (sl32 ((sched l i).getD k 0)) := fun {k} hk => by
      rw [nth_eq, Nat.zero_add, Nat.mul_one]; exact arr_get (by omega)
    have fin : ∀ (x : UInt32), (if i < 16 then wordAt l i else nxt (sched l i) i) = x → putAll (arr 64 (sched l i)) (0 + i * 1) [sl32 x] = arr 64 (sched l (i + 1)) := fun x hx => by
      rw [putAll, putAll, putAt_eq, Nat.zero_add, Nat.mul_one]
      have := arr_set (n := 64) (ws := sched l i) (by omega) x
      rw [hsl] at this
      rw [this, sched, hx]
    have ble : Nat.ble (0 + i * 1 + 1) (arr 64 (sched l i)).length = true := by rw [arr_len (by omega), Nat.ble_eq]; omega
    refine BIf.dec (fun h16 => ?_) (fun h16 => ?_)
    · have h16 : i < 16 := by omega
      refine ⟨((4 * i : Nat) : Int), by rw [wrap_i64 (by omega) (by omega)]; omega, ((4 * i : Nat) : Int), by rw [wrap_i64 (by omega) (by omega)]; omega, ((4 * i + 4 : Nat) : Int), by rw [wrap_i64 (by omega) (by omega)]; omega, ?_⟩
      refine ⟨c, 4 * i + 4, 4 * i, 4, c - 4 * i, _, rfl, rfl, rfl, Nat.le_refl _, by omega, by omega, by omega, rfl, rfl, ?_⟩
      refine call_pu (fun β w' hs => pu_of (num_c w' (cutA A c (4 * i) 1) [l.getD (4 * i) 0, l.getD (4 * i + 1) 0, l.getD (4 * i + 2) 0, l.getD (4 * i + 3) 0] (c - 4 * i) ?_ (by show 4 ≤ lim; decide))) ?_
      · have h7 := Bs.cut (hs.get 0 rfl : Bs w' A l) (c := c) (m := c) (i := 4 * i) (j := 4 * i + 4) hc (.inl rfl) (by omega) (by omega) (Nat.le_refl _)
        rw [show 4 * i + 4 - 4 * i = 4 by omega, take4 l (4 * i) (by omega)] at h7
        exact h7
      refine ⟨_, numB4 _ _ _ _, i, rfl, by omega, ?_⟩
      conv => whnf
      generalize h1 : Nat.ble _ _ = b1
      obtain rfl : b1 = true := h1.symm.trans ble
      clear h1
      refine ⟨((i + 1 : Nat) : Int), by rw [wrap_i64 (by omega) (by omega)]; rfl, ?_⟩
      refine ⟨i + 1, by omega, by omega, Ent.mk' ⟨rfl, rfl, rfl, rfl, rfl, trivial⟩ rfl (fun β w' hs => ?_)⟩
      rw [← fin _ (if_pos h16)]
      exact hs
    · have h16 : ¬ i < 16 := by omega
      obtain ⟨xa, hxa⟩ : ∃ xa, (sched l i).getD (i - 15) 0 = xa := ⟨_, rfl⟩
      obtain ⟨xb, hxb⟩ : ∃ xb, (sched l i).getD (i - 2) 0 = xb := ⟨_, rfl⟩
      refine draw_rule g p_ostiaryref01_Step_7 (by kernel_rfl) _ _ Sub.refl ?_
      refine ⟨((i - 15 : Nat) : Int), by rw [wrap_i64 (by omega) (by omega)]; omega, i - 15, rfl, by omega, ?_⟩
      conv => whnf
      generalize hn : nth _ _ = o
      obtain rfl : o = some (sl32 xa) := hn.symm.trans (by rw [← hxa]; exact ld (by omega))
      clear hn
      refine ⟨((i - 15 : Nat) : Int), by rw [wrap_i64 (by omega) (by omega)]; omega, i - 15, rfl, by omega, ?_⟩
      conv => whnf
      generalize hn : nth _ _ = o
      obtain rfl : o = some (sl32 xa) := hn.symm.trans (by rw [← hxa]; exact ld (by omega))
      clear hn
      refine ⟨((i - 15 : Nat) : Int), by rw [wrap_i64 (by omega) (by omega)]; omega, i - 15, rfl, by omega, ?_⟩
      conv => whnf
      generalize hn : nth _ _ = o
      obtain rfl : o = some (sl32 xa) := hn.symm.trans (by rw [← hxa]; exact ld (by omega))
      clear hn
      refine ⟨by omega, _, shr32 xa 3 (by omega), ?_⟩
      refine call_pu (fun β w' hs => turn_c w' xa 7 (by omega) (by omega)) ?_
      refine ⟨Sub.refl, ?_⟩
      refine call_pu (fun β w' hs => turn_c w' xa 18 (by omega) (by omega)) ?_
      refine ⟨Sub.refl, _, xor32 _ _, _, xor32 _ _, ?_⟩
      refine draw_rule g p_ostiaryref01_Step_8 (by kernel_rfl) _ _ Sub.refl ?_
      refine ⟨((i - 2 : Nat) : Int), by rw [wrap_i64 (by omega) (by omega)]; omega, i - 2, rfl, by omega, ?_⟩
      conv => whnf
      generalize hn : nth _ _ = o
      obtain rfl : o = some (sl32 xb) := hn.symm.trans (by rw [← hxb]; exact ld (by omega))
      clear hn
      refine ⟨((i - 2 : Nat) : Int), by rw [wrap_i64 (by omega) (by omega)]; omega, i - 2, rfl, by omega, ?_⟩
      conv => whnf
      generalize hn : nth _ _ = o
      obtain rfl : o = some (sl32 xb) := hn.symm.trans (by rw [← hxb]; exact ld (by omega))
      clear hn
      refine ⟨((i - 2 : Nat) : Int), by rw [wrap_i64 (by omega) (by omega)]; omega, i - 2, rfl, by omega, ?_⟩
      conv => whnf
      generalize hn : nth _ _ = o
      obtain rfl : o = some (sl32 xb) := hn.symm.trans (by rw [← hxb]; exact ld (by omega))
      clear hn
      refine ⟨by omega, _, shr32 xb 10 (by omega), ?_⟩
      refine call_pu (fun β w' hs => turn_c w' xb 17 (by omega) (by omega)) ?_
      refine ⟨Sub.refl, ?_⟩
      refine call_pu (fun β w' hs => turn_c w' xb 19 (by omega) (by omega)) ?_
      refine ⟨Sub.refl, _, xor32 _ _, _, xor32 _ _, ?_⟩
      refine draw_rule g p_ostiaryref01_Step_9 (by kernel_rfl) _ _ Sub.refl ?_
      refine ⟨((i - 7 : Nat) : Int), by rw [wrap_i64 (by omega) (by omega)]; omega, i - 7, rfl, by omega, ?_⟩
      conv => whnf
      generalize hn : nth _ _ = o
      obtain rfl : o = some (sl32 ((sched l i).getD (i - 7) 0)) := hn.symm.trans (ld (by omega))
      clear hn
      refine ⟨_, add32 _ _, _, add32 _ _, ?_⟩
      refine ⟨((i - 16 : Nat) : Int), by rw [wrap_i64 (by omega) (by omega)]; omega, i - 16, rfl, by omega, ?_⟩
      conv => whnf
      generalize hn : nth _ _ = o
      obtain rfl : o = some (sl32 ((sched l i).getD (i - 16) 0)) := hn.symm.trans (ld (by omega))
      clear hn
      refine ⟨_, add32 _ _, i, rfl, by omega, ?_⟩
      conv => whnf
      generalize h1 : Nat.ble _ _ = b1
      obtain rfl : b1 = true := h1.symm.trans ble
      clear h1
      refine ⟨((i + 1 : Nat) : Int), by rw [wrap_i64 (by omega) (by omega)]; rfl, ?_⟩
      refine ⟨i + 1, by omega, by omega, Ent.mk' ⟨rfl, rfl, rfl, rfl, rfl, trivial⟩ rfl (fun β w' hs => ?_)⟩
      rw [← fin (((s1 xb + (sched l i).getD (i - 7) 0) + s0 xa) + (sched l i).getD (i - 16) 0) (by rw [if_neg h16, nxt, hxa, hxb, nxt_ac])]
      exact hs
  · have e2 : arr 64 (sched l i) = ws.map sl32 := by
      have hi64 : i = 64 := by omega
      rw [← hws, hi64]
      exact arr_full (sched_len l 64)
    clear hge hi
    rw [e2]
    clear e2
    have ldw : ∀ {k : Nat}, k < 64 → nth (ws.map sl32) (0 + k * 1) = some (sl32 (ws.getD k 0)) := fun {k} hk => by
      rw [nth_eq, Nat.zero_add, Nat.mul_one, List.getElem?_map, List.getElem?_eq_getElem (by omega)]
      simp [List.getD, List.getElem?_eq_getElem (show k < ws.length by omega)]
    refine loop_rule (ι := Nat) 4 (fun i => [(2, .c (.p 0 0)), (4, .c (.p 1 0)), (5, .c (.p 2 0)), (9, .c (.p 3 0)), (10, .c (.v (.int .i64 i)))]) (fun i => [⟨3, 203, (rounds s ws i).l.map sl32⟩, ⟨2, 182, ws.map sl32⟩, ⟨1, 203, ti203.zero.map SL.v⟩, ⟨0, 203, s.l.map sl32⟩]) (fun _ => [bsF A l, oddF 3, oldF w])
      (fun i => i ≤ 64) (fun i => 64 - i) 0 (Nat.zero_le _) (Ent.same ⟨rfl, rfl, rfl, rfl, rfl, trivial⟩ rfl) g ?_
    intro j hj
    obtain ⟨r, hr⟩ : ∃ r, rounds s ws j = r := ⟨_, rfl⟩
    rw [hr]
    obtain ⟨xa, xb, xc, xd, xe, xf, xg, xh⟩ := r
    refine BIf.dec (fun hlt => ?_) (fun hge => ?_)
    · have hlt : j < 64 := by omega
      refine ⟨4, rfl, by decide, ?_⟩
      refine draw_rule g p_ostiaryref01_Step_15 (by kernel_rfl) _ _ Sub.refl ?_
      refine ⟨7, rfl, by decide, 5, rfl, by decide, _, and32 _ _, _, not32 _, 6, rfl, by decide, _, and32 _ _, _, xor32 _ _, ?_⟩
      refine ⟨j, rfl, hlt, u32 (K.getD j 0), fun β w' hs => odd_cell3 (hs.get 1 rfl) hlt, j, rfl, hlt, ?_⟩
      conv => whnf
      generalize hn : nth _ _ = o
      obtain rfl : o = some (sl32 (ws.getD j 0)) := hn.symm.trans (ldw hlt)
      clear hn
      refine call_pu (fun β w' hs => turn_c w' xe 6 (by omega) (by omega)) ?_
      refine ⟨Sub.refl, ?_⟩
      refine call_pu (fun β w' hs => turn_c w' xe 11 (by omega) (by omega)) ?_
      refine ⟨Sub.refl, _, xor32 _ _, ?_⟩
      refine call_pu (fun β w' hs => turn_c w' xe 25 (by omega) (by omega)) ?_
      refine ⟨Sub.refl, _, xor32 _ _, _, add32 _ _, _, add32 _ _, _, add32 _ _, _, add32 _ _, ?_⟩
      refine ⟨0, rfl, by decide, ?_⟩
      refine draw_rule g p_ostiaryref01_Step_17 (by kernel_rfl) _ _ Sub.refl ?_
      refine ⟨1, rfl, by decide, _, and32 _ _, 2, rfl, by decide, _, and32 _ _, _, xor32 _ _, 1, rfl, by decide, 2, rfl, by decide, _, and32 _ _, _, xor32 _ _, ?_⟩
      refine call_pu (fun β w' hs => turn_c w' xa 2 (by omega) (by omega)) ?_
      refine ⟨Sub.refl, ?_⟩
      refine call_pu (fun β w' hs => turn_c w' xa 13 (by omega) (by omega)) ?_
      refine ⟨Sub.refl, _, xor32 _ _, ?_⟩
      refine call_pu (fun β w' hs => turn_c w' xa 22 (by omega) (by omega)) ?_
      refine ⟨Sub.refl, _, xor32 _ _, _, add32 _ _, ?_⟩
      refine ⟨_, add32 _ _, 0, rfl, by decide, 1, rfl, by decide, 2, rfl, by decide, 3, rfl, by decide, _, add32 _ _, 4, rfl, by decide, 5, rfl, by decide, 6, rfl, by decide, ?_⟩
      refine ⟨((j + 1 : Nat) : Int), by rw [wrap_i64 (by omega) (by omega)]; rfl, ?_⟩
      refine ⟨j + 1, by omega, by omega, Ent.mk' ⟨rfl, rfl, rfl, rfl, rfl, trivial⟩ rfl (fun β w' hs => ?_)⟩
      have e1 : (rounds s ws (j + 1)).l.map sl32 = (⟨(⟨xa, xb, xc, xd, xe, xf, xg, xh⟩ : S8).x (K.getD j 0) (ws.getD j 0) + ((⟨xa, xb, xc, xd, xe, xf, xg, xh⟩ : S8).y + (⟨xa, xb, xc, xd, xe, xf, xg, xh⟩ : S8).z), xa, xb, xc, xd + (⟨xa, xb, xc, xd, xe, xf, xg, xh⟩ : S8).x (K.getD j 0) (ws.getD j 0), xe, xf, xg⟩ : S8).l.map sl32 := by
        rw [rounds_succ, hr, S8.round, UInt32.add_assoc]
      rw [e1]
      exact hs
    · obtain ⟨t, ht⟩ : ∃ t, (⟨xa, xb, xc, xd, xe, xf, xg, xh⟩ : S8) = t := ⟨_, rfl⟩
      have hst : rounds s ws 64 = t := by
        have : j = 64 := by omega
        rw [← ht, ← hr, this]
      rw [hst, ht]
      clear hst ht hr hge hj
      refine loop_rule (ι := Nat) 4 (fun i => [(2, .c (.p 0 0)), (4, .c (.p 1 0)), (9, .c (.p 3 0)), (165, .c (.v (.int .i64 i)))]) (fun i => [⟨3, 203, t.l.map sl32⟩, ⟨2, 182, ws.map sl32⟩, ⟨1, 203, ti203.zero.map SL.v⟩, ⟨0, 203, mix s t i⟩]) (fun _ => [bsF A l, oddF 3, oldF w])
        (fun i => i ≤ 8) (fun i => 8 - i) 0 (Nat.zero_le _) (Ent.same ⟨rfl, rfl, rfl, rfl, trivial⟩ rfl) g ?_
      intro j hj
      refine BIf.dec (fun hlt => ?_) (fun hge => ?_)
      · have hlt : j < 8 := by omega
        refine draw_rule g p_ostiaryref01_Step_22 (by kernel_rfl) _ _ Sub.refl ?_
        refine ⟨j, rfl, hlt, ?_⟩
        conv => whnf
        generalize hn : nth _ _ = o
        obtain rfl : o = some (sl32 (s.l.getD j 0)) := hn.symm.trans (by
          show nth (mix s t j) (0 + j * 1) = _
          rw [Nat.zero_add, Nat.mul_one]
          exact mix_get s t j hlt)
        clear hn
        refine ⟨j, rfl, hlt, ?_⟩
        conv => whnf
        generalize hn : nth _ _ = o
        obtain rfl : o = some (sl32 (t.l.getD j 0)) := hn.symm.trans (by
          show nth (t.l.map sl32) (0 + j * 1) = _
          rw [Nat.zero_add, Nat.mul_one, nth_eq]
          exact l_get t j hlt)
        clear hn
        refine ⟨_, add32 _ _, j, rfl, hlt, ?_⟩
        conv => whnf
        generalize h1 : Nat.ble _ _ = b1
        obtain rfl : b1 = true := h1.symm.trans (by
          show Nat.ble (0 + j * 1 + 1) (mix s t j).length = true
          rw [mix_len s t j (by omega), Nat.ble_eq]; omega)
        clear h1
        refine ⟨((j + 1 : Nat) : Int), by rw [wrap_i64 (by omega) (by omega)]; rfl, ?_⟩
        refine ⟨j + 1, by omega, by omega, Ent.mk' ⟨rfl, rfl, rfl, rfl, trivial⟩ rfl (fun β w' hs => ?_)⟩
        have e3 : 0 + j * 1 = j := by omega
        rw [← mix_set s t j hlt]
        have hs2 : Sat (cx_ostiaryref01_Step w (Un [])) β 4 [⟨3, 203, t.l.map sl32⟩, ⟨2, 182, ws.map sl32⟩, ⟨1, 203, ti203.zero.map SL.v⟩, ⟨0, 203, putAll (mix s t j) (0 + j * 1) [sl32 (s.l.getD j 0 + t.l.getD j 0)]⟩] [bsF A l, oddF 3, oldF w] w' := hs
        rw [e3] at hs2
        exact hs2
      · obtain rfl : j = 8 := by omega
        intro β w' hs
        exact hs.fin [] ⟨rfl, rfl⟩
theorem rstep64_c (w : World) (s : S8) (A : Option Addr) (x : List UInt8) (c : Nat) (hx : x.length = 64) (hr : Bs w A x) (hk : (oddF 3).p w) (hc : 64 ≤ c) (hm : c ≤ maxLen) :
    Pu Tryz.prog n_ostiaryref01_Step #[stV s, .slice A 64 c] w (stV (Sha.step s x)) := by
  have := rstep_c w s A x c hr hk (by omega) (by omega) hm
  rw [hx] at this
  exact this
theorem rgo_c (w : World) (s : S8) (A : Option Addr) (l : List UInt8) (c : Nat) (hr : Bs w A l) (hk : (oddF 3).p w) (hc : l.length ≤ c) (hm : c ≤ maxLen) :
    Con Tryz.prog n_ostiaryref01_Go #[stV s, .slice A l.length c] w [] fun v Fs => ∃ A' n' c', v = .tuple #[stV (go (l.length / 64) s l), .slice A' n' c'] ∧ Fs = [] := by
  have g := good_ostiaryref01_Go w (Un [])
  rw [go_eq]
  have hs0 : Sat (cx_ostiaryref01_Go w (Un [])) Va.z 0 [] [oldF w] w := old_sat rfl
  have hs1 : Sat (cx_ostiaryref01_Go w (Un [])) Va.z 0 [] [bsF A l, oddF 3, oldF w] w := (hs0.sub 0 rfl rfl (oddF 3) rfl hk (rd_lt hk)).sub 1 rfl rfl (bsF A l) rfl hr (rd_lt hr)
  have hm' := hm
  rw [maxLen_eq] at hm'
  refine con_of_sx (cx := cx_ostiaryref01_Go w (Un [])) g b_ostiaryref01_Go rfl rfl (β := Va.z) [.agg (s.l.map sl32), .c (.v (.slice A l.length c))] 0 [] [bsF A l, oddF 3, oldF w] rfl rfl hs1 ?_
  refine loop_rule (ι := Nat × Option Addr × Nat) 2 (fun i => [(1, .c (.v (.slice i.2.1 (l.length - 64 * i.1) i.2.2))), (2, .c (.p 0 0)), (4, .c (.p 1 0))]) (fun i => [⟨1, 203, ti203.zero.map SL.v⟩, ⟨0, 203, ((blks l i.1).foldl Sha.step s).l.map sl32⟩]) (fun _ => [bsF A l, oddF 3, oldF w])
    (fun i => 64 * i.1 ≤ l.length ∧ l.length - 64 * i.1 ≤ i.2.2 ∧ i.2.2 ≤ 9223372036854775807 ∧ (∀ w, Bs w A l → Bs w i.2.1 (l.drop (64 * i.1)))) (fun i => l.length - 64 * i.1) (0, A, c)
    ⟨Nat.zero_le _, hc, hm', fun w h => h⟩ (Ent.same ⟨rfl, rfl, rfl, trivial⟩ rfl) g ?_
  rintro ⟨i, B, cap⟩ ⟨hi, hcap, hcm, hB⟩
  simp only at hi hcap hcm hB
  obtain ⟨m, hm2⟩ : ∃ m, l.length - 64 * i = m := ⟨_, rfl⟩
  have hmc : m ≤ cap := by omega
  rw [hm2]
  have hdl : (l.drop (64 * i)).length = m := by rw [List.length_drop]; omega
  obtain ⟨st, hst⟩ : ∃ st, (blks l i).foldl Sha.step s = st := ⟨_, rfl⟩
  rw [hst]
  refine BIf.dec (fun h0 => ?_) (fun h0 => ?_)
  · have hm64 : 64 ≤ m := by omega
    have hbl : (blk l i).length = 64 := by unfold blk; rw [List.length_take, hdl]; omega
    have hS : ∀ {H : List Bk} {n : Nat}, Sub (cx_ostiaryref01_Go w (Un [])) n H [bsF A l, oddF 3, oldF w] [] [bsF A l, oddF 3, oldF w] := fun {H n} => Sub.of (List.nil_sublist _) (List.Sublist.refl _)
    refine draw_rule g p_ostiaryref01_Go_2 (by kernel_rfl) [] [bsF A l, oddF 3, oldF w] hS ?_
    refine ⟨cap, 64, 0, 64, cap, _, rfl, rfl, rfl, Nat.le_refl _, by show 64 ≤ cap; omega, by omega, rfl, rfl, rfl, ?_⟩
    refine ⟨cap, m, 64, m - 64, cap - 64, _, rfl, rfl, rfl, Nat.le_refl _, hmc, hm64, rfl, rfl, rfl, ?_⟩
    refine ⟨hS, ?_⟩
    refine call_pu (fun β w' hs => rstep64_c w' st (cutA B cap 0 1) (blk l i) cap hbl ?_ (hs.get 1 rfl) (by omega) (by rw [maxLen_eq]; exact hcm)) ?_
    · have h7 := Bs.cut (hB w' (hs.get 0 rfl)) (c := cap) (m := cap) (i := 0) (j := 64) (by omega) (.inl rfl) (by omega) (by omega) (by omega)
      have h8 : Rd 1 (cutA B cap 0 1) (blk l i).length ((blk l i).map byte) w' := by rw [hbl]; exact h7
      exact h8
    refine ⟨hS, ?_⟩
    refine ⟨hS, ?_⟩
    refine ⟨(i + 1, cutA B cap 64 1, cap - 64), ⟨by show 64 * (i + 1) ≤ _; omega, by show l.length - 64 * (i + 1) ≤ cap - 64; omega, by show cap - 64 ≤ _; omega, fun w' h => ?_⟩, by show l.length - 64 * (i + 1) < m; omega, Ent.mk' ⟨?_, rfl, rfl, trivial⟩ rfl (fun β w' hs => ?_)⟩
    · have h7 := Bs.cutB (hB w' h) (c := cap) (i := 64) (j := m) (m := l.drop (64 * (i + 1))) (by omega) hm64 (by omega) (by
        rw [List.drop_drop, show 64 * i + 64 = 64 * (i + 1) by omega, List.take_of_length_le]
        rw [List.length_drop]; omega)
      exact h7
    · show _ = some (SV.c (.v (.slice _ (l.length - 64 * (i + 1)) _)))
      rw [show l.length - 64 * (i + 1) = m - 64 by omega]
      rfl
    · rw [blks_succ, List.foldl_append, hst]
      exact hs
  · have hi2 : i = l.length / 64 := by omega
    intro β w' hs
    rw [← hi2, hst]
    exact hs.fin [] ⟨B, m, cap, rfl, rfl⟩
theorem rsum_c (w : World) (A : Option Addr) (l : List UInt8) (c : Nat) (hr : Bs w A l) (hk : (oddF 3).p w) (hn : l.length ≤ 70368744177664) :
    Con Tryz.prog n_ostiaryref01_Sum #[.slice A l.length c] w [] fun v Fs => ∃ A' c', v = .slice A' 32 c' ∧ 32 ≤ c' ∧ c' ≤ maxLen ∧ Fs = [browF ty_uint8 A' (Sha.sum l) c'] := by
  have g := good_ostiaryref01_Sum w (Un [])
  have hs0 : Sat (cx_ostiaryref01_Sum w (Un [])) Va.z 0 [] [oldF w] w := old_sat rfl
  have hs1 : Sat (cx_ostiaryref01_Sum w (Un [])) Va.z 0 [] [bsF A l, oddF 3, oldF w] w := (hs0.sub 0 rfl rfl (oddF 3) rfl hk (rd_lt hk)).sub 1 rfl rfl (bsF A l) rfl hr (rd_lt hr)
  refine con_of_sx (cx := cx_ostiaryref01_Sum w (Un [])) g b_ostiaryref01_Sum rfl rfl (β := Va.z) [.c (.v (.slice A l.length c))] 0 [] [bsF A l, oddF 3, oldF w] rfl rfl hs1 ?_
  obtain ⟨q, hq⟩ : ∃ q, l ++ ends l.length = q := ⟨_, rfl⟩
  have hql : q.length = l.length + (ends l.length).length := by rw [← hq, List.length_append]
  have hel : (ends l.length).length < 73 := by rw [Sha.ends_len]; unfold zeros; omega
  have hsum : Sha.sum l = out (go (q.length / 64) Sha.first q) := by rw [← hq]; rfl
  rw [hsum]
  refine call_pu (fun β w' hs => first_c w') ?_
  intro b
  refine ⟨0, 0, l.length, [], l.map byte, _, rfl, fun β w' hs => hs.get 1 rfl, bytes_one l, Nat.zero_add _, rfl, by rw [maxLen_eq]; omega, by show l.length * 1 ≤ _; omega, ?_⟩
  intro A1 c1 h1 h2 _
  refine ⟨(l.length : Int), by rw [wrap_u64']; omega, ?_⟩
  refine call_con [] (fun β w' hs => tail_c w' l.length (by omega)) ?_
  rintro v Fs ⟨A2, c2, rfl, h3, h4, rfl⟩
  refine ⟨1, l.length, q.length, _, (ends l.length).map byte, q.map byte, rfl, fun β w hs => row_rd (hs.get 0 rfl), bytes_one _, hql.symm, by rw [← hq, List.map_append]; rfl, by rw [maxLen_eq]; omega, by show q.length * 1 ≤ _; omega, ?_⟩
  intro A3 c3 h5 h6 _
  refine call_con [] (fun β w' hs => rgo_c w' Sha.first A3 q c3 (row_rd (hs.get 1 rfl)) (hs.get 3 rfl) h5 h6) ?_
  rintro v Fs ⟨A4, n4, c4, rfl, rfl⟩
  generalize go (q.length / 64) Sha.first q = st
  refine call_con [] (fun β w' hs => out_c w' st) ?_
  rintro v Fs ⟨A5, c5, rfl, h7, h8, rfl⟩
  intro β w' hs
  exact (hs.keepB (List.nil_sublist _)).fin [0] ⟨A5, c5, rfl, h7, h8, rfl⟩
structure SecA where
  A0 : Option Addr
  A1 : Option Addr
  A2 : Option Addr
  A3 : Option Addr
  c0 : Nat
  c1 : Nat
  c2 : Nat
  c3 : Nat
  s0 : List UInt8
  s1 : List UInt8
  s2 : List UInt8
  s3 : List UInt8
  it : Int
def SecA.val (x : SecA) : Value := .agg #[.slice x.A0 x.s0.length x.c0, .int .i64 x.it, .slice x.A1 x.s1.length x.c1, .slice x.A2 x.s2.length x.c2, .slice x.A3 x.s3.length x.c3]
def SecA.cells (x : SecA) : List SL := [.v (.slice x.A0 x.s0.length x.c0), .v (.int .i64 x.it), .v (.slice x.A1 x.s1.length x.c1), .v (.slice x.A2 x.s2.length x.c2), .v (.slice x.A3 x.s3.length x.c3)]
structure SecA.Rd (x : SecA) (w : World) : Prop where
  h0 : Bs w x.A0 x.s0
  h1 : Bs w x.A1 x.s1
  h2 : Bs w x.A2 x.s2
  h3 : Bs w x.A3 x.s3
theorem ofInt8 (a : UInt8) : BitVec.ofInt 8 (a.toNat : Int) = a.toBitVec := by
  apply BitVec.eq_of_toNat_eq
  rw [BitVec.toNat_ofInt]
  have := a.toNat_lt
  have e : a.toBitVec.toNat = a.toNat := rfl
  rw [e]
  omega
theorem back8 (x : BitVec 8) : IntKind.u8.wrap (x.toNat : Int) = ((UInt8.ofBitVec x).toNat : Int) := by
  rw [wrap_u8]
  have := x.isLt
  have e : (UInt8.ofBitVec x).toNat = x.toNat := rfl
  rw [e]
  omega
theorem xor8 (a b : UInt8) : bits .xor .u8 (a.toNat : Int) (b.toNat : Int) = ((a ^^^ b).toNat : Int) := by
  show IntKind.u8.wrap (((BitVec.ofInt 8 (a.toNat : Int)) ^^^ (BitVec.ofInt 8 (b.toNat : Int))).toNat : Int) = _
  rw [ofInt8, ofInt8, back8]
  rfl
end Go.Proofs.YtoifclfanabalaaGreatDoor.Sx

namespace Go.Proofs.YtoifclfanabalaaGreatDoor.Sx
open Go
attribute [local irreducible] Calls
def formV (f : Nam.Fm) : List Value := [.int .i64 (f.size : Int), byte f.mask, byte f.lead, .int .i32 (f.least : Int)]
def formCells : List Value := Nam.fms.flatMap formV
def Forms (g : Nat) (w : World) : Prop := Rd 16 (some ⟨g, 0, none⟩) 1 formCells w
theorem Forms.old {g : Nat} {W w : World} (h : Forms g W) (ho : (oldF W).p w) : Forms g w := Rd.old h ho
end Go.Proofs.YtoifclfanabalaaGreatDoor.Sx

namespace Go.Proofs.YtoifclfanabalaaGreatDoor.Sx
open Go
end Go.Proofs.YtoifclfanabalaaGreatDoor.Sx

namespace Go.Proofs.YtoifclfanabalaaGreatDoor.Sx
open Go
attribute [local irreducible] Calls
def mkS (l : List UInt8) : ByteArray := ⟨l.toArray⟩
end Go.Proofs.YtoifclfanabalaaGreatDoor.Sx

namespace Go.Proofs.YtoifclfanabalaaGreatDoor.Sx
open Go
theorem hi2 {y : Nat} (h : y < 32) : 192 ||| UInt8.ofNat y = UInt8.ofNat (192 + y) := by
  have key : ∀ n : _root_.Fin 32, 192 ||| UInt8.ofNat n.1 = UInt8.ofNat (192 + n.1) := by decide +kernel
  exact key ⟨y, h⟩
theorem hi3 {y : Nat} (h : y < 16) : 224 ||| UInt8.ofNat y = UInt8.ofNat (224 + y) := by
  have key : ∀ n : _root_.Fin 16, 224 ||| UInt8.ofNat n.1 = UInt8.ofNat (224 + n.1) := by decide +kernel
  exact key ⟨y, h⟩
theorem hi4 {y : Nat} (h : y < 8) : 240 ||| UInt8.ofNat y = UInt8.ofNat (240 + y) := by
  have key : ∀ n : _root_.Fin 8, 240 ||| UInt8.ofNat n.1 = UInt8.ofNat (240 + n.1) := by decide +kernel
  exact key ⟨y, h⟩
end Go.Proofs.YtoifclfanabalaaGreatDoor.Sx

namespace Go.Proofs.YtoifclfanabalaaGreatDoor.Sx
open Go
attribute [local irreducible] Calls
def lead (b : UInt8) : Option (Nat × Nat) :=
  if 194 ≤ b.toNat ∧ b.toNat ≤ 223 then some (2, b.toNat - 192)
  else if 224 ≤ b.toNat ∧ b.toNat ≤ 239 then some (3, b.toNat - 224)
  else if 240 ≤ b.toNat ∧ b.toNat ≤ 244 then some (4, b.toNat - 240)
  else none
end Go.Proofs.YtoifclfanabalaaGreatDoor.Sx

namespace Go.Proofs.YtoifclfanabalaaGreatDoor.Sx
open Go
section
variable {cx : Cx} {n : Nat} {H : List Bk} {F : List Fact} {w : World}
theorem calls_of_tri {f : FuncId} {fn : Func} {c : Code} {R : Value → World → Prop} (g : Good cx) (hf : cx.P.funcs[f]? = some fn) (hb : fn.body = some c) (hN : fn.ntmps = cx.N)
    {β : Va} (svs : List SV) (n : Nat) (H : List Bk) (F : List Fact) (hlen : Nat.ble svs.length cx.N = true) (hltB : allLt n svs = true) (hs : Sat cx β n H F w)
    (hw : Tri cx c (fnPost cx fn.results.toList R) n (pairs 0 svs) H F) (hr : cx.rnd = none := by rfl) (hm : β.marks = [] := by rfl) (hp0 : cx.pn = [] := by rfl) :
    Calls cx.P f (svs.map (SV.val β)).toArray w fun e w' => ∃ v, e = .returned v ∧ R v w' := by
  have hfe : cx.fence = Fence.wide := by unfold Cx.fence; rw [hr]
  refine (callsIn_wide (n := 0)).1 (callsIn_of_wp_marks hf hb trivial ?_)
  have hlt := allLt_mem hltB
  have hlen' : svs.length ≤ cx.N := Nat.le_of_ble_eq_true hlen
  have hi : Inv cx β n (pairs 0 svs) H F { tmps := (svs.map (SV.val β)).toArray ++ Array.replicate (fn.ntmps - (svs.map (SV.val β)).toArray.size) undef, defers := [] } w := by
    refine ⟨fun t s ht => ?_, ?_, by rw [hm]; rfl, fun t s ht => ?_, hs⟩
    · obtain ⟨j, rfl, hj⟩ := pairs_get svs 0 t s ht
      have hjl : j < svs.length := (List.getElem?_eq_some_iff.1 hj).1
      rw [Array.getElem?_append_left (by simp; omega)]
      simp [hj]
    · simp [hN]; omega
    · obtain ⟨j, rfl, hj⟩ := pairs_get svs 0 t s ht
      exact hlt s (List.mem_of_getElem? hj)
  have h0 := hw.run β _ w hi
  rw [hfe] at h0
  refine wpIn_mono h0 fun e a' w' hq => ?_
  have key : After cx (RetWP cx fn.results.toList R) a' w' → LeavesInM Fence.wide 0 cx.P fn a'.tmps (fun e w' => ∃ v, e = .returned v ∧ R v w') a'.defers .returning w' := by
    rintro ⟨β', n', env', H', F', h', hp⟩
    rw [← hfe]
    have hd := h'.df
    obtain ⟨tmps, defers⟩ := a'
    simp only at hd
    subst hd
    exact leaves_sx g hr hp0 _ β' w' rfl h' hp
  cases e with
  | normal => exact key hq
  | ret => exact key hq
  | exit id => obtain ⟨_, _, _, _, _, _, hq⟩ := hq; exact hq.elim
  | goto l => obtain ⟨_, _, _, _, _, _, hq⟩ := hq; exact hq.elim
  | panic ch => exact hq.elim
  | outgrown => exact hq.elim
theorem con_of_tri {f : FuncId} {fn : Func} {c : Code} {Gs : List Fact} {R : Value → List Fact → Prop} (g : Good cx) (hf : cx.P.funcs[f]? = some fn) (hb : fn.body = some c) (hN : fn.ntmps = cx.N)
    {β : Va} (svs : List SV) (n : Nat) (H : List Bk) (F : List Fact) (hlen : Nat.ble svs.length cx.N = true) (hltB : allLt n svs = true) (hs : Sat cx β n H F w)
    (hw : Tri cx c (fnPost cx fn.results.toList (Fin w Gs R)) n (pairs 0 svs) H F) (hr : cx.rnd = none := by rfl) (hm : β.marks = [] := by rfl) (hp0 : cx.pn = [] := by rfl) :
    Con cx.P f (svs.map (SV.val β)).toArray w Gs R := calls_of_tri g hf hb hN svs n H F hlen hltB hs hw hr hm hp0
theorem tri_seq (g : Good cx) {c1 c2 : Code} {Q : Exit → KT} {env : Env} (h : cwp cx c1 (andThen (fun n env H F => Tri cx c2 Q n env H F) Q) n env H F) : Tri cx (.seq c1 c2) Q n env H F := by
  refine ⟨fun β a w hi => wpIn_seq (wpIn_mono ((cwp_sound g c1 _ n env H F h).run β a w hi) fun e a w hq => ?_)⟩
  cases e with
  | normal =>
    obtain ⟨β', n', env', H', F', h', hq'⟩ := hq
    exact hq'.run β' a w h'
  | exit i => exact hq
  | goto l => exact hq
  | ret => exact hq
  | panic c => exact hq
  | outgrown => exact hq
theorem tri_of (g : Good cx) {c : Code} {Q : Exit → KT} {env : Env} (h : cwp cx c Q n env H F) : Tri cx c Q n env H F := cwp_sound g c Q n env H F h
end
theorem tri_seqJ {cx : Cx} {n : Nat} {H : List Bk} {F : List Fact} {ι : Type} (g : Good cx) {c1 c2 : Code} {Q : Exit → KT} {env : Env} (T : ι → Prop) (n' : Nat) (E : ι → Env) (HH : ι → List Bk) (FF : ι → List Fact) (hkey : ∀ i, T i → Tri cx c2 Q n' (E i) (HH i) (FF i))
    (h : cwp cx c1 (andThen (fun n env H F => EntX cx n env H F T n' E HH FF) Q) n env H F) : Tri cx (.seq c1 c2) Q n env H F := by
  refine ⟨fun β a w hi => wpIn_seq (wpIn_mono ((cwp_sound g c1 _ n env H F h).run β a w hi) fun e a w hq => ?_)⟩
  cases e with
  | normal =>
    obtain ⟨β', n', env', H', F', h', hq'⟩ := hq
    exact (tri_join T _ E HH FF hkey hq').run β' a w h'
  | exit i => exact hq
  | goto l => exact hq
  | ret => exact hq
  | panic c => exact hq
  | outgrown => exact hq
end Go.Proofs.YtoifclfanabalaaGreatDoor.Sx

namespace Go.Proofs.YtoifclfanabalaaGreatDoor.Sx
open Go
attribute [local irreducible] Calls
theorem addN {k x : Nat} (h : k + x < 9223372036854775808) : IntKind.i64.wrap ((k : Int) + (x : Int)) = ((k + x : Nat) : Int) := by
  rw [wrap_i64 (by omega) (by omega)]; rfl
def valV (url : Bool) (c : UInt8) : Int := match valA url c with | some v => (v : Int) | none => -1
structure Alph (s : ByteArray) (url : Bool) : Prop where
  len : s.size = 64
  l62 : s.data.toList[62]? = some (e62 url)
  l63 : s.data.toList[63]? = some (e63 url)
theorem value_c (w : World) (s : ByteArray) (url : Bool) (c : UInt8) (ha : Alph s url) : Pu Tryz.prog n_b64_value #[.string s, .int .u8 c.toNat] w (.int .i64 (valV url c)) := by
  have g := good_b64_value w (Un [])
  have hc := c.toNat_lt
  refine con_of_sx (cx := cx_b64_value w (Un [])) g b_b64_value rfl rfl (β := Va.z) [.c (.v (.string s)), .c (.v (.int .u8 c.toNat))] 0 [] [] rfl rfl (Sat.start rfl) ?_
  obtain ⟨n, hn⟩ : ∃ n : Int, (c.toNat : Int) = n := ⟨_, rfl⟩
  have hv : valV url c = if 65 ≤ n ∧ n ≤ 90 then n - 65 else if 97 ≤ n ∧ n ≤ 122 then n - 97 + 26 else if 48 ≤ n ∧ n ≤ 57 then n - 48 + 52 else if c = e62 url then 62 else if c = e63 url then 63 else -1 := by
    unfold valV valA
    have e1 : (65 ≤ n ∧ n ≤ 90) = (65 ≤ c.toNat ∧ c.toNat ≤ 90) := propext (by omega)
    have e2 : (97 ≤ n ∧ n ≤ 122) = (97 ≤ c.toNat ∧ c.toNat ≤ 122) := propext (by omega)
    have e3 : (48 ≤ n ∧ n ≤ 57) = (48 ≤ c.toNat ∧ c.toNat ≤ 57) := propext (by omega)
    simp only [e1, e2, e3]
    by_cases h1 : 65 ≤ c.toNat ∧ c.toNat ≤ 90
    · simp only [if_pos h1]; omega
    · simp only [if_neg h1]
      by_cases h2 : 97 ≤ c.toNat ∧ c.toNat ≤ 122
      · simp only [if_pos h2]; omega
      · simp only [if_neg h2]
        by_cases h3 : 48 ≤ c.toNat ∧ c.toNat ≤ 57
        · simp only [if_pos h3]; omega
        · simp only [if_neg h3]
          by_cases h4 : c = e62 url
          · simp only [if_pos h4]; rfl
          · simp only [if_neg h4]
            by_cases h5 : c = e63 url
            · simp only [if_pos h5]; rfl
            · simp only [if_neg h5]
  rw [hn]
  generalize valV url c = v at hv ⊢
  have wr : ∀ x : Int, 0 ≤ x → x < 256 → IntKind.u8.wrap x = x := fun x h1 h2 => by rw [wrap_u8]; omega
  by_cases h1 : 65 ≤ n ∧ n ≤ 90
  · rw [if_pos h1] at hv
    refine BIf.dec (fun _ => ?_) (fun h => absurd (show 65 ≤ n by omega) h)
    refine BIf.dec (fun _ => ?_) (fun h => absurd (show n ≤ 90 by omega) h)
    refine ⟨n - 65, by rw [IntKind.wrap_u8]; omega, ?_⟩
    refine ⟨_, wrap_i64 (by omega) (by omega), ?_⟩
    intro β w' hs
    exact hs.fin [] ⟨by rw [hv]; rfl, rfl⟩
  rw [if_neg h1] at hv
  by_cases h2 : 97 ≤ n ∧ n ≤ 122
  · rw [if_pos h2] at hv
    refine BIf.dec (fun _ => ?_) (fun h => absurd (show 65 ≤ n by omega) h)
    refine BIf.dec (fun h => absurd h (show ¬ (n ≤ 90) by omega)) (fun _ => ?_)
    refine BIf.dec (fun _ => ?_) (fun h => absurd (show 97 ≤ n by omega) h)
    refine BIf.dec (fun _ => ?_) (fun h => absurd (show n ≤ 122 by omega) h)
    refine ⟨n - 97, by rw [IntKind.wrap_u8]; omega, ?_⟩
    refine ⟨_, wrap_i64 (by omega) (by omega), ?_⟩
    refine ⟨_, wrap_i64 (by omega) (by omega), ?_⟩
    intro β w' hs
    exact hs.fin [] ⟨by rw [hv]; rfl, rfl⟩
  rw [if_neg h2] at hv
  by_cases h3 : 48 ≤ n ∧ n ≤ 57
  · rw [if_pos h3] at hv
    refine BIf.dec (fun h => absurd h (show ¬ (65 ≤ n) by omega)) (fun _ => ?_)
    refine BIf.dec (fun h => absurd h (show ¬ (97 ≤ n) by omega)) (fun _ => ?_)
    refine BIf.dec (fun _ => ?_) (fun h => absurd (show 48 ≤ n by omega) h)
    refine BIf.dec (fun _ => ?_) (fun h => absurd (show n ≤ 57 by omega) h)
    refine ⟨n - 48, by rw [IntKind.wrap_u8]; omega, ?_⟩
    refine ⟨_, wrap_i64 (by omega) (by omega), ?_⟩
    refine ⟨_, wrap_i64 (by omega) (by omega), ?_⟩
    intro β w' hs
    exact hs.fin [] ⟨by rw [hv]; rfl, rfl⟩
  rw [if_neg h3] at hv
  by_cases k1 : n < 48
  · skip
    refine BIf.dec (fun h => absurd h (show ¬ (65 ≤ n) by omega)) (fun _ => ?_)
    refine BIf.dec (fun h => absurd h (show ¬ (97 ≤ n) by omega)) (fun _ => ?_)
    refine BIf.dec (fun h => absurd h (show ¬ (48 ≤ n) by omega)) (fun _ => ?_)
    refine ⟨62, e62 url, rfl, ha.l62, ?_⟩
    refine BIf.dec (fun q => ?_) (fun q => ?_)
    · have q0 : n = ((e62 url).toNat : Int) := q
      have qc : c = e62 url := UInt8.toNat_inj.1 (by omega)
      intro β w' hs
      exact hs.fin [] ⟨by rw [hv, if_pos qc]; rfl, rfl⟩
    have q0 : ¬ n = ((e62 url).toNat : Int) := q
    have qc : ¬ c = e62 url := fun e => q0 (by rw [← hn, e])
    refine ⟨63, e63 url, rfl, ha.l63, ?_⟩
    refine BIf.dec (fun r => ?_) (fun r => ?_)
    · have r0 : n = ((e63 url).toNat : Int) := r
      have rc : c = e63 url := UInt8.toNat_inj.1 (by omega)
      intro β w' hs
      exact hs.fin [] ⟨by rw [hv, if_neg qc, if_pos rc]; rfl, rfl⟩
    have r0 : ¬ n = ((e63 url).toNat : Int) := r
    have rc : ¬ c = e63 url := fun e => r0 (by rw [← hn, e])
    intro β w' hs
    exact hs.fin [] ⟨by rw [hv, if_neg qc, if_neg rc]; rfl, rfl⟩
  by_cases k2 : n < 65
  · skip
    refine BIf.dec (fun h => absurd h (show ¬ (65 ≤ n) by omega)) (fun _ => ?_)
    refine BIf.dec (fun h => absurd h (show ¬ (97 ≤ n) by omega)) (fun _ => ?_)
    refine BIf.dec (fun _ => ?_) (fun h => absurd (show 48 ≤ n by omega) h)
    refine BIf.dec (fun h => absurd h (show ¬ (n ≤ 57) by omega)) (fun _ => ?_)
    refine ⟨62, e62 url, rfl, ha.l62, ?_⟩
    refine BIf.dec (fun q => ?_) (fun q => ?_)
    · have q0 : n = ((e62 url).toNat : Int) := q
      have qc : c = e62 url := UInt8.toNat_inj.1 (by omega)
      intro β w' hs
      exact hs.fin [] ⟨by rw [hv, if_pos qc]; rfl, rfl⟩
    have q0 : ¬ n = ((e62 url).toNat : Int) := q
    have qc : ¬ c = e62 url := fun e => q0 (by rw [← hn, e])
    refine ⟨63, e63 url, rfl, ha.l63, ?_⟩
    refine BIf.dec (fun r => ?_) (fun r => ?_)
    · have r0 : n = ((e63 url).toNat : Int) := r
      have rc : c = e63 url := UInt8.toNat_inj.1 (by omega)
      intro β w' hs
      exact hs.fin [] ⟨by rw [hv, if_neg qc, if_pos rc]; rfl, rfl⟩
    have r0 : ¬ n = ((e63 url).toNat : Int) := r
    have rc : ¬ c = e63 url := fun e => r0 (by rw [← hn, e])
    intro β w' hs
    exact hs.fin [] ⟨by rw [hv, if_neg qc, if_neg rc]; rfl, rfl⟩
  by_cases k3 : n < 97
  · skip
    refine BIf.dec (fun _ => ?_) (fun h => absurd (show 65 ≤ n by omega) h)
    refine BIf.dec (fun h => absurd h (show ¬ (n ≤ 90) by omega)) (fun _ => ?_)
    refine BIf.dec (fun h => absurd h (show ¬ (97 ≤ n) by omega)) (fun _ => ?_)
    refine BIf.dec (fun _ => ?_) (fun h => absurd (show 48 ≤ n by omega) h)
    refine BIf.dec (fun h => absurd h (show ¬ (n ≤ 57) by omega)) (fun _ => ?_)
    refine ⟨62, e62 url, rfl, ha.l62, ?_⟩
    refine BIf.dec (fun q => ?_) (fun q => ?_)
    · have q0 : n = ((e62 url).toNat : Int) := q
      have qc : c = e62 url := UInt8.toNat_inj.1 (by omega)
      intro β w' hs
      exact hs.fin [] ⟨by rw [hv, if_pos qc]; rfl, rfl⟩
    have q0 : ¬ n = ((e62 url).toNat : Int) := q
    have qc : ¬ c = e62 url := fun e => q0 (by rw [← hn, e])
    refine ⟨63, e63 url, rfl, ha.l63, ?_⟩
    refine BIf.dec (fun r => ?_) (fun r => ?_)
    · have r0 : n = ((e63 url).toNat : Int) := r
      have rc : c = e63 url := UInt8.toNat_inj.1 (by omega)
      intro β w' hs
      exact hs.fin [] ⟨by rw [hv, if_neg qc, if_pos rc]; rfl, rfl⟩
    have r0 : ¬ n = ((e63 url).toNat : Int) := r
    have rc : ¬ c = e63 url := fun e => r0 (by rw [← hn, e])
    intro β w' hs
    exact hs.fin [] ⟨by rw [hv, if_neg qc, if_neg rc]; rfl, rfl⟩
  · skip
    refine BIf.dec (fun _ => ?_) (fun h => absurd (show 65 ≤ n by omega) h)
    refine BIf.dec (fun h => absurd h (show ¬ (n ≤ 90) by omega)) (fun _ => ?_)
    refine BIf.dec (fun _ => ?_) (fun h => absurd (show 97 ≤ n by omega) h)
    refine BIf.dec (fun h => absurd h (show ¬ (n ≤ 122) by omega)) (fun _ => ?_)
    refine BIf.dec (fun _ => ?_) (fun h => absurd (show 48 ≤ n by omega) h)
    refine BIf.dec (fun h => absurd h (show ¬ (n ≤ 57) by omega)) (fun _ => ?_)
    refine ⟨62, e62 url, rfl, ha.l62, ?_⟩
    refine BIf.dec (fun q => ?_) (fun q => ?_)
    · have q0 : n = ((e62 url).toNat : Int) := q
      have qc : c = e62 url := UInt8.toNat_inj.1 (by omega)
      intro β w' hs
      exact hs.fin [] ⟨by rw [hv, if_pos qc]; rfl, rfl⟩
    have q0 : ¬ n = ((e62 url).toNat : Int) := q
    have qc : ¬ c = e62 url := fun e => q0 (by rw [← hn, e])
    refine ⟨63, e63 url, rfl, ha.l63, ?_⟩
    refine BIf.dec (fun r => ?_) (fun r => ?_)
    · have r0 : n = ((e63 url).toNat : Int) := r
      have rc : c = e63 url := UInt8.toNat_inj.1 (by omega)
      intro β w' hs
      exact hs.fin [] ⟨by rw [hv, if_neg qc, if_pos rc]; rfl, rfl⟩
    have r0 : ¬ n = ((e63 url).toNat : Int) := r
    have rc : ¬ c = e63 url := fun e => r0 (by rw [← hn, e])
    intro β w' hs
    exact hs.fin [] ⟨by rw [hv, if_neg qc, if_neg rc]; rfl, rfl⟩
def piecesA (k : Nat) : List UInt8 → List (List UInt8)
  | [] => []
  | c :: r => (c :: r).take (k + 1) :: piecesA k ((c :: r).drop (k + 1))
termination_by l => l.length
decreasing_by simp only [List.length_drop, List.length_cons]; omega
theorem pieces_nil (k : Nat) : piecesA k [] = [] := by rw [piecesA]
theorem pieces_ne (k : Nat) {l : List UInt8} (h : l ≠ []) : piecesA k l = l.take (k + 1) :: piecesA k (l.drop (k + 1)) := by
  cases l with
  | nil => exact absurd rfl h
  | cons c r => rw [piecesA]
theorem pieces_len (k : Nat) : ∀ (m : Nat) (l : List UInt8), l.length ≤ m → (piecesA k l).length ≤ l.length
  | 0, l, h => by
    obtain rfl : l = [] := List.length_eq_zero_iff.1 (by omega)
    rw [pieces_nil]; exact Nat.zero_le _
  | m + 1, l, h => by
    by_cases hl : l = []
    · rw [hl, pieces_nil]; exact Nat.zero_le _
    · have h0 : 0 < l.length := List.length_pos_iff.2 hl
      rw [pieces_ne k hl, List.length_cons]
      have := pieces_len k m (l.drop (k + 1)) (by rw [List.length_drop]; omega)
      rw [List.length_drop] at this
      omega
theorem mkS_take (l : List UInt8) (n : Nat) : (mkS l).extract 0 n = mkS (l.take n) := by
  apply ByteArray.ext
  simp [mkS]
theorem mkS_drop (l : List UInt8) (n : Nat) : (mkS l).extract n (mkS l).size = mkS (l.drop n) := by
  apply ByteArray.ext
  simp [mkS, ByteArray.size]
  rw [List.take_of_length_le (by rw [List.length_drop]; omega)]
theorem mkS_sz (l : List UInt8) : (mkS l).size = l.length := by simp [mkS, ByteArray.size]
theorem mkS_of (s : ByteArray) : mkS s.data.toList = s := by simp [mkS]
def insS (L : List ByteArray) (pre : List ByteArray) (x : ByteArray) (args : Array Value) (X : Fact) : Prop := args = #[.string x] ∧ X = noF ∧ L[pre.length]? = some x
def grpEnd (L : List ByteArray) (J Jx : List ByteArray → Fact → Prop) (Fs : List Fact) : Prop :=
  ∃ f Fs', Fs = f :: Fs' ∧ ((∃ xs, J xs f ∧ xs = L ∧ Fs' = []) ∨ (∃ pre, Jx pre f ∧ Fs' = []))
theorem grp_it (l : Nat) (w : World) (bs bk k : Nat) (s0 : List UInt8) (f0 R : Fact) (J Jx : List ByteArray → Fact → Prop) (kk : Int) (hkk : ((k + 1 : Nat) : Int) = kk) (hk : k ≤ 1000) (hL : s0.length ≤ 1000000) (hJ0 : J [] f0) (hJo : ∀ pre f, J pre f → f.own = true) (hRo : R.own = false) (hY : Yc Tryz.prog l J Jx R (insS ((piecesA k s0).map mkS)))
    (hm : Mem w (f0 :: R :: [bkF bs ty_string [.string (mkS s0)], bkF bk ty_int [.int .i64 kk]])) :
    Con Tryz.prog n_b64_Groups_1 #[.func (.yield l) #[] #[], .pointer (some ⟨bs, 0, none⟩), .pointer (some ⟨bk, 0, none⟩)] w [f0, bkF bs ty_string [.string (mkS s0)], bkF bk ty_int [.int .i64 kk]] (fun _ Fs => grpEnd ((piecesA k s0).map mkS) J Jx Fs) := by
  have g := good_b64_Groups_1 w (Un [f0, bkF bs ty_string [.string (mkS s0)], bkF bk ty_int [.int .i64 kk]]) [bs, bk]
  have hs0 : Sat (cx_b64_Groups_1 w (Un [f0, bkF bs ty_string [.string (mkS s0)], bkF bk ty_int [.int .i64 kk]]) [bs, bk]) (Va.of fun i => [bs, bk].getD i 0) 2 [] (f0 :: R :: [bkF bs ty_string [.string (mkS s0)], bkF bk ty_int [.int .i64 kk]]) w := by
    refine hm.sat rfl (fun f hf ho k hk => ?_) ⟨Nat.le_refl 2, fun i _ => rfl⟩
    simp only [List.mem_cons, List.not_mem_nil, or_false] at hf
    rcases hf with rfl | rfl | rfl | rfl
    · exact ⟨_, by simp, hk⟩
    · rw [hRo] at ho; cases ho
    · exact ⟨bkF bs ty_string [.string (mkS s0)], by simp, hk⟩
    · exact ⟨_, by simp, hk⟩
  have hs1 := (hs0.toBk 3 rfl 1 (by decide) rfl).toBk 2 rfl 0 (by decide) rfl
  refine con_of_sx (cx := cx_b64_Groups_1 w (Un [f0, bkF bs ty_string [.string (mkS s0)], bkF bk ty_int [.int .i64 kk]]) [bs, bk]) g b_b64_Groups_1 rfl rfl (β := Va.of fun i => [bs, bk].getD i 0) [.c (.v (.func (.yield l) #[] #[])), .c (.p 0 0), .c (.p 1 0)] 2 _ _ rfl rfl hs1 ?_
  obtain ⟨L, hLd⟩ : ∃ L, (piecesA k s0).map mkS = L := ⟨_, rfl⟩
  rw [hLd] at hY ⊢
  refine loop_rule (ι := List UInt8 × List ByteArray × Fact) 2 (fun i => [(0, .c (.v (.func (.yield l) #[] #[]))), (1, .c (.p 0 0)), (2, .c (.p 1 0))]) (fun i => [⟨0, ty_string, [.v (.string (mkS i.1))]⟩, ⟨1, ty_int, [.v (.int .i64 kk)]⟩]) (fun i => [i.2.2, R])
    (fun i => J i.2.1 i.2.2 ∧ L = i.2.1 ++ (piecesA k i.1).map mkS ∧ i.1.length ≤ 1000000) (fun i => i.1.length) (s0, [], f0) ⟨hJ0, hLd.symm, hL⟩ (Ent.mk' ⟨rfl, rfl, rfl, trivial⟩ rfl (fun β w' hs => hs)) g ?_
  rintro ⟨r, pre, f⟩ ⟨hJ, hpre, hrl⟩
  simp only at hJ hpre hrl
  have hfo := hJo _ _ hJ
  simp only
  have hsz := mkS_sz r
  obtain ⟨z, hz⟩ : ∃ z : Int, ((mkS r).size : Int) = z := ⟨_, rfl⟩
  by_cases hr : r = []
  · subst hr
    rw [pieces_nil, List.map_nil, List.append_nil] at hpre
    intro β w' hs
    exact (hs.keepB (List.nil_sublist _)).fin [0] ⟨f, _, rfl, .inl ⟨pre, hJ, hpre.symm, rfl⟩⟩ rfl rfl rfl ⟨hfo, trivial⟩
  have hr0 : 0 < r.length := List.length_pos_iff.2 hr
  refine BIf.dec (fun _ => ?_) (fun h => absurd (show (0 : Int) < ((mkS r).size : Int) by omega) h)
  refine BIf.dec (fun _ => ?_) (fun h => absurd (show (0 : Int) < kk by omega) h)
  obtain ⟨m, hm⟩ : ∃ m : Nat, m = min r.length (k + 1) := ⟨_, rfl⟩
  have hmt : r.take m = r.take (k + 1) := by
    rcases Nat.le_total r.length (k + 1) with h | h
    · rw [hm, Nat.min_eq_left h, List.take_length, List.take_of_length_le h]
    · rw [hm, Nat.min_eq_right h]
  have hmd : r.drop m = r.drop (k + 1) := by
    rcases Nat.le_total r.length (k + 1) with h | h
    · rw [hm, Nat.min_eq_left h, List.drop_length, List.drop_of_length_le h]
    · rw [hm, Nat.min_eq_right h]
  refine ⟨(m : Int), by show min _ _ = _; omega, ?_⟩
  refine ⟨m, 0, rfl, rfl, by omega, Nat.zero_le _, ?_⟩
  have hx : (mkS r).extract 0 m = mkS (r.take (k + 1)) := by rw [mkS_take, hmt]
  have hd : (mkS r).extract m (mkS r).size = mkS (r.drop (k + 1)) := by rw [mkS_drop, hmd]
  have hLx : L[pre.length]? = some (mkS (r.take (k + 1))) := by
    rw [hpre, pieces_ne k hr, List.map_cons, List.getElem?_append_right (Nat.le_refl _), Nat.sub_self]
    rfl
  refine yield_ro (X := noF) (x := mkS (r.take (k + 1))) hY 0 1 rfl hJ hfo rfl hRo (by decide) (fun β => ⟨by rw [← hx]; rfl, rfl, hLx⟩) rfl (fun β w _ => ⟨trivial, fun k hk => hk.elim, fun k _ h => h.elim⟩) ?_ ?_
  · intro f2 hfo2 hJ2
    refine ⟨(mkS r).size, m, rfl, rfl, Nat.le_refl _, by omega, ?_⟩
    refine ⟨(r.drop (k + 1), pre ++ [mkS (r.take (k + 1))], f2), ⟨hJ2, ?_, by show (r.drop (k + 1)).length ≤ _; rw [List.length_drop]; omega⟩, by show (r.drop (k + 1)).length < r.length; rw [List.length_drop]; omega, ?_⟩
    · show L = (pre ++ [mkS (r.take (k + 1))]) ++ (piecesA k (r.drop (k + 1))).map mkS
      rw [hpre, pieces_ne k hr, List.map_cons, List.append_assoc]
      rfl
    · simp only [← hd]
      exact Ent.same ⟨rfl, rfl, rfl, trivial⟩ rfl
  · intro f2 hfo2 hJ2 β w' hs
    exact (hs.keepB (List.nil_sublist _)).fin [0] ⟨f2, _, rfl, .inr ⟨_, hJ2, rfl⟩⟩ rfl rfl rfl ⟨hfo2, trivial⟩
theorem groups_c (w : World) (s : ByteArray) (kk : Int) : Con Tryz.prog n_b64_Groups #[.string s, .int .i64 kk] w [] (fun v Fs => ∃ bs bk, v = .func (.func n_b64_Groups_1) #[] #[.pointer (some ⟨bs, 0, none⟩), .pointer (some ⟨bk, 0, none⟩)] ∧ Fs = [bkF bs ty_string [.string s], bkF bk ty_int [.int .i64 kk]]) := by
  refine con_of_sx (cx := cx_b64_Groups w (Un [])) (good_b64_Groups w (Un [])) b_b64_Groups rfl rfl (β := Va.z) [.c (.v (.string s)), .c (.v (.int .i64 kk))] 0 [] [] rfl rfl (Sat.start rfl) ?_
  intro β w' hs
  exact hs.ofBk.ofBk.fin [0, 1] ⟨β 0, β 1, rfl, rfl⟩
theorem valsA_app (url : Bool) : ∀ (a b : List UInt8), valsA url (a ++ b) = match valsA url a, valsA url b with | some x, some y => some (x ++ y) | _, _ => none
  | [], b => by simp only [List.nil_append, valsA]; cases valsA url b <;> rfl
  | c :: r, b => by
    rw [List.cons_append]
    simp only [valsA, valsA_app url r b]
    cases valA url c <;> cases valsA url r <;> cases valsA url b <;> rfl
theorem valsA_len {url : Bool} : ∀ {l : List UInt8} {vs : List Nat}, valsA url l = some vs → vs.length = l.length ∧ ∀ v ∈ vs, v < 64
  | [], vs, h => by
    obtain rfl := Option.some.inj h
    exact ⟨rfl, fun v hv => by cases hv⟩
  | c :: r, vs, h => by
    simp only [valsA] at h
    cases hc : valA url c with
    | none => rw [hc] at h; cases h
    | some v =>
      cases hr : valsA url r with
      | none => rw [hc, hr] at h; cases h
      | some ws =>
        rw [hc, hr] at h
        obtain rfl := Option.some.inj h
        obtain ⟨h1, h2⟩ := valsA_len hr
        refine ⟨by simp [h1], fun x hx => ?_⟩
        rcases List.mem_cons.1 hx with rfl | hx
        · exact valA_lt hc
        · exact h2 x hx
theorem decG_app : ∀ (vs ws : List Nat), vs.length % 4 = 0 → ∃ l, decG vs = some l ∧ decG (vs ++ ws) = (decG ws).map (l ++ ·)
  | [], ws, _ => ⟨[], rfl, by rw [List.nil_append]; cases decG ws <;> rfl⟩
  | [_], _, h => by simp at h
  | [_, _], _, h => by simp at h
  | [_, _, _], _, h => by simp at h
  | a :: b :: c :: d :: r, ws, h => by
    obtain ⟨l, h1, h2⟩ := decG_app r ws (by simp only [List.length_cons] at h; omega)
    refine ⟨_, by simp only [decG, h1]; rfl, ?_⟩
    simp only [List.cons_append, decG, h2]
    cases decG ws <;> simp
def vfold (vs : List Nat) : Nat := vs.foldl (fun n v => n * 64 + v) 0
def bytesN (N n : Nat) : List UInt8 := (List.range n).map fun i => u8n (N / 256 ^ (2 - i))
theorem grp2 {a b : Nat} (ha : a < 64) (hb : b < 64) : decG [a, b] = if (vfold [a, b] * 4096) % 65536 = 0 then some (bytesN (vfold [a, b] * 4096) 1) else none := by
  have e : vfold [a, b] = a * 64 + b := by simp [vfold]
  rw [e]
  have e2 : bytesN ((a * 64 + b) * 4096) 1 = [u8n (a * 4 + b / 16)] := by
    show [u8n ((a * 64 + b) * 4096 / 65536)] = _
    congr 2
    omega
  rw [e2]
  simp only [decG]
  by_cases h : b % 16 = 0
  · rw [if_pos h, if_pos (by omega)]
  · rw [if_neg h, if_neg (by omega)]
theorem u8n_mod {x y : Nat} (h : x % 256 = y % 256) : u8n x = u8n y := by
  unfold u8n
  apply UInt8.toNat_inj.1
  rw [UInt8.toNat_ofNat', UInt8.toNat_ofNat']
  exact h
theorem grp3 {a b c : Nat} (ha : a < 64) (hb : b < 64) (hc : c < 64) : decG [a, b, c] = if (vfold [a, b, c] * 64) % 256 = 0 then some (bytesN (vfold [a, b, c] * 64) 2) else none := by
  have e : vfold [a, b, c] = (a * 64 + b) * 64 + c := by simp [vfold]
  rw [e]
  have e2 : bytesN (((a * 64 + b) * 64 + c) * 64) 2 = [u8n (a * 4 + b / 16), u8n (b % 16 * 16 + c / 4)] := by
    show [u8n (((a * 64 + b) * 64 + c) * 64 / 65536), u8n (((a * 64 + b) * 64 + c) * 64 / 256)] = _
    rw [u8n_mod (x := ((a * 64 + b) * 64 + c) * 64 / 65536) (y := a * 4 + b / 16) (by omega), u8n_mod (x := ((a * 64 + b) * 64 + c) * 64 / 256) (y := b % 16 * 16 + c / 4) (by omega)]
  rw [e2]
  simp only [decG]
  by_cases h : c % 4 = 0
  · rw [if_pos h, if_pos (by omega)]
  · rw [if_neg h, if_neg (by omega)]
theorem grp4 {a b c d : Nat} (ha : a < 64) (hb : b < 64) (hc : c < 64) (hd : d < 64) : decG [a, b, c, d] = some (bytesN (vfold [a, b, c, d]) 3) := by
  have e : vfold [a, b, c, d] = ((a * 64 + b) * 64 + c) * 64 + d := by simp [vfold]
  rw [e]
  have e2 : bytesN (((a * 64 + b) * 64 + c) * 64 + d) 3 = [u8n (a * 4 + b / 16), u8n (b % 16 * 16 + c / 4), u8n (c % 4 * 64 + d)] := by
    show [u8n ((((a * 64 + b) * 64 + c) * 64 + d) / 65536), u8n ((((a * 64 + b) * 64 + c) * 64 + d) / 256), u8n ((((a * 64 + b) * 64 + c) * 64 + d) / 1)] = _
    rw [u8n_mod (x := (((a * 64 + b) * 64 + c) * 64 + d) / 65536) (y := a * 4 + b / 16) (by omega), u8n_mod (x := (((a * 64 + b) * 64 + c) * 64 + d) / 256) (y := b % 16 * 16 + c / 4) (by omega), u8n_mod (x := (((a * 64 + b) * 64 + c) * 64 + d) / 1) (y := c % 4 * 64 + d) (by omega)]
  rw [e2]
  simp [decG]
theorem pieces_at (k : Nat) : ∀ (j : Nat) (l : List UInt8) (x : List UInt8), (piecesA k l)[j]? = some x → x = (l.drop ((k + 1) * j)).take (k + 1) ∧ (k + 1) * j < l.length ∧ ((piecesA k l).take j).flatten = l.take ((k + 1) * j)
  | j, l, x, h => by
    by_cases hl : l = []
    · rw [hl, pieces_nil] at h; simp at h
    · have h0 : 0 < l.length := List.length_pos_iff.2 hl
      rw [pieces_ne k hl] at h ⊢
      cases j with
      | zero =>
        obtain rfl : l.take (k + 1) = x := by simpa using h
        exact ⟨by simp, by simpa using h0, by simp⟩
      | succ j =>
        have h' : (piecesA k (l.drop (k + 1)))[j]? = some x := by simpa using h
        obtain ⟨h1, h2, h3⟩ := pieces_at k j (l.drop (k + 1)) x h'
        rw [List.length_drop] at h2
        refine ⟨?_, by rw [Nat.mul_succ]; omega, ?_⟩
        · rw [h1, List.drop_drop, Nat.mul_succ, Nat.add_comm (k + 1)]
        · rw [List.take_succ_cons, List.flatten_cons, h3, Nat.mul_succ, Nat.add_comm ((k + 1) * j) (k + 1)]
          exact List.take_add.symm
theorem pieces_flat (k : Nat) : ∀ (m : Nat) (l : List UInt8), l.length ≤ m → (piecesA k l).flatten = l
  | 0, l, h => by
    obtain rfl : l = [] := List.length_eq_zero_iff.1 (by omega)
    rw [pieces_nil]; rfl
  | m + 1, l, h => by
    by_cases hl : l = []
    · rw [hl, pieces_nil]; rfl
    · have h0 : 0 < l.length := List.length_pos_iff.2 hl
      rw [pieces_ne k hl, List.flatten_cons, pieces_flat k m _ (by rw [List.length_drop]; omega), List.take_append_drop]
theorem or6_i64 {x y : Nat} (hx : x < 33554432) (hy : y < 64) : bits .or .i64 ((x * 64 : Nat) : Int) (y : Int) = ((x * 64 + y : Nat) : Int) := by
  show IntKind.i64.wrap (((BitVec.ofInt 64 ((x * 64 : Nat) : Int)) ||| (BitVec.ofInt 64 (y : Int))).toNat : Int) = _
  have h1 : (BitVec.ofInt 64 ((x * 64 : Nat) : Int)).toNat = x <<< 6 := by
    rw [BitVec.toNat_ofInt, Nat.shiftLeft_eq]
    omega
  have h2 : (BitVec.ofInt 64 (y : Int)).toNat = y := by
    rw [BitVec.toNat_ofInt]
    omega
  rw [BitVec.toNat_or, h1, h2, ← Nat.shiftLeft_add_eq_or_of_lt (by omega) x, Nat.shiftLeft_eq, wrap_i64 (by omega) (by omega)]
theorem and_i64 {x k : Nat} (hx : x < 33554432) (hk : k ≤ 20) : bits .and .i64 (x : Int) ((2 ^ k - 1 : Nat) : Int) = ((x % 2 ^ k : Nat) : Int) := by
  show IntKind.i64.wrap (((BitVec.ofInt 64 (x : Int)) &&& (BitVec.ofInt 64 ((2 ^ k - 1 : Nat) : Int))).toNat : Int) = _
  have hp : 2 ^ k ≤ 2 ^ 20 := Nat.pow_le_pow_right (by decide) hk
  have h1 : (BitVec.ofInt 64 (x : Int)).toNat = x := by
    rw [BitVec.toNat_ofInt]
    omega
  have h2 : (BitVec.ofInt 64 ((2 ^ k - 1 : Nat) : Int)).toNat = 2 ^ k - 1 := by
    rw [BitVec.toNat_ofInt]
    omega
  have h3 := Nat.mod_lt x (show 0 < 2 ^ k from Nat.pos_of_ne_zero (by simp))
  rw [BitVec.toNat_and, h1, h2, Nat.and_two_pow_sub_one_eq_mod, wrap_i64 (by omega) (by omega)]
theorem letA_1 {url : Bool} {n : Nat} (h : n < 26) : letA url n = UInt8.ofNat (65 + n) := by unfold letA; rw [if_pos h]
theorem letA_2 {url : Bool} {n : Nat} (h1 : ¬ n < 26) (h : n < 52) : letA url n = UInt8.ofNat (97 + n - 26) := by unfold letA; rw [if_neg h1, if_pos h]
theorem letA_3 {url : Bool} {n : Nat} (h1 : ¬ n < 26) (h2 : ¬ n < 52) (h : n < 62) : letA url n = UInt8.ofNat (48 + n - 52) := by unfold letA; rw [if_neg h1, if_neg h2, if_pos h]
theorem byte_of {k : Nat} (h : k < 256) : Value.int .u8 ((k : Nat) : Int) = byte (UInt8.ofNat k) := by
  unfold byte
  congr 2
  rw [UInt8.toNat_ofNat']
  omega
theorem letter_c (w : World) (n : Nat) (url : Bool) (hn : n < 64) : Pu Tryz.prog n_ostiaryref03_letter #[.int .i64 (n : Int), .bool url] w (byte (letA url n)) := by
  have g := good_ostiaryref03_letter w (Un [])
  refine con_of_sx (cx := cx_ostiaryref03_letter w (Un [])) g b_ostiaryref03_letter rfl rfl (β := Va.z) [.c (.v (.int .i64 (n : Int))), .c (.v (.bool url))] 0 [] [] rfl rfl (Sat.start rfl) ?_
  refine BIf.dec (fun h1 => ?_) (fun h1 => ?_)
  · have h10 : (n : Int) < 26 := h1
    rw [letA_1 (by omega)]
    refine ⟨(((65 + n) : Nat) : Int), by rw [wrap_i64 (by omega) (by omega)]; rfl, ?_⟩
    refine ⟨((65 + n : Nat) : Int), by rw [IntKind.wrap_u8]; omega, ?_⟩
    intro β w' hs
    exact hs.fin [] ⟨byte_of (by omega), rfl⟩
  have h10 : ¬ (n : Int) < 26 := h1
  refine BIf.dec (fun h2 => ?_) (fun h2 => ?_)
  · have h20 : (n : Int) < 52 := h2
    rw [letA_2 (by omega) (by omega)]
    refine ⟨(((97 + n) : Nat) : Int), by rw [wrap_i64 (by omega) (by omega)]; rfl, ?_⟩
    refine ⟨(((97 + n - 26) : Nat) : Int), by rw [wrap_i64 (by omega) (by omega)]; omega, ?_⟩
    refine ⟨((97 + n - 26 : Nat) : Int), by rw [IntKind.wrap_u8]; omega, ?_⟩
    intro β w' hs
    exact hs.fin [] ⟨byte_of (by omega), rfl⟩
  have h20 : ¬ (n : Int) < 52 := h2
  refine BIf.dec (fun h3 => ?_) (fun h3 => ?_)
  · have h30 : (n : Int) < 62 := h3
    rw [letA_3 (by omega) (by omega) (by omega)]
    refine ⟨(((48 + n) : Nat) : Int), by rw [wrap_i64 (by omega) (by omega)]; rfl, ?_⟩
    refine ⟨(((48 + n - 52) : Nat) : Int), by rw [wrap_i64 (by omega) (by omega)]; omega, ?_⟩
    refine ⟨((48 + n - 52 : Nat) : Int), by rw [IntKind.wrap_u8]; omega, ?_⟩
    intro β w' hs
    exact hs.fin [] ⟨byte_of (by omega), rfl⟩
  have h30 : ¬ (n : Int) < 62 := h3
  refine BIf.dec (fun h4 => ?_) (fun h4 => ?_)
  · have h40 : (n : Int) = 62 := h4
    obtain rfl : n = 62 := by omega
    cases url with
    | true =>
      intro β w' hs
      exact hs.fin [] ⟨by rfl, rfl⟩
    | false =>
      intro β w' hs
      exact hs.fin [] ⟨by rfl, rfl⟩
  · have h40 : ¬ (n : Int) = 62 := h4
    obtain rfl : n = 63 := by omega
    cases url with
    | true =>
      intro β w' hs
      exact hs.fin [] ⟨by rfl, rfl⟩
    | false =>
      intro β w' hs
      exact hs.fin [] ⟨by rfl, rfl⟩
theorem find_at {url : Bool} {c : UInt8} {i : Nat} (h : i < 64) (hno : ∀ k, k < i → letA url k ≠ c) (hi : letA url i = c) : valA url c = some i := by
  rw [val_let, List.find?_range_eq_some]
  exact ⟨by simpa using hi, List.mem_range.2 h, fun j hj => by simpa using hno j hj⟩
theorem find_no {url : Bool} {c : UInt8} (hno : ∀ k, k < 64 → letA url k ≠ c) : valA url c = none := by
  rw [val_let, List.find?_eq_none]
  intro k hk
  simpa using hno k (List.mem_range.1 hk)
theorem number3_c (w : World) (c : UInt8) (url : Bool) : Pu Tryz.prog n_ostiaryref03_number #[byte c, .bool url] w (.int .i64 (valV url c)) := by
  have g := good_ostiaryref03_number w (Un [])
  refine con_of_sx (cx := cx_ostiaryref03_number w (Un [])) g b_ostiaryref03_number rfl rfl (β := Va.z) [.c (.v (byte c)), .c (.v (.bool url))] 0 [] [] rfl rfl (Sat.start rfl) ?_
  refine loop_rule (ι := Nat) 0 (fun j => [(0, .c (.v (byte c))), (1, .c (.v (.bool url))), (5, .c (.v (.int .i64 (j : Int))))]) (fun _ => []) (fun _ => [])
    (fun j => j ≤ 64 ∧ ∀ k, k < j → letA url k ≠ c) (fun j => 64 - j) (0 : Nat) ⟨Nat.zero_le _, fun k hk => absurd hk (Nat.not_lt_zero _)⟩ (Ent.mk' ⟨rfl, rfl, rfl, trivial⟩ rfl (fun β w' hs => hs)) g ?_
  rintro j ⟨hj, hno⟩
  refine BIf.dec (fun hlt => ?_) (fun hge => ?_)
  · have hlt0 : (j : Int) < 64 := hlt
    refine call_pu (fun β w' hs => letter_c w' j url (by omega)) ?_
    refine BIf.dec (fun he => ?_) (fun hne => ?_)
    · have he0 : letA url j = c := UInt8.toNat_inj.1 (Int.ofNat_inj.1 he)
      intro β w' hs
      refine hs.fin [] ⟨?_, rfl⟩
      unfold valV
      rw [find_at (by omega) hno he0]
      rfl
    · have hne0 : letA url j ≠ c := fun q => hne (by rw [q])
      refine ⟨((j + 1 : Nat) : Int), by rw [wrap_i64 (by omega) (by omega)]; rfl, ?_⟩
      exact ⟨j + 1, ⟨by omega, fun k hk => by
        rcases Nat.lt_or_ge k j with q | q
        · exact hno k q
        · obtain rfl : k = j := by omega
          exact hne0⟩, by omega, Ent.mk' ⟨rfl, rfl, rfl, trivial⟩ rfl (fun β w' hs => hs)⟩
  · have hge0 : ¬ (j : Int) < 64 := hge
    obtain rfl : j = 64 := by omega
    intro β w' hs
    refine hs.fin [] ⟨?_, rfl⟩
    unfold valV
    rw [find_no hno]
    rfl
theorem valsA_none {url : Bool} {c : UInt8} (hc : valA url c = none) : ∀ {l : List UInt8}, c ∈ l → valsA url l = none
  | x :: r, h => by
    simp only [valsA]
    rcases List.mem_cons.1 h with rfl | h
    · rw [hc]
    · rw [valsA_none hc h]
      cases valA url x <;> rfl
theorem vfold_snoc (ws : List Nat) (v : Nat) : vfold (ws ++ [v]) = vfold ws * 64 + v := by simp [vfold]
theorem vfold_lt : ∀ (k : Nat) (ws : List Nat), ws.length = k → (∀ v ∈ ws, v < 64) → vfold ws < 64 ^ k
  | 0, ws, h, _ => by
    obtain rfl := List.eq_nil_of_length_eq_zero h
    decide
  | k + 1, ws, h, hv => by
    have hne : ws ≠ [] := fun e => by rw [e] at h; cases h
    obtain ⟨us, v, rfl⟩ : ∃ us v, ws = us ++ [v] := ⟨ws.dropLast, ws.getLast hne, (List.dropLast_concat_getLast hne).symm⟩
    have h1 := vfold_lt k us (by rw [List.length_append] at h; simpa using h) (fun x hx => hv x (List.mem_append_left _ hx))
    have h2 := hv v (by simp)
    rw [vfold_snoc, Nat.pow_succ]
    omega
theorem grpZ {ws : List Nat} (h2 : 2 ≤ ws.length) (h4 : ws.length ≤ 4) (hw : ∀ v ∈ ws, v < 64) : decG ws = if (vfold ws * 2 ^ (6 * (4 - ws.length))) % 2 ^ (8 * (4 - ws.length)) = 0 then some (bytesN (vfold ws * 2 ^ (6 * (4 - ws.length))) (ws.length - 1)) else none := by
  match ws, h2, h4, hw with
  | [a, b], _, _, hw => exact grp2 (hw a (by simp)) (hw b (by simp))
  | [a, b, c], _, _, hw => exact grp3 (hw a (by simp)) (hw b (by simp)) (hw c (by simp))
  | [a, b, c, d], _, _, hw =>
    have h := grp4 (hw a (by simp)) (hw b (by simp)) (hw c (by simp)) (hw d (by simp))
    rw [h]
    show _ = if (vfold [a, b, c, d] * 1) % 1 = 0 then some (bytesN (vfold [a, b, c, d] * 1) 3) else none
    rw [Nat.mul_one, if_pos (Nat.mod_one _)]
  | _ :: _ :: _ :: _ :: _ :: _, _, h4, _ => simp at h4
structure DcS where
  out : List UInt8
  A : Option Addr
  c : Nat
  e : Int
structure DcS.Ok (i : DcS) (url : Bool) (L : List ByteArray) (pre : List ByteArray) : Prop where
  eq : pre = L.take pre.length
  vs : ∃ vs, valsA url (pre.map (·.data.toList)).flatten = some vs ∧ ((i.e = 0 ∧ decG vs = some i.out) ∨ (i.e = 4 ∧ decG vs = none))
  len : i.out.length ≤ 3 * pre.length
def decOut (url : Bool) (s : List UInt8) (v : Value) (Fs : List Fact) : Prop := ∃ A l c e, v = .tuple #[.slice A l.length c, .int .i64 e] ∧ ((e = 0 ∧ decS url s = some l) ∨ (e ≠ 0 ∧ decS url s = none)) ∧ l.length ≤ c ∧ Fs = [browF ty_uint8 A l c]
theorem brow_cap {e : Nat} {c : Nat} {A : Option Addr} {l : List UInt8} {w : World} (h : (browF e A l c).p w) : l.length ≤ c := by
  rcases h.2 with ⟨_, h0⟩ | ⟨g, cap, cur, he, _, _, hnc, _⟩
  · omega
  · injection he with _ _ h3
    omega
theorem bytesN_succ (N n : Nat) : bytesN N (n + 1) = bytesN N n ++ [u8n (N / 256 ^ (2 - n))] := by
  unfold bytesN
  rw [List.range_succ, List.map_append]
  rfl
theorem bytesN_len (N n : Nat) : (bytesN N n).length = n := by simp [bytesN]
theorem shr_i64 {X k : Nat} (hk : k ≤ 2) : ((X : Int)).fdiv (2 ^ min (8 * (2 - (k : Int))).toNat IntKind.i64.bits) = ((X / 256 ^ (2 - k) : Nat) : Int) := by
  rw [show (8 * (2 - (k : Int))).toNat = 8 * (2 - k) by omega, show min (8 * (2 - k)) IntKind.i64.bits = 8 * (2 - k) from Nat.min_eq_left (by show _ ≤ 64; omega), show ((2 : Int) ^ (8 * (2 - k))) = ((256 ^ (2 - k) : Nat) : Int) by rw [show (256 : Nat) = 2 ^ 8 from rfl, ← Nat.pow_mul]; simp]
  rw [Int.fdiv_eq_ediv_of_nonneg _ (Int.natCast_nonneg _)]
  rfl
set_option maxHeartbeats 1000000 in
theorem b64dec_c (w : World) (al s : ByteArray) (url : Bool) (ha : Alph al url) (hL : s.size ≤ 1000000) (hs1 : s.size % 4 ≠ 1) : Con Tryz.prog n_b64_decode #[.string al, .string s] w [] (decOut url s.data.toList) := by
  have g := good_b64_decode w (Un [])
  have hml := maxLen_eq
  refine con_of_sx (cx := cx_b64_decode w (Un [])) g b_b64_decode rfl rfl (β := Va.z) [.c (.v (.string al)), .c (.v (.string s))] 0 [] [] rfl rfl (Sat.start rfl) ?_
  refine call_con [] (fun β w' hs => groups_c w' s 4) ?_
  rintro v Fs ⟨bs, bk, rfl, rfl⟩
  obtain ⟨s0, hs0⟩ : ∃ s0, s.data.toList = s0 := ⟨_, rfl⟩
  have hss : s = mkS s0 := by rw [← hs0, mkS_of]
  have hsl : s0.length = s.size := by rw [hss, mkS_sz]
  rw [hss] at hs1
  rw [mkS_sz] at hs1
  rw [hs0]
  obtain ⟨L, hLd⟩ : ∃ L, (piecesA 3 s0).map mkS = L := ⟨_, rfl⟩
  have hLL : L.length ≤ 1000000 := by
    have h := pieces_len 3 _ s0 (Nat.le_refl _)
    rw [← hLd, List.length_map]
    omega
  refine range_rule (α := ByteArray) (ι := DcS) (κ := Unit) g rfl (cv := [.pointer (some ⟨bs, 0, none⟩), .pointer (some ⟨bk, 0, none⟩)]) rfl (by kernel_rfl) 3 (Nat.le_refl 3)
    (fun pre i => i.Ok url L pre) (fun i => [⟨2, ty_api_Errno, [.v (.int .i64 i.e)]⟩, ⟨1, ty_sl_uint8, [.v (.slice i.A i.out.length i.c)]⟩, ⟨0, ty_string, [.v (.string al)]⟩]) (fun i => [browF ty_uint8 i.A i.out i.c]) (fun i => ⟨rfl, trivial⟩)
    (fun e pre _ => e = .exit 0 ∧ decS url s0 = none) (fun _ => [⟨2, ty_api_Errno, [.v (.int .i64 5)]⟩]) (fun _ => []) (fun _ => trivial)
    [bkF bs ty_string [.string s], bkF bk ty_int [.int .i64 4]] [] [] ⟨rfl, rfl, trivial⟩ (fun g h => by cases h) ⟨[], none, 0, 0⟩ ⟨rfl, ⟨[], rfl, .inl ⟨rfl, rfl⟩⟩, Nat.le_refl _⟩
    (fun β w hs => ⟨β, Agr.refl _ _, (hs.nilRow ty_uint8 1).perm [1, 2, 0]⟩) (insS L)
    (fun xs Fs' => xs = L ∧ Fs' = []) (fun _ Fs' => Fs' = [])
    (fun l w f0 R J Jx hJ0 hJo hRo hY hm => by
      rw [hss] at hm
      have h := grp_it l w bs bk 3 s0 f0 R J Jx 4 rfl (by decide) (by omega) hJ0 hJo hRo (by rw [hLd]; exact hY) hm
      rw [hLd, ← hss] at h
      exact h) ?_ ?_ ?_
  · rintro ⟨out, A, c, e⟩ pre x args X W S' lb bs' pn pn' hbs hok ⟨rfl, rfl, hx⟩
    obtain ⟨cs, hcs, rfl⟩ : ∃ cs, (piecesA 3 s0)[pre.length]? = some cs ∧ x = mkS cs := by
      rw [← hLd, List.getElem?_map] at hx
      obtain ⟨cs, h1, h2⟩ := Option.map_eq_some_iff.1 hx
      exact ⟨cs, h1, h2.symm⟩
    obtain ⟨p1, p2, p3⟩ := pieces_at 3 _ _ _ hcs
    have hpf : (pre.map (·.data.toList)).flatten = s0.take (4 * pre.length) := by
      conv => lhs; rw [hok.eq]
      rw [← hLd, ← List.map_take, List.map_map, show ((fun b : ByteArray => b.data.toList) ∘ mkS) = id from funext fun l => by simp [mkS], List.map_id]
      have h := p3
      rw [show pre.length = pre.length from rfl] at h
      exact h
    obtain ⟨vs, hv1, hv2⟩ := hok.vs
    rw [hpf] at hv1
    have hvl := valsA_len hv1
    have hv4 : vs.length % 4 = 0 := by rw [hvl.1, List.length_take]; omega
    have hcl : cs.length = min 4 (s0.length - 4 * pre.length) := by rw [p1, List.length_take, List.length_drop]
    have hnext : (pre.map (·.data.toList) ++ [cs]).flatten = s0.take (4 * pre.length) ++ cs := by rw [List.flatten_append, hpf]; simp
    have hdm : (mkS cs).data.toList = cs := by simp [mkS]
    have hcz := mkS_sz cs
    refine ⟨_, rfl, ?_⟩
    have hc4 : cs.length ≤ 4 := by omega
    have hc2 : 2 ≤ cs.length := by omega
    intro b1
    intro b2
    intro q1
    intro q2
    refine loop_rule (ι := Nat × Nat) 3 (fun j => [(2, .c (.p 0 0)), (6, .c (.p 1 0)), (7, .c (.p 2 0)), (8, .c (.v (.string (mkS cs)))), (9, .c (.v (.int .i64 (j.2 : Int)))), (19, .c (.v (.slice (some ⟨b1, 0, none⟩) (mkS cs).size b2))), (20, .c (.v (.int .i64 ((mkS cs).size : Int)))), (21, .c (.v (.int .i64 (j.1 : Int))))])
      (fun _ => [⟨2, ty_api_Errno, [.v (.int .i64 e)]⟩, ⟨1, ty_sl_uint8, [.v (.slice A out.length c)]⟩, ⟨0, ty_string, [.v (.string al)]⟩]) (fun _ => [rdoF 1 (some ⟨b1, 0, none⟩) (mkS cs).size ((mkS cs).data.toList.map byte), browF ty_uint8 A out c])
      (fun j => j.1 ≤ cs.length ∧ ∃ ws, valsA url (cs.take j.1) = some ws ∧ j.2 = vfold ws) (fun j => cs.length - j.1) (0, 0) ⟨Nat.zero_le _, [], rfl, rfl⟩ (Ent.mk' ⟨rfl, rfl, rfl, rfl, rfl, rfl, rfl, rfl, trivial⟩ rfl (fun β w' hs => hs.perm [0, 2])) (rcx_good g) ?_
    rintro ⟨j, N⟩ ⟨hj, ws, hws, hN⟩
    simp only at hj hws hN
    have hwl := valsA_len hws
    have hNl : N < 16777216 := by
      have h := vfold_lt _ ws rfl hwl.2
      rw [← hN, hwl.1, List.length_take] at h
      exact Nat.lt_of_lt_of_le h (Nat.le_trans (Nat.pow_le_pow_right (by decide) (show min j cs.length ≤ 4 by omega)) (by decide))
    refine BIf.dec (fun hlt => ?_) (fun hge => ?_)
    · have hlt0 : (j : Int) < ((mkS cs).size : Int) := hlt
      obtain ⟨y, hy, hym⟩ := at_lt (show j < cs.length by omega)
      have htk : cs.take (j + 1) = cs.take j ++ [y] := by rw [List.take_add_one, hy]; rfl
      refine ⟨_, j, rfl, rfl, by omega, ?_⟩
      refine ⟨byte y, fun β w' hs => Rd.cell1 (show Rd 1 (some ⟨b1, 0, none⟩) (mkS cs).size ((mkS cs).data.toList.map byte) w' from hs.get 0 rfl) (by rw [hdm, List.getElem?_map, hy]; rfl), ?_⟩
      have hval := fun w' => value_c w' al url y ha
      unfold valV at hval
      cases hvy : valA url y with
      | none =>
        rw [hvy] at hval
        refine call_pu (v := .int .i64 (-1)) (fun β w' hs => hval w') ?_
        refine ⟨(), ⟨rfl, ?_⟩, Ent.mk' trivial rfl (fun β w hs => ((hs.keepB (List.Sublist.cons_cons _ (List.nil_sublist _))).perm []).lower)⟩
        have hym0 : y ∈ s0 := by
          rw [p1] at hym
          exact List.mem_of_mem_drop (List.mem_of_mem_take hym)
        unfold decS
        rw [valsA_none hvy hym0]
        rfl
      | some v =>
        rw [hvy] at hval
        have hv64 := valA_lt hvy
        refine call_pu (v := .int .i64 (v : Int)) (fun β w' hs => hval w') ?_
        refine ⟨by decide, ((N * 64 : Nat) : Int), ?_, ?_⟩
        · rw [show min (6 : Int).toNat IntKind.i64.bits = 6 from rfl, wrap_i64 (by omega) (by omega)]; omega
        refine ⟨((N * 64 + v : Nat) : Int), or6_i64 (by omega) hv64, ?_⟩
        refine ⟨((j + 1 : Nat) : Int), by rw [wrap_i64 (by omega) (by omega)]; rfl, ?_⟩
        refine ⟨(j + 1, N * 64 + v), ⟨by show j + 1 ≤ cs.length; omega, ws ++ [v], ?_, by show N * 64 + v = _; rw [vfold_snoc, ← hN]⟩, by show cs.length - (j + 1) < cs.length - j; omega, Ent.same ⟨rfl, rfl, rfl, rfl, rfl, rfl, rfl, rfl, trivial⟩ rfl⟩
        show valsA url (cs.take (j + 1)) = _
        rw [htk, valsA_app, hws]
        simp only [valsA, hvy]
    · have hge0 : ¬ (j : Int) < ((mkS cs).size : Int) := hge
      have hjc : cs.take j = cs := List.take_of_length_le (by omega)
      rw [hjc] at hws
      have hwlen : ws.length = cs.length := (valsA_len hws).1
      have hw64 := (valsA_len hws).2
      obtain ⟨l0, hd0, hd1⟩ := decG_app vs ws hv4
      obtain ⟨he0, ho0⟩ : e = 0 ∧ out = l0 := by
        rcases hv2 with ⟨q, q'⟩ | ⟨q, q'⟩
        · rw [hd0] at q'
          exact ⟨q, (Option.some.inj q').symm⟩
        · rw [hd0] at q'; cases q'
      subst he0 ho0
      have hvall : valsA url (pre.map (·.data.toList) ++ [cs]).flatten = some (vs ++ ws) := by
        rw [hnext, valsA_app, hv1, hws]
      obtain ⟨X, hX⟩ : ∃ X : Nat, X = N * 2 ^ (6 * (4 - cs.length)) := ⟨_, rfl⟩
      have hgz := grpZ (ws := ws) (by omega) (by omega) hw64
      rw [← hN, hwlen, ← hX] at hgz
      have hXl : X < 16777216 := by
        have h := vfold_lt _ ws rfl hw64
        rw [← hN, hwlen] at h
        rw [hX, show (16777216 : Nat) = 64 ^ cs.length * 2 ^ (6 * (4 - cs.length)) by rw [show (64 : Nat) = 2 ^ 6 from rfl, ← Nat.pow_mul, ← Nat.pow_add, show 6 * cs.length + 6 * (4 - cs.length) = 24 by omega]]
        exact Nat.mul_lt_mul_of_pos_right h (Nat.pow_pos (by decide))
      have hpw : 2 ^ (8 * (4 - cs.length)) ≤ 2 ^ 16 := Nat.pow_le_pow_right (by decide) (by omega)
      have hpw0 : 0 < 2 ^ (8 * (4 - cs.length)) := Nat.pow_pos (by decide)
      refine ⟨(((4 - (mkS cs).size) : Nat) : Int), by rw [wrap_i64 (by omega) (by omega)]; omega, ?_⟩
      refine ⟨_, wrap_i64 (by omega) (by omega), ?_⟩
      refine ⟨by first | decide | omega, ?_⟩
      refine ⟨(X : Int), ?_, ?_⟩
      · rw [show (6 * ((4 - (mkS cs).size : Nat) : Int)).toNat = 6 * (4 - cs.length) by omega, show min (6 * (4 - cs.length)) IntKind.i64.bits = 6 * (4 - cs.length) from Nat.min_eq_left (by show _ ≤ 64; omega)]
        have e : ((N : Int) * 2 ^ (6 * (4 - cs.length))) = (X : Int) := by rw [hX]; simp
        show IntKind.i64.wrap ((N : Int) * 2 ^ (6 * (4 - cs.length))) = _
        rw [e, wrap_i64 (by omega) (by omega)]
      refine ⟨(((4 - (mkS cs).size) : Nat) : Int), by rw [wrap_i64 (by omega) (by omega)]; omega, ?_⟩
      refine ⟨_, wrap_i64 (by omega) (by omega), ?_⟩
      refine ⟨by first | decide | omega, ?_⟩
      refine ⟨((2 ^ (8 * (4 - cs.length)) : Nat) : Int), ?_, ?_⟩
      · rw [show (8 * ((4 - (mkS cs).size : Nat) : Int)).toNat = 8 * (4 - cs.length) by omega, show min (8 * (4 - cs.length)) IntKind.i64.bits = 8 * (4 - cs.length) from Nat.min_eq_left (by show _ ≤ 64; omega)]
        have e : ((1 : Int) * 2 ^ (8 * (4 - cs.length))) = ((2 ^ (8 * (4 - cs.length)) : Nat) : Int) := by simp
        rw [e, wrap_i64 (by omega) (by omega)]
      refine ⟨((2 ^ (8 * (4 - cs.length)) - 1 : Nat) : Int), by rw [wrap_i64 (by omega) (by omega)]; omega, ?_⟩
      refine ⟨((X % 2 ^ (8 * (4 - cs.length)) : Nat) : Int), and_i64 (by omega) (by omega), ?_⟩
      conv => whnf
      generalize hq : decide (((mkS cs).size : Int) < 4) = bq
      cases bq
      · refine ⟨((((mkS cs).size - 1) : Nat) : Int), by rw [wrap_i64 (by omega) (by omega)]; omega, ?_⟩
        have hne : ¬ (((mkS cs).size : Int) < 4) := of_decide_eq_false hq
        have h0 : X % 2 ^ (8 * (4 - cs.length)) = 0 := by rw [show cs.length = 4 by omega]; exact Nat.mod_one _
        rw [if_pos h0] at hgz
        refine loop_rule (ι := Option Addr × Nat × Nat × List UInt8) 3 (fun j => [(2, .c (.p 0 0)), (6, .c (.p 1 0)), (7, .c (.p 2 0)), (9, .c (.v (.int .i64 (X : Int)))), (58, .c (.v (.int .i64 (((mkS cs).size - 1 : Nat) : Int)))), (59, .c (.v (.int .i64 (j.2.2.1 : Int))))])
          (fun j => [⟨2, ty_api_Errno, [.v (.int .i64 0)]⟩, ⟨1, ty_sl_uint8, [.v (.slice j.1 j.2.2.2.length j.2.1)]⟩, ⟨0, ty_string, [.v (.string al)]⟩]) (fun j => [browF ty_uint8 j.1 j.2.2.2 j.2.1])
          (fun j => j.2.2.1 ≤ cs.length - 1 ∧ j.2.2.2 = out ++ bytesN X j.2.2.1) (fun j => cs.length - j.2.2.1) (A, c, 0, out) ⟨Nat.zero_le _, (List.append_nil _).symm⟩ (Ent.mk' ⟨rfl, rfl, rfl, rfl, rfl, rfl, trivial⟩ rfl (fun β w' hs => (hs.keepB (List.Sublist.refl _)).perm [1])) (rcx_good g) ?_
        rintro ⟨A1, c1, k, l1⟩ ⟨hk, hl1⟩
        simp only at hk hl1
        have hl1l : l1.length = out.length + k := by rw [hl1, List.length_append, bytesN_len]
        refine BIf.dec (fun hlt => ?_) (fun hge => ?_)
        · have hlt0 : (k : Int) < (((mkS cs).size - 1 : Nat) : Int) := hlt
          refine draw_rule (rcx_good g) p_b64_decode_21 (by kernel_rfl) [⟨2, ty_api_Errno, [.v (.int .i64 0)]⟩, ⟨1, ty_sl_uint8, [.v (.slice A1 l1.length c1)]⟩, ⟨0, ty_string, [.v (.string al)]⟩] [] (Sub.of (List.Sublist.refl _) (List.nil_sublist _)) ?_
          refine ⟨_, wrap_i64 (by omega) (by omega), ?_⟩
          refine ⟨_, wrap_i64 (by omega) (by omega), ?_⟩
          refine ⟨by first | decide | omega, ?_⟩
          refine ⟨((X / 256 ^ (2 - k) : Nat) : Int), shr_i64 (by omega), ?_⟩
          refine ⟨((u8n (X / 256 ^ (2 - k))).toNat : Int), wrap_u8n _, ?_⟩
          intro b3
          refine ⟨subPerm [], ?_⟩
          have hol := hok.len
          have hol2 : out.length ≤ 3 * pre.length := hol
          have hpl : pre.length < L.length := by
            rcases Nat.lt_or_ge pre.length L.length with h | h
            · exact h
            · rw [List.getElem?_eq_none h] at hx; cases hx
          obtain ⟨l2, hl2⟩ : ∃ l2, l2 = l1 ++ [u8n (X / 256 ^ (2 - k))] := ⟨_, rfl⟩
          have hl2l : l1.length + 1 = l2.length := by rw [hl2, List.length_append]; rfl
          refine ⟨1, l1.length, l2.length, _, [u8n (X / 256 ^ (2 - k))].map byte, l2.map byte, rfl, fun β w' hs => row_rd (hs.get 0 rfl), bytes_one _, hl2l, by rw [hl2, List.map_append], by rw [maxLen_eq]; omega, by show l2.length * 1 ≤ _; omega, ?_⟩
          intro A2 c2 r1 r2 r3
          refine ⟨subPerm [], ?_⟩
          refine ⟨(((k + 1) : Nat) : Int), by rw [wrap_i64 (by omega) (by omega)]; rfl, ?_⟩
          exact ⟨(A2, c2, k + 1, l2), ⟨by show k + 1 ≤ _; omega, by show l2 = _; rw [hl2, hl1, bytesN_succ, List.append_assoc]⟩, by show cs.length - (k + 1) < cs.length - k; omega, Ent.mk' ⟨rfl, rfl, rfl, rfl, rfl, rfl, trivial⟩ rfl (fun β w' hs => hs.perm [1])⟩
        · have hge0 : ¬ (k : Int) < (((mkS cs).size - 1 : Nat) : Int) := hge
          have hkk : k = cs.length - 1 := by omega
          refine ⟨⟨l1, A1, c1, 0⟩, ⟨?_, ?_, ?_⟩, Ent.mk' trivial rfl (fun β w' hs => hs)⟩
          · show pre ++ [mkS cs] = L.take (pre ++ [mkS cs]).length
            rw [List.length_append, List.length_singleton, List.take_add_one, hx, ← hok.eq]
            rfl
          · refine ⟨vs ++ ws, by rw [List.map_append, List.map_singleton, hdm]; exact hvall, ?_⟩
            rw [hd1]
            have hh : ((0 : Int) = 0 ∧ decG ws = some (bytesN X (cs.length - 1))) ∨ ((0 : Int) = 4 ∧ decG ws = none) := (Or.inl (⟨rfl, hgz⟩ : (0 : Int) = 0 ∧ decG ws = some (bytesN X (cs.length - 1))))
            rcases hh with ⟨q1, q2⟩ | ⟨q1, q2⟩
            · exact .inl ⟨q1, by rw [q2, hl1, hkk]; rfl⟩
            · exact .inr ⟨q1, by rw [q2]; rfl⟩
          · have h := hok.len
            show l1.length ≤ 3 * (pre ++ [mkS cs]).length
            rw [hl1l, List.length_append, List.length_singleton]
            have h2 : out.length ≤ 3 * pre.length := h
            omega
      · have hlt4 : ((mkS cs).size : Int) < 4 := of_decide_eq_true hq
        conv => whnf
        generalize hq2 : decide (((X % 2 ^ (8 * (4 - cs.length)) : Nat) : Int) = 0) = bz
        cases bz
        · have he0 : ¬ ((X % 2 ^ (8 * (4 - cs.length)) : Nat) : Int) = 0 := of_decide_eq_false hq2
          rw [if_neg (show ¬ X % 2 ^ (8 * (4 - cs.length)) = 0 by omega)] at hgz
          refine ⟨((((mkS cs).size - 1) : Nat) : Int), by rw [wrap_i64 (by omega) (by omega)]; omega, ?_⟩
          refine loop_rule (ι := Option Addr × Nat × Nat × List UInt8) 3 (fun j => [(2, .c (.p 0 0)), (6, .c (.p 1 0)), (7, .c (.p 2 0)), (9, .c (.v (.int .i64 (X : Int)))), (58, .c (.v (.int .i64 (((mkS cs).size - 1 : Nat) : Int)))), (59, .c (.v (.int .i64 (j.2.2.1 : Int))))])
            (fun j => [⟨2, ty_api_Errno, [.v (.int .i64 4)]⟩, ⟨1, ty_sl_uint8, [.v (.slice j.1 j.2.2.2.length j.2.1)]⟩, ⟨0, ty_string, [.v (.string al)]⟩]) (fun j => [browF ty_uint8 j.1 j.2.2.2 j.2.1])
            (fun j => j.2.2.1 ≤ cs.length - 1 ∧ j.2.2.2 = out ++ bytesN X j.2.2.1) (fun j => cs.length - j.2.2.1) (A, c, 0, out) ⟨Nat.zero_le _, (List.append_nil _).symm⟩ (Ent.mk' ⟨rfl, rfl, rfl, rfl, rfl, rfl, trivial⟩ rfl (fun β w' hs => (hs.keepB (List.Sublist.refl _)).perm [1])) (rcx_good g) ?_
          rintro ⟨A1, c1, k, l1⟩ ⟨hk, hl1⟩
          simp only at hk hl1
          have hl1l : l1.length = out.length + k := by rw [hl1, List.length_append, bytesN_len]
          refine BIf.dec (fun hlt => ?_) (fun hge => ?_)
          · have hlt0 : (k : Int) < (((mkS cs).size - 1 : Nat) : Int) := hlt
            refine draw_rule (rcx_good g) p_b64_decode_21 (by kernel_rfl) [⟨2, ty_api_Errno, [.v (.int .i64 4)]⟩, ⟨1, ty_sl_uint8, [.v (.slice A1 l1.length c1)]⟩, ⟨0, ty_string, [.v (.string al)]⟩] [] (Sub.of (List.Sublist.refl _) (List.nil_sublist _)) ?_
            refine ⟨_, wrap_i64 (by omega) (by omega), ?_⟩
            refine ⟨_, wrap_i64 (by omega) (by omega), ?_⟩
            refine ⟨by first | decide | omega, ?_⟩
            refine ⟨((X / 256 ^ (2 - k) : Nat) : Int), shr_i64 (by omega), ?_⟩
            refine ⟨((u8n (X / 256 ^ (2 - k))).toNat : Int), wrap_u8n _, ?_⟩
            intro b3
            refine ⟨subPerm [], ?_⟩
            have hol := hok.len
            have hol2 : out.length ≤ 3 * pre.length := hol
            have hpl : pre.length < L.length := by
              rcases Nat.lt_or_ge pre.length L.length with h | h
              · exact h
              · rw [List.getElem?_eq_none h] at hx; cases hx
            obtain ⟨l2, hl2⟩ : ∃ l2, l2 = l1 ++ [u8n (X / 256 ^ (2 - k))] := ⟨_, rfl⟩
            have hl2l : l1.length + 1 = l2.length := by rw [hl2, List.length_append]; rfl
            refine ⟨1, l1.length, l2.length, _, [u8n (X / 256 ^ (2 - k))].map byte, l2.map byte, rfl, fun β w' hs => row_rd (hs.get 0 rfl), bytes_one _, hl2l, by rw [hl2, List.map_append], by rw [maxLen_eq]; omega, by show l2.length * 1 ≤ _; omega, ?_⟩
            intro A2 c2 r1 r2 r3
            refine ⟨subPerm [], ?_⟩
            refine ⟨(((k + 1) : Nat) : Int), by rw [wrap_i64 (by omega) (by omega)]; rfl, ?_⟩
            exact ⟨(A2, c2, k + 1, l2), ⟨by show k + 1 ≤ _; omega, by show l2 = _; rw [hl2, hl1, bytesN_succ, List.append_assoc]⟩, by show cs.length - (k + 1) < cs.length - k; omega, Ent.mk' ⟨rfl, rfl, rfl, rfl, rfl, rfl, trivial⟩ rfl (fun β w' hs => hs.perm [1])⟩
          · have hge0 : ¬ (k : Int) < (((mkS cs).size - 1 : Nat) : Int) := hge
            have hkk : k = cs.length - 1 := by omega
            refine ⟨⟨l1, A1, c1, 4⟩, ⟨?_, ?_, ?_⟩, Ent.mk' trivial rfl (fun β w' hs => hs)⟩
            · show pre ++ [mkS cs] = L.take (pre ++ [mkS cs]).length
              rw [List.length_append, List.length_singleton, List.take_add_one, hx, ← hok.eq]
              rfl
            · refine ⟨vs ++ ws, by rw [List.map_append, List.map_singleton, hdm]; exact hvall, ?_⟩
              rw [hd1]
              have hh : ((4 : Int) = 0 ∧ decG ws = some (bytesN X (cs.length - 1))) ∨ ((4 : Int) = 4 ∧ decG ws = none) := (Or.inr (⟨rfl, hgz⟩ : (4 : Int) = 4 ∧ decG ws = none))
              rcases hh with ⟨q1, q2⟩ | ⟨q1, q2⟩
              · exact .inl ⟨q1, by rw [q2, hl1, hkk]; rfl⟩
              · exact .inr ⟨q1, by rw [q2]; rfl⟩
            · have h := hok.len
              show l1.length ≤ 3 * (pre ++ [mkS cs]).length
              rw [hl1l, List.length_append, List.length_singleton]
              have h2 : out.length ≤ 3 * pre.length := h
              omega
        · have he0 : ((X % 2 ^ (8 * (4 - cs.length)) : Nat) : Int) = 0 := of_decide_eq_true hq2
          rw [if_pos (show X % 2 ^ (8 * (4 - cs.length)) = 0 by omega)] at hgz
          refine ⟨((((mkS cs).size - 1) : Nat) : Int), by rw [wrap_i64 (by omega) (by omega)]; omega, ?_⟩
          refine loop_rule (ι := Option Addr × Nat × Nat × List UInt8) 3 (fun j => [(2, .c (.p 0 0)), (6, .c (.p 1 0)), (7, .c (.p 2 0)), (9, .c (.v (.int .i64 (X : Int)))), (58, .c (.v (.int .i64 (((mkS cs).size - 1 : Nat) : Int)))), (59, .c (.v (.int .i64 (j.2.2.1 : Int))))])
            (fun j => [⟨2, ty_api_Errno, [.v (.int .i64 0)]⟩, ⟨1, ty_sl_uint8, [.v (.slice j.1 j.2.2.2.length j.2.1)]⟩, ⟨0, ty_string, [.v (.string al)]⟩]) (fun j => [browF ty_uint8 j.1 j.2.2.2 j.2.1])
            (fun j => j.2.2.1 ≤ cs.length - 1 ∧ j.2.2.2 = out ++ bytesN X j.2.2.1) (fun j => cs.length - j.2.2.1) (A, c, 0, out) ⟨Nat.zero_le _, (List.append_nil _).symm⟩ (Ent.mk' ⟨rfl, rfl, rfl, rfl, rfl, rfl, trivial⟩ rfl (fun β w' hs => (hs.keepB (List.Sublist.refl _)).perm [1])) (rcx_good g) ?_
          rintro ⟨A1, c1, k, l1⟩ ⟨hk, hl1⟩
          simp only at hk hl1
          have hl1l : l1.length = out.length + k := by rw [hl1, List.length_append, bytesN_len]
          refine BIf.dec (fun hlt => ?_) (fun hge => ?_)
          · have hlt0 : (k : Int) < (((mkS cs).size - 1 : Nat) : Int) := hlt
            refine draw_rule (rcx_good g) p_b64_decode_21 (by kernel_rfl) [⟨2, ty_api_Errno, [.v (.int .i64 0)]⟩, ⟨1, ty_sl_uint8, [.v (.slice A1 l1.length c1)]⟩, ⟨0, ty_string, [.v (.string al)]⟩] [] (Sub.of (List.Sublist.refl _) (List.nil_sublist _)) ?_
            refine ⟨_, wrap_i64 (by omega) (by omega), ?_⟩
            refine ⟨_, wrap_i64 (by omega) (by omega), ?_⟩
            refine ⟨by first | decide | omega, ?_⟩
            refine ⟨((X / 256 ^ (2 - k) : Nat) : Int), shr_i64 (by omega), ?_⟩
            refine ⟨((u8n (X / 256 ^ (2 - k))).toNat : Int), wrap_u8n _, ?_⟩
            intro b3
            refine ⟨subPerm [], ?_⟩
            have hol := hok.len
            have hol2 : out.length ≤ 3 * pre.length := hol
            have hpl : pre.length < L.length := by
              rcases Nat.lt_or_ge pre.length L.length with h | h
              · exact h
              · rw [List.getElem?_eq_none h] at hx; cases hx
            obtain ⟨l2, hl2⟩ : ∃ l2, l2 = l1 ++ [u8n (X / 256 ^ (2 - k))] := ⟨_, rfl⟩
            have hl2l : l1.length + 1 = l2.length := by rw [hl2, List.length_append]; rfl
            refine ⟨1, l1.length, l2.length, _, [u8n (X / 256 ^ (2 - k))].map byte, l2.map byte, rfl, fun β w' hs => row_rd (hs.get 0 rfl), bytes_one _, hl2l, by rw [hl2, List.map_append], by rw [maxLen_eq]; omega, by show l2.length * 1 ≤ _; omega, ?_⟩
            intro A2 c2 r1 r2 r3
            refine ⟨subPerm [], ?_⟩
            refine ⟨(((k + 1) : Nat) : Int), by rw [wrap_i64 (by omega) (by omega)]; rfl, ?_⟩
            exact ⟨(A2, c2, k + 1, l2), ⟨by show k + 1 ≤ _; omega, by show l2 = _; rw [hl2, hl1, bytesN_succ, List.append_assoc]⟩, by show cs.length - (k + 1) < cs.length - k; omega, Ent.mk' ⟨rfl, rfl, rfl, rfl, rfl, rfl, trivial⟩ rfl (fun β w' hs => hs.perm [1])⟩
          · have hge0 : ¬ (k : Int) < (((mkS cs).size - 1 : Nat) : Int) := hge
            have hkk : k = cs.length - 1 := by omega
            refine ⟨⟨l1, A1, c1, 0⟩, ⟨?_, ?_, ?_⟩, Ent.mk' trivial rfl (fun β w' hs => hs)⟩
            · show pre ++ [mkS cs] = L.take (pre ++ [mkS cs]).length
              rw [List.length_append, List.length_singleton, List.take_add_one, hx, ← hok.eq]
              rfl
            · refine ⟨vs ++ ws, by rw [List.map_append, List.map_singleton, hdm]; exact hvall, ?_⟩
              rw [hd1]
              have hh : ((0 : Int) = 0 ∧ decG ws = some (bytesN X (cs.length - 1))) ∨ ((0 : Int) = 4 ∧ decG ws = none) := (Or.inl (⟨rfl, hgz⟩ : (0 : Int) = 0 ∧ decG ws = some (bytesN X (cs.length - 1))))
              rcases hh with ⟨q1, q2⟩ | ⟨q1, q2⟩
              · exact .inl ⟨q1, by rw [q2, hl1, hkk]; rfl⟩
              · exact .inr ⟨q1, by rw [q2]; rfl⟩
            · have h := hok.len
              show l1.length ≤ 3 * (pre ++ [mkS cs]).length
              rw [hl1l, List.length_append, List.length_singleton]
              have h2 : out.length ≤ 3 * pre.length := h
              omega
  · rintro xs ⟨out, A, c, e⟩ Fs hok ⟨rfl, rfl⟩
    obtain ⟨vs, hv1, hv2⟩ := hok.vs
    have hfl : (xs.map (·.data.toList)).flatten = s0 := by
      rw [← hLd, List.map_map, show ((fun b : ByteArray => b.data.toList) ∘ mkS) = id from funext fun l => by simp [mkS], List.map_id, pieces_flat 3 _ _ (Nat.le_refl _)]
    rw [hfl] at hv1
    have hds : decS url s0 = decG vs := by unfold decS; rw [hv1]; rfl
    rcases hv2 with ⟨q1, q2⟩ | ⟨q1, q2⟩
    · obtain rfl : e = 0 := q1
      intro β w' hs
      have hcap : out.length ≤ c := brow_cap (show (browF ty_uint8 A out c).p w' from hs.get 0 rfl)
      exact (hs.keepB (List.nil_sublist _)).fin [0] ⟨A, out, c, 0, rfl, .inl ⟨rfl, by rw [hds, q2]⟩, hcap, rfl⟩
    · obtain rfl : e = 4 := q1
      refine draw_rule g p_b64_decode_24 (by kernel_rfl) [⟨2, ty_api_Errno, [.v (.int .i64 4)]⟩] [] (Sub.of (List.sublist_append_left _ _) (List.nil_sublist _)) ?_
      intro β w' hs
      exact ((hs.keepB (List.nil_sublist _)).nilRow ty_uint8 1).fin [0] ⟨none, [], 0, 4, rfl, .inr ⟨by decide, by rw [hds, q2]⟩, Nat.le_refl _, rfl⟩
  · rintro e pre ⟨⟩ Fs ⟨rfl, hno⟩ rfl
    refine draw_rule g p_b64_decode_24 (by kernel_rfl) [⟨2, ty_api_Errno, [.v (.int .i64 5)]⟩] [] (Sub.of (List.Sublist.refl _) (List.nil_sublist _)) ?_
    intro β w' hs
    exact ((hs.keepB (List.nil_sublist _)).nilRow ty_uint8 1).fin [0] ⟨none, [], 0, 5, rfl, .inr ⟨by decide, hno⟩, Nat.le_refl _, rfl⟩
def strip (s : List UInt8) : List UInt8 := if s.getLast? = some 61 then s.dropLast else s
theorem unpad_strip (s : List UInt8) : unpad s = strip (strip s) := by
  unfold unpad strip
  by_cases h : s.getLast? = some 61
  · rw [if_pos h, if_pos h]
  · rw [if_neg h, if_neg h, if_neg h]
def decOutP (l : Option (List UInt8)) (v : Value) (Fs : List Fact) : Prop := ∃ A l' c e, v = .tuple #[.slice A l'.length c, .int .i64 e] ∧ ((e = 0 ∧ l = some l') ∨ (e ≠ 0 ∧ l = none)) ∧ l'.length ≤ c ∧ Fs = [browF ty_uint8 A l' c]
theorem Decode_c (w : World) (s : List UInt8) (hL : s.length ≤ 1000000) : Con Tryz.prog n_b64_Decode #[.string (mkS s)] w [] (decOutP (decP s)) := by
  have g := good_b64_Decode w (Un [])
  have hml := maxLen_eq
  refine con_of_sx (cx := cx_b64_Decode w (Un [])) g b_b64_Decode rfl rfl (β := Va.z) [.c (.v (.string (mkS s)))] 0 [] [] rfl rfl (Sat.start rfl) ?_
  have hsz := mkS_sz s
  refine ⟨by first | decide | omega, ?_⟩
  refine ⟨(((mkS s).size % 4 : Nat) : Int), Int.ofNat_tmod _ _, ?_⟩
  refine BIf.not (BIf.dec (fun h0 => ?_) (fun h0 => ?_))
  · have h00 : (((mkS s).size % 4 : Nat) : Int) = 0 := h0
    refine loop_rule (ι := Nat × List UInt8) 0 (fun j => [(0, .c (.v (.string (mkS j.2)))), (9, .c (.v (.int .i64 (j.1 : Int))))]) (fun _ => []) (fun _ => [])
      (fun j => j.1 ≤ 2 ∧ j.2.length ≤ s.length ∧ (j.1 = 0 → j.2 = s) ∧ (j.1 = 1 → j.2 = strip s) ∧ (j.1 = 2 → j.2 = unpad s)) (fun j => 2 - j.1) (0, s) ⟨Nat.zero_le _, Nat.le_refl _, fun _ => rfl, (fun h => by cases h), (fun h => by cases h)⟩ (Ent.mk' ⟨rfl, rfl, trivial⟩ rfl (fun β w' hs => hs)) g ?_
    rintro ⟨i, t⟩ ⟨hi, htl, t0, t1, t2⟩
    simp only at hi htl t0 t1 t2
    have htz := mkS_sz t
    refine BIf.dec (fun hlt => ?_) (fun hge => ?_)
    · have hlt0 : (i : Int) < 2 := hlt
      have hsl : (strip t).length ≤ t.length := by
        unfold strip
        split
        · rw [List.length_dropLast]; omega
        · exact Nat.le_refl _
      have hnx : ∀ u, u = strip t → i + 1 ≤ 2 ∧ u.length ≤ s.length ∧ (i + 1 = 0 → u = s) ∧ (i + 1 = 1 → u = strip s) ∧ (i + 1 = 2 → u = unpad s) := by
        rintro u rfl
        refine ⟨by omega, by omega, fun h => by omega, fun h => ?_, fun h => ?_⟩
        · rw [t0 (by omega)]
        · rw [t1 (by omega), ← unpad_strip]
      conv => whnf
      generalize hq : decide ((0 : Int) < ((mkS t).size : Int)) = bq
      cases bq
      · have hq0 : ¬ (0 : Int) < ((mkS t).size : Int) := of_decide_eq_false hq
        have ht : t = strip t := by
          rw [List.length_eq_zero_iff.1 (show t.length = 0 by omega)]
          rfl
        refine ⟨(((i + 1) : Nat) : Int), by rw [wrap_i64 (by omega) (by omega)]; rfl, ?_⟩
        exact ⟨(i + 1, t), hnx t ht, by show 2 - (i + 1) < 2 - i; omega, Ent.mk' ⟨rfl, rfl, trivial⟩ rfl (fun β w' hs => hs)⟩
      · have hq0 : (0 : Int) < ((mkS t).size : Int) := of_decide_eq_true hq
        obtain ⟨u, c, rfl⟩ : ∃ u c, t = u ++ [c] := ⟨t.dropLast, t.getLast (fun e => by rw [e] at hq0; exact absurd hq0 (by decide)), (List.dropLast_concat_getLast _).symm⟩
        have hul : (u ++ [c]).length = u.length + 1 := by rw [List.length_append]; rfl
        refine ⟨((u.length : Nat) : Int), by show IntKind.i64.wrap (((mkS (u ++ [c])).size : Int) - 1) = _; rw [wrap_i64 (by omega) (by omega)]; omega, ?_⟩
        refine ⟨u.length, c, rfl, by show (mkS (u ++ [c])).data.toList[u.length]? = some c; simp [mkS], ?_⟩
        have hst : strip (u ++ [c]) = if c = 61 then u else u ++ [c] := by
          unfold strip
          rw [List.getLast?_concat, List.dropLast_concat]
          by_cases h : c = 61
          · rw [if_pos h, if_pos (by rw [h])]
          · rw [if_neg h, if_neg (fun q => h (Option.some.inj q))]
        conv => whnf
        generalize hq2 : decide ((c.toNat : Int) = 61) = bc
        cases bc
        · have hc : ¬ (c.toNat : Int) = 61 := of_decide_eq_false hq2
          rw [if_neg (fun q => hc (by rw [q]; rfl))] at hst
          refine ⟨(((i + 1) : Nat) : Int), by rw [wrap_i64 (by omega) (by omega)]; rfl, ?_⟩
          exact ⟨(i + 1, u ++ [c]), hnx _ hst.symm, by show 2 - (i + 1) < 2 - i; omega, Ent.mk' ⟨rfl, rfl, trivial⟩ rfl (fun β w' hs => hs)⟩
        · have hc : (c.toNat : Int) = 61 := of_decide_eq_true hq2
          have hc1 : c = 61 := UInt8.toNat_inj.1 (by show c.toNat = 61; omega)
          rw [if_pos hc1] at hst
          refine ⟨((u.length : Nat) : Int), by show IntKind.i64.wrap (((mkS (u ++ [c])).size : Int) - 1) = _; rw [wrap_i64 (by omega) (by omega)]; omega, ?_⟩
          refine ⟨u.length, 0, rfl, rfl, by show u.length ≤ (mkS (u ++ [c])).size; omega, Nat.zero_le _, ?_⟩
          have hcut : (mkS (u ++ [c])).extract 0 u.length = mkS u := by rw [mkS_take, List.take_left]
          refine ⟨(((i + 1) : Nat) : Int), by rw [wrap_i64 (by omega) (by omega)]; rfl, ?_⟩
          refine ⟨(i + 1, u), hnx _ hst.symm, by show 2 - (i + 1) < 2 - i; omega, ?_⟩
          simp only [← hcut]
          exact Ent.mk' ⟨rfl, rfl, trivial⟩ rfl (fun β w' hs => hs)
    · have hge0 : ¬ (i : Int) < 2 := hge
      have htu : t = unpad s := t2 (by omega)
      subst htu
      have huz := mkS_sz (unpad s)
      refine ⟨by first | decide | omega, ?_⟩
      refine ⟨(((mkS (unpad s)).size % 4 : Nat) : Int), Int.ofNat_tmod _ _, ?_⟩
      refine BIf.dec (fun h1 => ?_) (fun h1 => ?_)
      · have h11 : (((mkS (unpad s)).size % 4 : Nat) : Int) = 1 := h1
        intro β w' hs
        exact (hs.nilRow ty_uint8 1).fin [0] ⟨none, [], 0, 5, rfl, .inr ⟨by decide, by unfold decP; rw [if_neg (by omega), if_pos (by omega)]⟩, Nat.le_refl _, rfl⟩
      · have h11 : ¬ (((mkS (unpad s)).size % 4 : Nat) : Int) = 1 := h1
        have hdp : decP s = decS false (unpad s) := by unfold decP; rw [if_neg (by omega), if_neg (by omega)]
        refine call_con [] (fun β w' hs => b64dec_c w' _ (mkS (unpad s)) false ⟨by decide, by decide, by decide⟩ (by omega) (by omega)) ?_
        rintro v Fs ⟨A, l, c, e, rfl, hle, hcap, rfl⟩
        rw [show (mkS (unpad s)).data.toList = unpad s by simp [mkS], ← hdp] at hle
        intro β w' hs
        exact hs.fin [0] ⟨A, l, c, e, rfl, hle, hcap, rfl⟩
  · have h00 : ¬ (((mkS s).size % 4 : Nat) : Int) = 0 := h0
    intro β w' hs
    exact (hs.nilRow ty_uint8 1).fin [0] ⟨none, [], 0, 2, rfl, .inr ⟨by decide, by unfold decP; rw [if_pos (by omega)]⟩, Nat.le_refl _, rfl⟩
theorem DecodeURL_c (w : World) (s : List UInt8) (hL : s.length ≤ 1000000) : Con Tryz.prog n_b64_DecodeURL #[.string (mkS s)] w [] (decOutP (decU s)) := by
  have g := good_b64_DecodeURL w (Un [])
  have hml := maxLen_eq
  refine con_of_sx (cx := cx_b64_DecodeURL w (Un [])) g b_b64_DecodeURL rfl rfl (β := Va.z) [.c (.v (.string (mkS s)))] 0 [] [] rfl rfl (Sat.start rfl) ?_
  have huz := mkS_sz s
  refine ⟨by first | decide | omega, ?_⟩
  refine ⟨(((mkS s).size % 4 : Nat) : Int), Int.ofNat_tmod _ _, ?_⟩
  refine BIf.dec (fun h1 => ?_) (fun h1 => ?_)
  · have h11 : (((mkS s).size % 4 : Nat) : Int) = 1 := h1
    intro β w' hs
    exact (hs.nilRow ty_uint8 1).fin [0] ⟨none, [], 0, 2, rfl, .inr ⟨by decide, by unfold decU; rw [if_pos (by omega)]⟩, Nat.le_refl _, rfl⟩
  · have h11 : ¬ (((mkS s).size % 4 : Nat) : Int) = 1 := h1
    have hdp : decU s = decS true s := by unfold decU; rw [if_neg (by omega)]
    refine call_con [] (fun β w' hs => b64dec_c w' _ (mkS s) true ⟨by decide, by decide, by decide⟩ (by omega) (by omega)) ?_
    rintro v Fs ⟨A, l, c, e, rfl, hle, hcap, rfl⟩
    rw [show (mkS s).data.toList = s by simp [mkS], ← hdp] at hle
    intro β w' hs
    exact hs.fin [0] ⟨A, l, c, e, rfl, hle, hcap, rfl⟩
end Go.Proofs.YtoifclfanabalaaGreatDoor.Sx

namespace Go.Proofs.YtoifclfanabalaaGreatDoor.Sx
open Go
def roX (f : Fact) : Fact := ⟨false, f.D, f.p, f.st⟩
theorem Sat.asRo {cx : Cx} {β : Va} {n : Nat} {H : List Bk} {F : List Fact} {w : World} (h : Sat cx β n H F w) (j : Nat) {f : Fact} (hj : nth F j = some f) (ho : f.own = true := by rfl) : Sat cx β n H (putAt F j (roX f)) w :=
  h.upd hj ho (Chg.refl _ _) (show f.p w from h.get j hj) (fun _ hk => .inl hk)
theorem Sat.ofRo {cx : Cx} {β : Va} {n : Nat} {H : List Bk} {F : List Fact} {w : World} (h : Sat cx β n H F w) (j : Nat) {f : Fact} (hj : nth F j = some (roX f)) (g : Fact) (hgo : g.own = false) (hp : g.p w) (hD : ∀ k, g.D k → f.D k) : Sat cx β n H (g :: F) w :=
  h.sub j hj rfl g hgo hp hD
theorem BIf.yes {P Q : Prop} {b : Bool} (hb : b = true) (h : P) : BIf P Q b := by subst hb; exact h
theorem BIf.no {P Q : Prop} {b : Bool} (hb : b = false) (h : Q) : BIf P Q b := by subst hb; exact h
end Go.Proofs.YtoifclfanabalaaGreatDoor.Sx

namespace Go.Proofs.YtoifclfanabalaaGreatDoor.Sx
open Go Sha
attribute [local irreducible] Calls
def stG (b ty : Nat) (s : S8) (ex : List Value) : Fact := bkF b ty (s.l.map u32 ++ ex)
theorem mixX_get (s t : S8) (X : List SL) : ∀ i, i < 8 → nth (mix s t i ++ X) i = some (sl32 (s.l.getD i 0))
  | 0, _ => rfl | 1, _ => rfl | 2, _ => rfl | 3, _ => rfl | 4, _ => rfl | 5, _ => rfl | 6, _ => rfl | 7, _ => rfl
  | n + 8, h => by omega
theorem mixX_set (s t : S8) (X : List SL) : ∀ i, i < 8 → putAll (mix s t i ++ X) i [sl32 (s.l.getD i 0 + t.l.getD i 0)] = mix s t (i + 1) ++ X
  | 0, _ => rfl | 1, _ => rfl | 2, _ => rfl | 3, _ => rfl | 4, _ => rfl | 5, _ => rfl | 6, _ => rfl | 7, _ => rfl
  | n + 8, h => by omega
theorem stepG_c (w : World) (b ty : Nat) (s : S8) (ex : List Value) (A : Option Addr) (l : List UInt8) (c : Nat) (hm : Mem w [stG b ty s ex, bsF A l, oddF 2]) (hc : l.length ≤ c) (hl : 64 ≤ l.length) (hcm : c ≤ maxLen) :
    Con Tryz.prog n_sha_state_step #[.pointer (some ⟨b, 0, none⟩), .slice A l.length c] w [stG b ty s ex] fun v Fs => v = .tuple #[] ∧ Fs = [stG b ty (Sha.step s l) ex] := by
  obtain ⟨ws, hws⟩ : ∃ ws, W l = ws := ⟨_, rfl⟩
  have hwl : ws.length = 64 := by rw [← hws]; exact W_len l
  have g := good_sha_state_step w (Un [stG b ty s ex]) (bs := [b])
  have hs0 : Sat (cx_sha_state_step w (Un [stG b ty s ex]) [b]) (Va.of fun _ => b) 1 [] [stG b ty s ex, bsF A l, oddF 2] w :=
    hm.sat rfl (ownIn (Gs := [stG b ty s ex]) (Rs := [bsF A l, oddF 2]) (fun g hg => by
      rcases List.mem_cons.1 hg with rfl | hg
      · rfl
      · obtain rfl := List.mem_singleton.1 hg; rfl)) ⟨Nat.le_refl _, fun i hi => by
        have hi1 : i < 1 := hi
        have hi0 : i = 0 := by omega
        rw [hi0]; rfl⟩
  have hs1 := hs0.toBk 0 rfl 0 Nat.zero_lt_one rfl
  refine con_of_sx (cx := cx_sha_state_step w (Un [stG b ty s ex]) [b]) g b_sha_state_step rfl rfl (β := Va.of fun _ => b) [.c (.p 0 0), .c (.v (.slice A l.length c))] 1 [⟨0, ty, s.l.map sl32 ++ ex.map SL.v⟩] [bsF A l, oddF 2] rfl rfl (by rw [List.map_append, List.map_map] at hs1; exact hs1) ?_
  refine call_pu (fun β w' hs => spread_c w' A l c (hs.get 0 rfl) hc hl hcm) ?_
  rw [hws]
  have ea : ofValue (.agg (ws.map u32).toArray) = .agg (ws.map sl32) := by simp only [ofValue, List.map_map]; rfl
  rw [ea]
  conv => whnf
  generalize h1 : Nat.beq _ _ = b1
  generalize h2 : allOne _ = b2
  obtain rfl : b1 = true := h1.symm.trans (by rw [List.length_map, hwl]; rfl)
  obtain rfl : b2 = true := h2.symm.trans (arr_one ws)
  clear h1 h2
  conv => whnf
  generalize h1 : Nat.ble _ _ = b1
  obtain rfl : b1 = true := h1.symm.trans (by rw [List.length_map, hwl]; rfl)
  clear h1
  refine draw_rule g p_sha_state_step_1 (by kernel_rfl) _ _ Sub.refl ?_
  refine ⟨0, rfl, by decide, ?_⟩
  refine ⟨1, rfl, by decide, ?_⟩
  refine ⟨2, rfl, by decide, ?_⟩
  refine ⟨3, rfl, by decide, ?_⟩
  refine ⟨4, rfl, by decide, ?_⟩
  refine ⟨5, rfl, by decide, ?_⟩
  refine ⟨6, rfl, by decide, ?_⟩
  refine ⟨7, rfl, by decide, ?_⟩
  have hp : putAll (ti182.zero.map SL.v) 0 (ws.map sl32) = ws.map sl32 := putAll_full (by rw [List.length_map, hwl]; rfl)
  refine loop_rule (ι := Nat) 2 (fun i => [(0, .c (.p 0 0)), (4, .c (.p 1 0)), (5, .c (sl32 (rounds s ws i).a)), (6, .c (sl32 (rounds s ws i).b)), (7, .c (sl32 (rounds s ws i).c)), (8, .c (sl32 (rounds s ws i).d)), (9, .c (sl32 (rounds s ws i).e)), (10, .c (sl32 (rounds s ws i).f)), (11, .c (sl32 (rounds s ws i).g)), (12, .c (sl32 (rounds s ws i).h)), (55, .c (.v (.int .i64 i)))])
    (fun _ => [⟨1, 182, ws.map sl32⟩, ⟨0, ty, s.l.map sl32 ++ ex.map SL.v⟩]) (fun _ => [bsF A l, oddF 2])
    (fun i => i ≤ 64) (fun i => 64 - i) 0 (Nat.zero_le _) (Ent.mk' ⟨rfl, rfl, rfl, rfl, rfl, rfl, rfl, rfl, rfl, rfl, rfl, trivial⟩ rfl (fun β w' hs => by rw [← hp]; exact hs)) g ?_
  intro i hi
  obtain ⟨r, hr⟩ : ∃ r, rounds s ws i = r := ⟨_, rfl⟩
  rw [hr]
  obtain ⟨xa, xb, xc, xd, xe, xf, xg, xh⟩ := r
  refine BIf.dec (fun hlt => ?_) (fun hge => ?_)
  · have hlt : i < 64 := by omega
    refine call_pu (fun β w' hs => rotl_c w' xe 6 (by omega) (by omega)) ?_
    refine call_pu (fun β w' hs => rotl_c w' xe 11 (by omega) (by omega)) ?_
    refine ⟨_, xor32 _ _, ?_⟩
    refine call_pu (fun β w' hs => rotl_c w' xe 25 (by omega) (by omega)) ?_
    refine ⟨_, xor32 _ _, ?_⟩
    refine ⟨_, and32 _ _, _, not32 _, _, and32 _ _, _, xor32 _ _, ?_⟩
    refine draw_rule g p_sha_state_step_7 (by kernel_rfl) _ _ Sub.refl ?_
    refine ⟨_, add32 _ _, _, add32 _ _, i, rfl, hlt, u32 (K.getD i 0), fun β w' hs => odd_cell (hs.get 1 rfl) hlt, _, add32 _ _, i, rfl, hlt, ?_⟩
    conv => whnf
    generalize hn : nth _ _ = o
    obtain rfl : o = some (sl32 (ws.getD i 0)) := hn.symm.trans (by
      show nth (ws.map sl32) (0 + i * 1) = _
      rw [nth_eq, Nat.zero_add, Nat.mul_one, List.getElem?_map, List.getElem?_eq_getElem (by omega)]
      simp [List.getD, List.getElem?_eq_getElem (show i < ws.length by omega)])
    clear hn
    refine ⟨_, add32 _ _, ?_⟩
    refine call_pu (fun β w' hs => rotl_c w' xa 2 (by omega) (by omega)) ?_
    refine call_pu (fun β w' hs => rotl_c w' xa 13 (by omega) (by omega)) ?_
    refine ⟨_, xor32 _ _, ?_⟩
    refine call_pu (fun β w' hs => rotl_c w' xa 22 (by omega) (by omega)) ?_
    refine ⟨_, xor32 _ _, ?_⟩
    refine ⟨_, and32 _ _, _, and32 _ _, _, xor32 _ _, _, and32 _ _, _, xor32 _ _, ?_⟩
    refine ⟨_, add32 _ _, _, add32 _ _, _, add32 _ _, ?_⟩
    refine ⟨((i + 1 : Nat) : Int), by rw [wrap_i64 (by omega) (by omega)]; rfl, ?_⟩
    refine ⟨i + 1, by omega, by omega, Ent.same ?_ rfl⟩
    rw [rounds_succ, hr]
    exact ⟨rfl, rfl, rfl, rfl, rfl, rfl, rfl, rfl, rfl, rfl, rfl, trivial⟩
  · obtain ⟨t, ht⟩ : ∃ t, (⟨xa, xb, xc, xd, xe, xf, xg, xh⟩ : S8) = t := ⟨_, rfl⟩
    have hst : Sha.step s l = s.add t := by
      have : i = 64 := by omega
      rw [Sha.step, hws, ← ht, ← hr, this]
    rw [hst]
    refine loop_rule (ι := Nat) 2 (fun i => [(0, .c (.p 0 0)), (129, .agg [sl32 xa, sl32 xb, sl32 xc, sl32 xd, sl32 xe, sl32 xf, sl32 xg, sl32 xh]), (130, .c (.v (.int .i64 i)))])
      (fun i => [⟨1, 182, ws.map sl32⟩, ⟨0, ty, mix s t i ++ ex.map SL.v⟩]) (fun _ => [bsF A l, oddF 2])
      (fun i => i ≤ 8) (fun i => 8 - i) 0 (Nat.zero_le _) (Ent.same ⟨rfl, rfl, rfl, trivial⟩ rfl) g ?_
    intro j hj
    refine BIf.dec (fun hlt => ?_) (fun hge => ?_)
    · have hlt : j < 8 := by omega
      refine ⟨j, sl32 (t.l.getD j 0), rfl, hlt, by rw [← ht]; show ((⟨xa, xb, xc, xd, xe, xf, xg, xh⟩ : S8).l.map sl32)[j * 1]? = _; rw [Nat.mul_one]; exact l_get _ j hlt, ?_⟩
      refine draw_rule g p_sha_state_step_15 (by kernel_rfl) [] [bsF A l, oddF 2] (Sub.of (List.nil_sublist _) (List.Sublist.refl _)) ?_
      refine ⟨j, rfl, hlt, ?_⟩
      conv => whnf
      generalize hn : nth _ _ = o
      obtain rfl : o = some (sl32 (s.l.getD j 0)) := hn.symm.trans (by
        show nth (mix s t j ++ ex.map SL.v) (0 + j * 1) = _
        rw [Nat.zero_add, Nat.mul_one]
        exact mixX_get s t (ex.map SL.v) j hlt)
      clear hn
      refine ⟨Sub.of (List.nil_sublist _) (List.Sublist.refl _), _, add32 _ _, j, rfl, hlt, ?_⟩
      conv => whnf
      generalize h1 : Nat.ble _ _ = b1
      obtain rfl : b1 = true := h1.symm.trans (by
        show Nat.ble (0 + j * 1 + 1) (mix s t j ++ ex.map SL.v).length = true
        rw [List.length_append, mix_len s t j (by omega), Nat.ble_eq]; omega)
      clear h1
      refine ⟨Sub.of (List.nil_sublist _) (List.Sublist.refl _), ?_⟩
      refine ⟨((j + 1 : Nat) : Int), by rw [wrap_i64 (by omega) (by omega)]; rfl, ?_⟩
      refine ⟨j + 1, by omega, by omega, Ent.mk' ⟨rfl, rfl, rfl, trivial⟩ rfl (fun β w' hs => ?_)⟩
      have e1 := mixX_set s t (ex.map SL.v) j hlt
      rw [← e1]
      have e3 : 0 + j * 1 = j := by omega
      have hs2 : Sat (cx_sha_state_step w (Un [stG b ty s ex]) [b]) β 2 [⟨1, 182, ws.map sl32⟩, ⟨0, ty, putAll (mix s t j ++ ex.map SL.v) (0 + j * 1) [sl32 (s.l.getD j 0 + t.l.getD j 0)]⟩] [bsF A l, oddF 2] w' := hs
      rw [e3] at hs2
      exact hs2
    · obtain rfl : j = 8 := by omega
      intro β w' hs
      have h1 := hs.weaken (List.sublist_cons_self _ _) (List.Sublist.refl _)
      have h2 := h1.ofBk
      have hb : β 0 = b := h2.fix.2 0 (Nat.zero_lt_one)
      refine h2.fin [0] ⟨rfl, ?_⟩
      show [bkF (β 0) ty ((mix s t 8 ++ ex.map SL.v).map (SL.val β))] = [stG b ty (s.add t) ex]
      rw [hb, List.map_append, List.map_map, show SL.val β ∘ SL.v = id from rfl, List.map_id]
      rfl
end Go.Proofs.YtoifclfanabalaaGreatDoor.Sx

namespace Go.Proofs.YtoifclfanabalaaGreatDoor.Sx
open Go
attribute [local irreducible] Calls
theorem or128 (n : Nat) : bits .or .u8 (((UInt8.ofNat n).toNat : Nat) : Int) 128 = ((UInt8.ofNat (n % 128 + 128)).toNat : Int) := by
  show IntKind.u8.wrap (((BitVec.ofInt 8 ((UInt8.ofNat n).toNat : Int)) ||| (BitVec.ofInt 8 128)).toNat : Int) = _
  have h1 : BitVec.ofInt 8 (((UInt8.ofNat n).toNat : Nat) : Int) = BitVec.ofNat 8 n := by
    apply BitVec.eq_of_toNat_eq
    rw [BitVec.toNat_ofInt, BitVec.toNat_ofNat, UInt8.toNat_ofNat']
    omega
  have h2 : BitVec.ofNat 8 n ||| BitVec.ofInt 8 128 = BitVec.ofNat 8 (n % 128 + 128) := by
    have h3 : BitVec.ofNat 8 n = BitVec.ofNat 8 (n % 256) := by
      apply BitVec.eq_of_toNat_eq
      rw [BitVec.toNat_ofNat, BitVec.toNat_ofNat]
      omega
    have h4 : n % 128 = n % 256 % 128 := by omega
    rw [h3, h4]
    have h5 : n % 256 < 256 := Nat.mod_lt _ (by omega)
    have key : ∀ k, k < 256 → BitVec.ofNat 8 k ||| BitVec.ofInt 8 128 = BitVec.ofNat 8 (k % 128 + 128) := by decide +kernel
    exact key _ h5
  rw [h1, h2, BitVec.toNat_ofNat, wrap_u8, UInt8.toNat_ofNat']
  omega
theorem vint_len : ∀ (k n : Nat), n < 128 ^ (k + 1) → (Bx.vint n).length ≤ k + 1
  | 0, n, h => by rw [Bx.vint_lt (by simpa using h)]; simp
  | k + 1, n, h => by
    by_cases hn : n < 128
    · rw [Bx.vint_lt hn]; simp
    · rw [Bx.vint_ge hn, List.length_cons]
      have := vint_len k (n / 128) (by rw [Nat.pow_succ] at h; omega)
      omega
theorem vint_nine {n : Nat} (h : n < 4611686018427387904) : (Bx.vint n).length ≤ 9 := vint_len 8 n (by omega)
def varF (b : Nat) (A : Option Addr) (l : List UInt8) (c : Nat) : List Fact := [bkF b ty_sl_uint8 [.slice A l.length c], browF ty_uint8 A l c]
structure LgS where
  n : Nat
  A : Option Addr
  l : List UInt8
  c : Nat
theorem long7_c (w : World) (b n : Nat) (A : Option Addr) (l : List UInt8) (c : Nat) (hn : n < 4611686018427387904) (hl : l.length ≤ 1000000000) (hm : Mem w (varF b A l c)) :
    Con Tryz.prog n_box_Term_print_1 #[.int .i64 n, .pointer (some ⟨b, 0, none⟩)] w (varF b A l c) fun v Fs => v = .tuple #[] ∧ ∃ A' c', Fs = varF b A' (l ++ Bx.vint n) c' := by
  have g := good_box_Term_print_1 w (Un (varF b A l c))
  refine con_of_sx (cx := cx_box_Term_print_1 w (Un (varF b A l c))) g b_box_Term_print_1 rfl rfl (β := Va.z) [.c (.v (.int .i64 n)), .c (.v (.pointer (some ⟨b, 0, none⟩)))] 0 [] _ rfl rfl (hm.sat0 rfl (fun f hf _ k hk => ⟨f, hf, hk⟩)) ?_
  refine loop_rule (ι := LgS) 0 (fun i => [(0, .c (.v (.int .i64 i.n))), (1, .c (.v (.pointer (some ⟨b, 0, none⟩))))]) (fun _ => []) (fun i => varF b i.A i.l i.c)
    (fun i => i.n < 4611686018427387904 ∧ i.l ++ Bx.vint i.n = l ++ Bx.vint n) (fun i => i.n) ⟨n, A, l, c⟩ ⟨hn, rfl⟩ (Ent.same ⟨rfl, rfl, trivial⟩ rfl) g ?_
  rintro ⟨m, A1, l1, c1⟩ ⟨hm1, he⟩
  simp only at hm1 he
  have hl1 : l1.length ≤ 1000000009 := by
    have h1 := congrArg List.length he
    simp only [List.length_append] at h1
    have h2 := vint_nine hn
    omega
  have hcell : ∀ (w' : World) (A : Option Addr) (l : List UInt8) (c : Nat), (bkF b ty_sl_uint8 [.slice A l.length c]).p w' → w'.cell? ⟨b, 0, none⟩ = some (.slice A l.length c) := fun w' A l c h => by
    have hb : w'.heap[b]? = some (.cells #[.slice A l.length c] ty_sl_uint8 (0, 0)) := h
    rw [cell_of_row w' b 0 _ _ _ hb]; rfl
  refine BIf.dec (fun hge => ?_) (fun hlt => ?_)
  · have hge0 : (128 : Int) ≤ (m : Int) := hge
    have hnl : ¬ m < 128 := by omega
    refine ⟨.slice A1 l1.length c1, fun β w' hs => hcell _ _ _ _ (hs.get 0 rfl), ?_⟩
    refine ⟨_, wrap_u8b m, _, or128 m, ?_⟩
    intro b2
    refine ⟨2, l1.length, l1.length + 1, l1.map byte, [byte (UInt8.ofNat (m % 128 + 128))], (l1 ++ [UInt8.ofNat (m % 128 + 128)]).map byte, rfl, fun β w' hs => row_rd (hs.get 0 rfl), bytes_one [UInt8.ofNat (m % 128 + 128)], rfl, by simp, by rw [maxLen_eq]; omega, by show (l1.length + 1) * 1 ≤ _; omega, ?_⟩
    intro A' c' h1 h2 h3
    refine ⟨_, fun β w' hs => hs.bkSet 1 (o := 0) (us := [.slice A' (l1.length + 1) c']) rfl (Nat.le_refl 1) (fun u hu => by obtain rfl := List.mem_singleton.1 hu; rfl), ?_⟩
    refine ⟨by decide, ((m / 128 : Nat) : Int), shr_nat m 7, ?_⟩
    refine ⟨⟨m / 128, A', l1 ++ [UInt8.ofNat (m % 128 + 128)], c'⟩, ⟨by show m / 128 < _; omega, ?_⟩, by show m / 128 < m; omega, ?_⟩
    · show l1 ++ [UInt8.ofNat (m % 128 + 128)] ++ Bx.vint (m / 128) = _
      rw [← he, Bx.vint_ge hnl]
      simp
    · refine Ent.mk' ⟨rfl, rfl, trivial⟩ rfl ?_
      intro β w' hs
      have e : (l1 ++ [UInt8.ofNat (m % 128 + 128)]).length = l1.length + 1 := by simp
      have hs2 := hs.perm [1, 2]
      show Sat _ _ _ _ (varF b A' (l1 ++ [UInt8.ofNat (m % 128 + 128)]) c') _
      unfold varF browF
      rw [e]
      exact hs2
  · have hlt0 : ¬ (128 : Int) ≤ (m : Int) := hlt
    have hl : m < 128 := by omega
    refine ⟨.slice A1 l1.length c1, fun β w' hs => hcell _ _ _ _ (hs.get 0 rfl), ?_⟩
    refine ⟨_, wrap_u8b m, ?_⟩
    intro b2
    refine ⟨2, l1.length, l1.length + 1, l1.map byte, [byte (UInt8.ofNat m)], (l1 ++ [UInt8.ofNat m]).map byte, rfl, fun β w' hs => row_rd (hs.get 0 rfl), bytes_one [UInt8.ofNat m], rfl, by simp, by rw [maxLen_eq]; omega, by show (l1.length + 1) * 1 ≤ _; omega, ?_⟩
    intro A' c' h1 h2 h3
    refine ⟨_, fun β w' hs => hs.bkSet 1 (o := 0) (us := [.slice A' (l1.length + 1) c']) rfl (Nat.le_refl 1) (fun u hu => by obtain rfl := List.mem_singleton.1 hu; rfl), ?_⟩
    intro β w' hs
    have e0 : l ++ Bx.vint n = l1 ++ [UInt8.ofNat m] := by rw [← he, Bx.vint_lt hl]
    have e : (l1 ++ [UInt8.ofNat m]).length = l1.length + 1 := by simp
    refine hs.fin [1, 2] ⟨rfl, A', c', ?_⟩
    rw [e0]
    unfold varF browF
    rw [e]
    rfl
end Go.Proofs.YtoifclfanabalaaGreatDoor.Sx

namespace Go.Proofs.YtoifclfanabalaaGreatDoor.Sx
open Go Sha
attribute [local irreducible] Calls
theorem chg_of {w w' : World} (h : RowKit.Below w.heap.size w w') : Chg None_ w w' := ⟨h.os, h.tape, h.output, h.size, fun k hk _ => h.block k hk⟩
end Go.Proofs.YtoifclfanabalaaGreatDoor.Sx

namespace Go.Proofs.YtoifclfanabalaaGreatDoor.Sx
open Go
attribute [local irreducible] Calls
theorem Bs.holds {w : World} {A : Option Addr} {l : List UInt8} (h : Bs w A l) (c : Nat) : Lib.HoldsBytes w (.slice A l.length c) l := by
  refine ⟨A, c, rfl, fun q => ?_, fun a q i x hx => ?_⟩
  · subst q
    rcases Nat.eq_zero_or_pos l.length with h0 | h0
    · exact List.eq_nil_of_length_eq_zero h0
    · obtain ⟨ad, q, _⟩ := h.2 h0; cases q
  · have hi : i < l.length := (List.getElem?_eq_some_iff.1 hx).1
    obtain ⟨ad, q2, hc⟩ := h.2 (by omega)
    rw [q] at q2
    obtain rfl := Option.some.inj q2
    exact hc i (byte x) (by simp [hx])
theorem join_nil (ls : List (List UInt8)) : Lib.join ls [] = ls.flatten := by
  simp [Lib.join, List.intercalate]
  induction ls with
  | nil => rfl
  | cons a r ih =>
    cases r with
    | nil => simp
    | cons b r => simp [ih]
theorem lens_flat (ls : List (List UInt8)) : Lib.lens ls = ls.flatten.length := by
  simp [Lib.lens, List.length_flatten]
def readOut (l : List UInt8) (v : Value) (Fs : List Fact) : Prop := ∃ A c, v = .slice A l.length c ∧ l.length ≤ c ∧ c ≤ maxLen ∧ Fs = [rdoF 1 A l.length (l.map byte)]
theorem fin_read {w w' : World} {A : Option Addr} {l : List UInt8} {c : Nat} (hr : Bs w' A l) (hc : Chg None_ w w') (hD : ∀ k, (bsF A l).D k → w.heap.size ≤ k) (h1 : l.length ≤ c) (h2 : c ≤ maxLen) : Fin w [] (readOut l) (.slice A l.length c) w' := by
  refine ⟨[rdoF 1 A l.length (l.map byte)], ⟨A, c, rfl, h1, h2, rfl⟩, by rw [Un.nil]; exact hc, ⟨fun g hg => ?_, fun g hg k hk => ?_, List.pairwise_singleton _ _⟩, ⟨rfl, trivial⟩, fun g hg k hk => ?_⟩
  · obtain rfl := List.mem_singleton.1 hg; exact hr
  · obtain rfl := List.mem_singleton.1 hg; exact rd_lt hr k hk
  · obtain rfl := List.mem_singleton.1 hg; exact .inr (hD k hk)
theorem fresh_fin {w w' : World} {v : Value} {l : List UInt8} (hf : Lib.FreshBytes w.heap.size w' v l) (hb : RowKit.Below w.heap.size w w') : Fin w [] (readOut l) v w' := by
  obtain ⟨g, cap, zs, rfl, hg, h1, h2, hz, hz2, hbo, hc, _⟩ := hf
  refine fin_read ?_ (chg_of hb) ?_ h1 h2
  · refine ⟨by simp, fun hp => ⟨_, rfl, fun j u hu => ?_⟩⟩
    rw [List.getElem?_map] at hu
    obtain ⟨x, hx, rfl⟩ := Option.map_eq_some_iff.1 hu
    have hj : j < l.length := (List.getElem?_eq_some_iff.1 hx).1
    rw [add_none, Nat.zero_add, hc j (by omega)]
    have hj2 : j < zs.length := by omega
    have h3 : (Lib.bytesOf (zs.take l.length))[j]? = some x := by rw [hbo]; exact hx
    rw [Lib.bytesOf, List.getElem?_map, List.getElem?_take, if_pos hj, List.getElem?_eq_getElem hj2] at h3
    have h4 : UInt8.ofNat zs[j].toNat = x := by simpa using h3
    have h5 : zs.getD j 0 = zs[j] := by simp [hj2]
    have h6 := hz2 zs[j] (List.getElem_mem hj2)
    have h7 : (x.toNat : Int) = zs[j] := by
      rw [← h4, UInt8.toNat_ofNat']
      omega
    rw [h5, ← h7]
    rfl
  · rintro k ⟨_, ad, q, rfl⟩
    obtain rfl := Option.some.inj q
    exact hg
theorem joinN_c (w : World) (b c : Nat) (vs : List Value) (ls : List (List UInt8)) (hP : Rd 1 (some ⟨b, 0, none⟩) ls.length vs w) (hH : ∀ (i : Nat) v l, vs[i]? = some v → ls[i]? = some l → Lib.HoldsBytes w v l) (h2 : 2 ≤ ls.length) (hcap : ls.length ≤ c) (hn : ls.length ≤ 1000) (hlen : ls.flatten.length ≤ 140737488355328) :
    Con Tryz.prog n_bytes_Join #[.slice (some ⟨b, 0, none⟩) ls.length c, .slice none 0 0] w [] (readOut ls.flatten) := by
  refine con_of_calls (Calls.mono (Tryz.bytes_Join_many b 0 ls.length c vs ls (.slice none 0 0) [] w rfl h2 ⟨by have := hP.1; omega, fun i v hv => ?_, hH⟩ hcap ⟨none, 0, rfl, fun _ => rfl, fun a q => by cases q⟩ (by omega) (by rw [lens_flat]; simpa using hlen)) ?_)
  · obtain ⟨ad, q, hc⟩ := hP.2 (by omega)
    obtain rfl := Option.some.inj q
    exact hc i v hv
  · rintro e w' ⟨v, rfl, hf, hb⟩
    rw [join_nil] at hf
    exact ⟨v, rfl, fresh_fin hf hb⟩
end Go.Proofs.YtoifclfanabalaaGreatDoor.Sx

namespace Go.Proofs.YtoifclfanabalaaGreatDoor.Sx
open Go Sha
attribute [local irreducible] Calls
theorem Mem.lastRo {w : World} {f R X : Fact} {A : Option Addr} {l : List UInt8} (h : Mem w [f, R, X, rdoF 1 A l.length (l.map byte)]) : Mem w [f, R, X, bsF A l] := by
  refine ⟨fun g hg => ?_, fun g hg k hk => ?_, ?_⟩
  · simp only [List.mem_cons, List.not_mem_nil, or_false] at hg
    rcases hg with rfl | rfl | rfl | rfl
    · exact h.fact _ (by simp)
    · exact h.fact _ (by simp)
    · exact h.fact _ (by simp)
    · exact h.fact (rdoF 1 A l.length (l.map byte)) (by simp)
  · simp only [List.mem_cons, List.not_mem_nil, or_false] at hg
    rcases hg with rfl | rfl | rfl | rfl
    · exact h.flt _ (by simp) k hk
    · exact h.flt _ (by simp) k hk
    · exact h.flt _ (by simp) k hk
    · exact h.flt (rdoF 1 A l.length (l.map byte)) (by simp) k hk
  · have hs := h.sepf
    simp only [List.pairwise_cons, List.mem_cons, List.not_mem_nil, or_false, forall_eq_or_imp, forall_eq, false_implies, implies_true, List.Pairwise.nil, and_true] at hs ⊢
    obtain ⟨⟨a1, a2, a3⟩, ⟨b1, b2⟩, c1⟩ := hs
    exact ⟨⟨a1, a2, fun _ => a3 (.inr rfl)⟩, ⟨b1, fun _ => b2 (.inr rfl)⟩, fun _ => c1 (.inr rfl)⟩
theorem sumJ_c (w : World) (P : Option Addr) (nP cP : Nat) (l : List UInt8) (hj : ∀ w', (oldF w).p w' → Con Tryz.prog n_bytes_Join #[.slice P nP cP, .slice none 0 0] w' [] (readOut l)) (hn : l.length ≤ 70368744177664) (h1 : (oddF 2).p w) (h0 : (firstF 0).p w) :
    Con Tryz.prog n_sha_Sum #[.slice P nP cP] w [] fun v Fs => ∃ A' c', v = .slice A' 32 c' ∧ 32 ≤ c' ∧ c' ≤ maxLen ∧ Fs = [browF ty_uint8 A' (Sha.sum l) c'] := by
  have g := good_sha_Sum w (Un [])
  have hs0 : Sat (cx_sha_Sum w (Un [])) Va.z 0 [] [oldF w] w := old_sat rfl
  have hs1 : Sat (cx_sha_Sum w (Un [])) Va.z 0 [] [oddF 2, oldF w] w := hs0.sub 0 rfl rfl _ rfl h1 (rd_lt h1)
  refine con_of_sx (cx := cx_sha_Sum w (Un [])) g b_sha_Sum rfl rfl (β := Va.z) [.c (.v (.slice P nP cP))] 0 [] [oddF 2, oldF w] rfl rfl hs1 ?_
  refine ⟨Sha.first.l.map u32, rfl, fun β w' hs j u hu => ?_, ?_⟩
  · have h2 : Rd 1 (some ⟨0, 0, none⟩) 8 (Sha.first.l.map u32) w' := Rd.old h0 (hs.get 1 rfl)
    obtain ⟨ad, h3, h4⟩ := h2.2 (by decide)
    obtain rfl := Option.some.inj h3
    exact h4 j u hu
  refine call_con [] (fun β w' hs => hj w' (hs.get 1 rfl)) ?_
  rintro v Fs ⟨A1, c1, rfl, h2, h3, rfl⟩
  refine call_con [] (fun β w' hs => Blocks_c w' A1 l.length c1) ?_
  rintro v Fs ⟨bx, rfl, rfl⟩
  refine reify_rule g 0 (fun _ => Sha.first.l.map u32) rfl rfl (fun _ => rfl) (fun sb => ?_)
  obtain ⟨q, hq⟩ : ∃ q, l ++ ends l.length = q := ⟨_, rfl⟩
  have hsum : Sha.sum l = out ((blks q (q.length / 64)).foldl Sha.step Sha.first) := by rw [← go_eq, ← hq]; rfl
  rw [hsum]
  refine range_rule (α := List UInt8) (ι := S8) (κ := S8) g rfl (cv := [.pointer (some ⟨bx, 0, none⟩)]) rfl (by kernel_rfl) 1 (Nat.le_refl 1)
    (fun pre s => s = pre.foldl Sha.step Sha.first) (fun _ => []) (fun s => [stF sb 145 s]) (fun _ => ⟨rfl, trivial⟩)
    (fun _ _ _ => False) (fun _ => []) (fun _ => []) (fun _ => trivial)
    [bkF bx ty_sl_uint8 [.slice A1 l.length c1]] [rdoF 1 A1 l.length (l.map byte)] [oddF 2] ⟨rfl, trivial⟩ (fun g hg => by obtain rfl := List.mem_singleton.1 hg; rfl)
    Sha.first rfl (fun β w' hs => ⟨β, Agr.refl _ _, hs.perm [1, 2, 0, 3]⟩) (fun _ => insB)
    (fun xs Fs' => xs = blks q (q.length / 64) ∧ Fs' = []) (fun _ Fs' => Fs' = [])
    (fun l' w' f0 R J Jx hJ0 hJo hRo hY hm => (blocks_it l' w' bx A1 l c1 f0 R J Jx hJ0 hJo hRo hY hn hm.lastRo).mono fun _ Fs h => by rw [hq] at h; exact h) ?_ ?_ ?_
  · rintro s pre x args X W S l' bs pn pn' hbs hpre ⟨hx, B, rfl, rfl⟩
    refine ⟨_, rfl, ?_⟩
    refine call_con [1] (fun β w' hs => step64_c w' sb 145 s B x hx (hs.mem.take (js := [1, 0, 2]) rfl)) ?_
    rintro v Fs ⟨rfl, rfl⟩
    refine ⟨Sha.step s x, by show Sha.step s x = (pre ++ [x]).foldl Sha.step Sha.first; rw [List.foldl_append, hpre]; rfl, Ent.mk' trivial rfl (fun β w' hs => ?_)⟩
    exact hs.weaken (List.Sublist.refl _) (List.Sublist.cons_cons _ (List.nil_sublist _))
  · rintro xs s Fs hpre ⟨rfl, rfl⟩
    refine call_con [0] (fun β w' hs => stbytes_c w' sb 145 s (hs.mem.take (js := [0]) rfl)) ?_
    rintro v Fs ⟨A3, c3, rfl, h5, h6, rfl⟩
    intro β w' hs
    refine hs.fin [1] ⟨A3, c3, rfl, h5, h6, ?_⟩
    rw [← hpre]
    rfl
  · rintro e pre s Fs h _
    exact h.elim
end Go.Proofs.YtoifclfanabalaaGreatDoor.Sx

namespace Go.Proofs.YtoifclfanabalaaGreatDoor.Sx
open Go
def keyL (l : List UInt8) : List UInt8 := if 64 < l.length then Sha.sum l else l
def padL (l : List UInt8) (x : UInt8) : List UInt8 := (keyL l).map (x ^^^ ·) ++ List.replicate (64 - (keyL l).length) x
def hmL (key text : List UInt8) : List UInt8 := Sha.sum (padL key 0x5c ++ Sha.sum (padL key 0x36 ++ text))
def strU (pass salt : List UInt8) : Nat → List UInt8
  | 0 => hmL pass (salt ++ Bx.be4 1)
  | n + 1 => hmL pass (strU pass salt n)
def strX (pass salt : List UInt8) : Nat → List UInt8
  | 0 => strU pass salt 0
  | n + 1 => Bx.xorB (strX pass salt n) (strU pass salt (n + 1))
def stretchL (pass salt : List UInt8) (rounds : Nat) : List UInt8 := strX pass salt (rounds - 1)
theorem sum_len (l : List UInt8) : (Sha.sum l).length = 32 := rfl
theorem keyL_len {l : List UInt8} : (keyL l).length ≤ 64 := by
  unfold keyL
  split
  · rw [sum_len]; omega
  · omega
theorem padL_len (l : List UInt8) (x : UInt8) : (padL l x).length = 64 := by
  unfold padL
  have := keyL_len (l := l)
  simp only [List.length_append, List.length_map, List.length_replicate]
  omega
theorem hmL_len (k t : List UInt8) : (hmL k t).length = 32 := rfl
theorem strU_len (p s : List UInt8) : ∀ n, (strU p s n).length = 32
  | 0 => rfl
  | _ + 1 => rfl
theorem strX_len (p s : List UInt8) : ∀ n, (strX p s n).length = 32
  | 0 => strU_len p s 0
  | n + 1 => by
    rw [strX, Bx.xorB, List.length_zipWith, strX_len p s n, strU_len p s (n + 1)]
    rfl
end Go.Proofs.YtoifclfanabalaaGreatDoor.Sx

namespace Go.Proofs.YtoifclfanabalaaGreatDoor.Sx
open Go
attribute [local irreducible] Calls
section
variable {cx : Cx} {β : Va} {n : Nat} {env : Env} {H : List Bk} {F : List Fact} {w : World}
theorem Sat.copyBk (h : Sat cx β n H F w) (g : Good cx) (j : Nat) {b o k c e m cs r : Nat} {A : Option Addr} {cells ys : List Value} (hj : nth F j = some (bkF b e cells)) (hr : Rd 1 A m ys w) (h1 : ∀ u ∈ ys, u.oneCell' = true)
    {t : TypeId} {i ie : TI} (ty : TypeId) (cst : Array Bool) (hm : min m k = r) (hfit : o + r ≤ cells.length) (hi : lk cx.tt t = some i := by rfl) (hd : i.desc = .slice e := by rfl) (hie : lk cx.tt e = some ie := by rfl) (hz : ie.size = 1 := by rfl) :
    ∃ w', (builtin .copy #[t, t] ty cst #[.slice (some ⟨b, o, none⟩) k c, .slice A m cs]).run cx.P w = .ok (.value (.int .i64 (r : Int))) w' ∧
      Sat cx β n H (putAt F j (bkF b e (putAll cells o (ys.take r)))) w' := by
  subst hm
  have ht := (g.ti hi).real (d := .slice _) hd rfl
  have tie := g.ti hie
  have hrt := hr.take (k := min m k) (Nat.min_le_left _ _)
  have hsz := tie.run_size w
  rw [hz] at hsz
  have hfc : (Builtin.firstCells 1 (min m k) (.slice A m cs)).run cx.P w = .ok (ys.take (min m k)).toArray w := by
    cases A with
    | none =>
      have h0 : min m k = 0 := by
        rcases Nat.eq_zero_or_pos (min m k) with q | q
        · exact q
        · obtain ⟨ad, q, _⟩ := hrt.2 q; cases q
      rw [h0]
      rfl
    | some ad =>
      have hl := run_loadCells_list (P := cx.P) (w := w) ad (ys.take (min m k)) (fun j u hu => by
        have hp : 0 < min m k := by
          rcases Nat.eq_zero_or_pos (min m k) with q | q
          · rw [q] at hu; simp at hu
          · exact q
        obtain ⟨ad', q, hc⟩ := hrt.2 hp
        obtain rfl := Option.some.inj q
        exact hc j u hu)
      have hlen : (ys.take (min m k)).length = min m k := by rw [hrt.1, Nat.mul_one]
      rw [hlen] at hl
      simpa [Builtin.firstCells] using hl
  obtain ⟨w', e1, e2⟩ := h.bkSet (us := ys.take (min m k)) (o := o) j hj (by rw [hrt.1]; omega) (fun u hu => h1 u (List.take_subset _ _ hu))
  rw [add_none, Nat.zero_add] at e1
  refine ⟨w', ?_, e2⟩
  have hmin : Nat.min m k = min m k := rfl
  simp [builtin, Builtin.copy_, run_underlying ht, Builtin.lenOf, hsz, hfc, e1, goInt, hmin]
end
theorem bk_rd {b e : Nat} {cells : List Value} {w : World} (h : (bkF b e cells).p w) {k : Nat} (hk : k ≤ cells.length) : Rd 1 (some ⟨b, 0, none⟩) k (cells.take k) w := by
  refine ⟨by rw [List.length_take]; omega, fun _ => ⟨_, rfl, fun j u hu => ?_⟩⟩
  rw [List.getElem?_take] at hu
  split at hu
  · rw [add_none, Nat.zero_add]
    have h' : w.heap[b]? = some (.cells cells.toArray e (0, 0)) := h
    rw [cell_of_row w b j _ _ _ h']
    simpa using hu
  · cases hu
theorem bk_bs {b e : Nat} {l : List UInt8} {junk : List Value} {w : World} (h : (bkF b e (l.map byte ++ junk)).p w) : Bs w (some ⟨b, 0, none⟩) l := by
  have := bk_rd h (k := l.length) (by simp)
  rwa [List.take_left' (by simp)] at this
theorem mul_c (w : World) : Pu Tryz.prog n_math_bits_Mul #[.int .u64 1, .int .u64 64] w (.tuple #[.int .u64 0, .int .u64 64]) := by
  refine pu_of (Calls.mono (Tryz.bits_Mul 1 64 (by decide) (by decide) w) ?_)
  rintro e w' ⟨rfl, rfl⟩
  exact ⟨_, rfl, rfl, Chg.refl _ _⟩
theorem mnz_run (w : World) (n : Nat) (hn : n ≤ 281474976710656) : ∃ cs : List Value, (callFunc 71 #[.int .i64 n]).run Tryz.prog w = .ok (.value (.slice (some ⟨w.heap.size, 0, none⟩) n cs.length)) (w.drew.drew.alloc (.cells cs.toArray ty_uint8)) ∧ n ≤ cs.length := by
  obtain ⟨cs, h1, h2, _⟩ := Lib.run_makeNoZero (P := Tryz.prog) w #[] ty_sl_uint8 ty_uint8 ((ok22).real (d := .slice _) rfl rfl) n hn
  refine ⟨cs.toList, ?_, by simpa using h2⟩
  have hx := run_callFunc_extern (P := Tryz.prog) (f := 71) (fn := Tryz.f71) (e := Extern.BytealgMakeNoZero.makeNoZero #[ty_int] #[ty_sl_uint8]) Tryz.func71 (by decide +kernel) rfl (by rfl) (by rfl) #[.int .i64 n] w
  rw [hx]
  have h1' : (Extern.BytealgMakeNoZero.makeNoZero #[ty_int] #[ty_sl_uint8] #[.int .i64 n]).run Tryz.prog w = _ := h1
  rw [h1']
  simp
end Go.Proofs.YtoifclfanabalaaGreatDoor.Sx

namespace Go.Proofs.YtoifclfanabalaaGreatDoor.Sx
open Go
attribute [local irreducible] Calls
theorem putAll_app {α : Type} (a b ys : List α) (h : ys.length ≤ b.length) : putAll (a ++ b) a.length ys = a ++ ys ++ b.drop ys.length := by
  rw [putAll_all _ _ _ (by simp; omega)]
  rw [List.take_left' rfl, List.drop_append]
  simp [show a.length + ys.length - a.length = ys.length by omega]
theorem cutA_at (b k : Nat) {m : Nat} (h : m ≠ k) : cutA (some ⟨b, 0, none⟩) m k 1 = some ⟨b, k, none⟩ := by
  unfold cutA
  rw [if_neg h]
  simp [add_none]
theorem cutA_0 (A : Option Addr) {m : Nat} (h : A = none ∨ ∃ b o, A = some ⟨b, o, none⟩) : cutA A m 0 1 = A := by
  unfold cutA
  split
  · rfl
  · rcases h with rfl | ⟨b, o, rfl⟩
    · rfl
    · simp [add_none]
def reps (k : Nat) (x : UInt8) : List Value := (List.replicate k x).map byte
theorem reps_len (k : Nat) (x : UInt8) : (reps k x).length = k := by simp [reps]
theorem reps_take {k r : Nat} (x : UInt8) (h : r ≤ k) : (reps k x).take r = reps r x := by
  unfold reps
  rw [← List.map_take, List.take_replicate, Nat.min_eq_left h]
theorem reps_add (k r : Nat) (x : UInt8) : reps k x ++ reps r x = reps (k + r) x := by
  unfold reps
  rw [← List.map_append, List.replicate_append_replicate]
theorem reps_one (k : Nat) (x : UInt8) : ∀ u ∈ reps k x, u.oneCell' = true := bytes_one _
set_option maxHeartbeats 1000000 in
theorem repeat64_c (w : World) (B : Option Addr) (cB : Nat) (x : UInt8) (hr : Rd 1 B 1 [byte x] w) :
    Con Tryz.prog n_bytes_Repeat #[.slice B 1 cB, .int .i64 64] w [] fun v Fs => ∃ b junk, v = .slice (some ⟨b, 0, none⟩) 64 64 ∧ Fs = [bkF b ty_uint8 (reps 64 x ++ junk)] := by
  have g := good_bytes_Repeat w (Un [])
  refine con_of_sx (cx := cx_bytes_Repeat w (Un [])) g b_bytes_Repeat rfl rfl (β := Va.z) [.c (.v (.slice B 1 cB)), .c (.v (.int .i64 64))] 0 [] [oldF w] rfl rfl (old_sat rfl) ?_
  refine ⟨1, by decide, 64, by decide, ?_⟩
  refine call_pu (fun β w' hs => mul_c w') ?_
  refine ⟨64, by decide, ?_⟩
  refine .inr (fun β w' hs => ?_)
  obtain ⟨cs, hrun, hcs⟩ := mnz_run w' 64 (by decide)
  have hs1 : Sat (cx_bytes_Repeat w (Un [])) β 0 [] (bkF w'.heap.size ty_uint8 cs :: [oldF w]) (w'.drew.drew.alloc (.cells cs.toArray ty_uint8)) := by
    refine hs.drew.drew.add (Chg.alloc _ _) _ (heap_alloc_new _ _) (fun k hk => ?_)
    obtain rfl : k = w'.heap.size := hk
    exact ⟨Nat.le_refl _, by simp⟩
  refine ⟨_, _, hrun, Ret.mk [] _ hs1 ?_⟩
  obtain ⟨b, hb⟩ : ∃ b, w'.heap.size = b := ⟨_, rfl⟩
  rw [hb]
  clear hs1 hrun hs
  refine ⟨64, 64, 0, 64, 64, some ⟨b, 0, none⟩, rfl, rfl, rfl, hcs, Nat.le_refl _, Nat.zero_le _, rfl, rfl, cutA_0 _ (.inr ⟨b, 0, rfl⟩), ?_⟩
  refine ⟨[], [bkF b ty_uint8 (reps 1 x ++ cs.drop 1), oldF w], .c (.v (.int .i64 1)), fun β w' ty hs => ?_, trivial, ?_⟩
  · obtain ⟨w2, q1, q2⟩ := hs.copyBk g 0 rfl (hr.old (hs.get 1 rfl)) (reps_one 1 x) ty (t := ty_sl_uint8) #[false, false] (r := 1) (k := 64) (m := 1) (c := 64) (cs := cB) (o := 0) rfl (by omega)
    have e1 : putAll cs 0 ([byte x].take 1) = reps 1 x ++ cs.drop 1 := by
      have := putAll_app [] cs [byte x] (by simp; omega)
      show putAll cs 0 [byte x] = [byte x] ++ cs.drop 1
      simpa using this
    rw [e1] at q2
    exact ⟨w2, q1, q2⟩
  refine loop_rule (ι := Nat × List Value) 0 (fun i => [(7, .c (.v (.int .i64 64))), (8, .c (.v (.int .i64 64))), (9, .c (.v (.slice (some ⟨b, 0, none⟩) 64 64))), (10, .c (.v (.int .i64 (i.1 : Int))))]) (fun _ => []) (fun i => [bkF b ty_uint8 (reps i.1 x ++ i.2), oldF w])
    (fun i => 1 ≤ i.1 ∧ i.1 ≤ 64 ∧ 64 ≤ i.1 + i.2.length) (fun i => 64 - i.1) (1, cs.drop 1) ⟨Nat.le_refl _, by show 1 ≤ 64; decide, by simp only [List.length_drop]; omega⟩ (Ent.same ⟨rfl, rfl, rfl, rfl, trivial⟩ rfl) g ?_
  rintro ⟨k, junk⟩ ⟨h1, h2, h3⟩
  simp only at h1 h2 h3
  refine BIf.dec (fun hlt => ?_) (fun hge => ?_)
  · have hlt0 : (k : Int) < 64 := hlt
    have hk : k < 64 := by omega
    obtain ⟨r, hr0⟩ : ∃ r, min k (64 - k) = r := ⟨_, rfl⟩
    refine ⟨(k : Int), by show min (k : Int) 64 = k; omega, ?_⟩
    refine draw_rule g p_bytes_Repeat_20 (by kernel_rfl) [] [] (Sub.of (List.Sublist.refl _) (List.nil_sublist _)) ?_
    refine ⟨64, 64, k, 64 - k, 64 - k, some ⟨b, k, none⟩, rfl, rfl, rfl, Nat.le_refl _, Nat.le_refl _, by omega, rfl, rfl, cutA_at b k (by omega), ?_⟩
    refine ⟨64, k, 0, k, 64, some ⟨b, 0, none⟩, rfl, rfl, rfl, Nat.le_refl _, by omega, Nat.zero_le _, rfl, rfl, cutA_0 _ (.inr ⟨b, 0, rfl⟩), ?_⟩
    refine ⟨[], [bkF b ty_uint8 (reps (k + r) x ++ junk.drop r), oldF w], .c (.v (.int .i64 (r : Int))), fun β w' ty hs => ?_, trivial, ?_⟩
    · have hrd : Rd 1 (some ⟨b, 0, none⟩) k (reps k x) w' := by
        have := bk_rd (hs.get 0 rfl) (k := k) (by simp [reps_len])
        rwa [List.take_left' (reps_len k x)] at this
      obtain ⟨w2, q1, q2⟩ := hs.copyBk g 0 rfl hrd (reps_one k x) ty (t := ty_sl_uint8) #[false, false] (r := r) (k := 64 - k) (m := k) (c := 64 - k) (cs := 64) (o := k) hr0 (by simp only [List.length_append, reps_len]; omega)
      have e1 : putAll (reps k x ++ junk) k ((reps k x).take r) = reps (k + r) x ++ junk.drop r := by
        have := putAll_app (reps k x) junk ((reps k x).take r) (by rw [List.length_take, reps_len]; omega)
        rw [reps_len] at this
        rw [this, reps_take x (by omega), reps_add, reps_len]
      rw [e1] at q2
      exact ⟨w2, q1, q2⟩
    refine ⟨Sub.of (List.Sublist.refl _) (List.nil_sublist _), ((k + r : Nat) : Int), by rw [wrap_i64 (by omega) (by omega)]; omega, ?_⟩
    exact ⟨(k + r, junk.drop r), ⟨by show 1 ≤ k + r; omega, by show k + r ≤ 64; omega, by show 64 ≤ k + r + (junk.drop r).length; rw [List.length_drop]; omega⟩, by show 64 - (k + r) < 64 - k; omega, Ent.same ⟨rfl, rfl, rfl, rfl, trivial⟩ rfl⟩
  · have hge0 : ¬ (k : Int) < 64 := hge
    obtain rfl : k = 64 := by omega
    intro β w' hs
    exact hs.fin [0] ⟨b, junk, rfl, rfl⟩
def padN (k : List UInt8) (x : UInt8) (i : Nat) : List UInt8 := (k.take i).map (x ^^^ ·) ++ List.replicate (64 - i) x
theorem padN_len {k : List UInt8} {x : UInt8} {i : Nat} (h : i ≤ k.length) (h2 : i ≤ 64) : (padN k x i).length = 64 := by
  unfold padN
  simp only [List.length_append, List.length_map, List.length_take, List.length_replicate]
  omega
theorem padN_at {k : List UInt8} {x : UInt8} {i : Nat} (h : i < k.length) (h2 : i < 64) : (padN k x i)[i]? = some x := by
  unfold padN
  rw [List.getElem?_append_right (by simp only [List.length_map, List.length_take]; omega)]
  simp only [List.length_map, List.length_take]
  rw [List.getElem?_replicate, if_pos (by omega)]
theorem padN_set {k : List UInt8} {x y : UInt8} {i : Nat} (h : k[i]? = some y) (h2 : i < 64) : (padN k x i).set i (x ^^^ y) = padN k x (i + 1) := by
  have hi : i < k.length := (List.getElem?_eq_some_iff.1 h).1
  unfold padN
  rw [List.set_append_right _ _ (by simp only [List.length_map, List.length_take]; omega)]
  simp only [List.length_map, List.length_take]
  rw [show i - min i k.length = 0 by omega, show 64 - i = (64 - (i + 1)) + 1 by omega, List.replicate_succ, List.set_cons_zero, List.take_add_one, h]
  simp
theorem padN_all (k : List UInt8) (x : UInt8) : padN k x k.length = k.map (x ^^^ ·) ++ List.replicate (64 - k.length) x := by
  unfold padN
  rw [List.take_length]
theorem Con.real {P : Program} {k : FuncId} {args : Array Value} {w : World} {Gs : List Fact} {R : Value → List Fact → Prop} (h : Con P k args w Gs R) : Con P k args w Gs (fun v Fs => R v Fs ∧ ∃ w', Mem w' Fs) :=
  Calls.mono h fun _ w' ⟨v, he, Fs, hR, hc, hm, ho, hD⟩ => ⟨v, he, Fs, ⟨hR, w', hm⟩, hc, hm, ho, hD⟩
theorem padN_0 (k : List UInt8) (x : UInt8) : (padN k x 0).map byte = reps 64 x := by simp [padN, reps]
set_option maxHeartbeats 1000000 in
theorem pad_c (w : World) (A : Option Addr) (l : List UInt8) (c : Nat) (x : UInt8) (hr : Bs w A l) (hn : l.length ≤ 1000000) (h1 : (oddF 2).p w) (h0 : (firstF 0).p w) :
    Con Tryz.prog n_hmac_pad #[.slice A l.length c, byte x] w [] fun v Fs => ∃ b junk, v = .slice (some ⟨b, 0, none⟩) 64 64 ∧ Fs = [bkF b ty_uint8 ((padL l x).map byte ++ junk)] := by
  have g := good_hmac_pad w (Un [])
  refine con_of_sx (cx := cx_hmac_pad w (Un [])) g b_hmac_pad rfl rfl (β := Va.z) [.c (.v (.slice A l.length c)), .c (.v (byte x))] 0 [] [oldF w] rfl rfl (old_sat rfl) ?_
  refine BIf.dec (fun hlt => ?_) (fun hge => ?_)
  · have hlt0 : (64 : Int) < (l.length : Int) := hlt
    intro b0
    obtain ⟨k, hks⟩ : ∃ k, Sha.sum l = k := ⟨_, rfl⟩
    have hk : keyL l = k := by unfold keyL; rw [if_pos (by omega)]; exact hks
    have hk64 : k.length ≤ 64 := by rw [← hk]; exact keyL_len
    refine call_con [] (R := fun v Fs => (∃ A' c', v = .slice A' k.length c' ∧ Fs = [browF ty_uint8 A' k c']) ∧ ∃ w', Mem w' Fs) (fun β w' hs => ((sum1_c w' (some ⟨b0, 0, none⟩) A 1 c l (row_rd (hs.get 0 rfl)) (Rd.old hr (hs.get 1 rfl)) (by omega) (Rd.old h1 (hs.get 1 rfl)) (Rd.old h0 (hs.get 1 rfl))).mono (by rintro v Fs ⟨A', c', rfl, _, _, rfl⟩; exact ⟨A', c', by rw [← hks]; rfl, by rw [hks]⟩)).real) ?_
    rintro v Fs ⟨⟨A2, c2, rfl, rfl⟩, w9, hm9⟩
    have hkr : ∀ {w'}, (browF ty_uint8 A2 k c2).p w' → Bs w' A2 k := fun h => row_rd h
    have hka : 0 < k.length → ∃ ad, A2 = some ad := fun h => Bs.addr (hkr (hm9.fact _ List.mem_cons_self)) h
    intro b1
    refine call_con [] (fun β w' hs => repeat64_c w' (some ⟨b1, 0, none⟩) 1 x (row_rd (hs.get 0 rfl))) ?_
    rintro v Fs ⟨b, junk, rfl, rfl⟩
    refine loop_rule (ι := Nat) 0 (fun i => [(17, .c (.v (.slice A2 k.length c2))), (18, .c (.v (.int .i64 (k.length : Int)))), (19, .c (.v (.int .i64 (i : Int)))), (5, .c (.v (.slice (some ⟨b, 0, none⟩) 64 64)))]) (fun _ => []) (fun i => [bkF b ty_uint8 ((padN k x i).map byte ++ junk), browF ty_uint8 A2 k c2])
      (fun i => i ≤ k.length) (fun i => k.length - i) 0 (Nat.zero_le _) (Ent.mk' ⟨rfl, rfl, rfl, rfl, trivial⟩ rfl (fun β w' hs => by rw [padN_0]; exact hs.perm [0, 2])) g ?_
    intro i hi
    refine BIf.dec (fun hlt2 => ?_) (fun hge2 => ?_)
    · have hlt0 : (i : Int) < (k.length : Int) := hlt2
      have hik : i < k.length := by omega
      obtain ⟨y, hy, _⟩ := at_lt hik
      obtain ⟨ad, hA⟩ := hka (by omega)
      refine ⟨ad, i, hA, rfl, hik, byte y, fun β w' hs => by
        have h := hkr (hs.get 1 rfl)
        rw [hA] at h
        exact Rd.cell1 h (by rw [List.getElem?_map, hy]; rfl), ?_⟩
      refine ⟨⟨b, 0, none⟩, i, rfl, rfl, by omega, byte x, fun β w' hs => by
        have h := bk_bs (hs.get 0 rfl)
        exact Rd.cell1 h (by rw [List.getElem?_map, padN_at hik (by omega)]; rfl), _, xor8 x y, ?_⟩
      refine ⟨⟨b, 0, none⟩, i, rfl, rfl, by omega, [bkF b ty_uint8 ((padN k x (i + 1)).map byte ++ junk), browF ty_uint8 A2 k c2], fun β w' hs => ?_, ?_⟩
      · have hpl := padN_len (k := k) (x := x) (i := i) (by omega) (by omega)
        obtain ⟨w2, q1, q2⟩ := hs.bkSet 0 (o := i) (us := [byte (x ^^^ y)]) rfl (by simp only [List.length_append, List.length_map, hpl, List.length_singleton]; omega) (fun u hu => by obtain rfl := List.mem_singleton.1 hu; rfl)
        have e : putAll ((padN k x i).map byte ++ junk) i [byte (x ^^^ y)] = (padN k x (i + 1)).map byte ++ junk := by
          rw [putAll, putAll, putAt_eq, List.set_append_left _ _ (by rw [List.length_map, hpl]; omega), ← padN_set hy (by omega), List.map_set]
        rw [e] at q2
        have q1' : (storeCells ((⟨b, 0, none⟩ : Addr).add (i * 1)) [byte (x ^^^ y)] 0).run (cx_hmac_pad w (Un [])).P w' = .ok () w2 := by rw [Nat.mul_one]; exact q1
        exact ⟨w2, q1', q2⟩
      · refine ⟨((i + 1 : Nat) : Int), by rw [wrap_i64 (by omega) (by omega)]; rfl, ?_⟩
        exact ⟨i + 1, hik, by omega, Ent.same ⟨rfl, rfl, rfl, rfl, trivial⟩ rfl⟩
    · have hge0 : ¬ (i : Int) < (k.length : Int) := hge2
      obtain rfl : i = k.length := by omega
      intro β w' hs
      refine hs.fin [0] ⟨b, junk, rfl, ?_⟩
      rw [padN_all]
      unfold padL
      rw [hk]
      rfl
  · have hge0 : ¬ (64 : Int) < (l.length : Int) := hge
    obtain ⟨k, hks⟩ : ∃ k, l = k := ⟨_, rfl⟩
    have hk : keyL l = k := by unfold keyL; rw [if_neg (by omega)]; exact hks
    have hk64 : k.length ≤ 64 := by rw [← hk]; exact keyL_len
    rw [hks] at hr
    have hlk : l.length = k.length := by rw [hks]
    rw [hlk]
    have hkr : ∀ {w'}, (oldF w).p w' → Bs w' A k := fun h => Rd.old hr h
    have hka : 0 < k.length → ∃ ad, A = some ad := fun h => hr.addr h
    intro b1
    refine call_con [] (fun β w' hs => repeat64_c w' (some ⟨b1, 0, none⟩) 1 x (row_rd (hs.get 0 rfl))) ?_
    rintro v Fs ⟨b, junk, rfl, rfl⟩
    refine loop_rule (ι := Nat) 0 (fun i => [(17, .c (.v (.slice A k.length c))), (18, .c (.v (.int .i64 (k.length : Int)))), (19, .c (.v (.int .i64 (i : Int)))), (5, .c (.v (.slice (some ⟨b, 0, none⟩) 64 64)))]) (fun _ => []) (fun i => [bkF b ty_uint8 ((padN k x i).map byte ++ junk), oldF w])
      (fun i => i ≤ k.length) (fun i => k.length - i) 0 (Nat.zero_le _) (Ent.mk' ⟨rfl, rfl, rfl, rfl, trivial⟩ rfl (fun β w' hs => by rw [padN_0]; exact hs.perm [0, 2])) g ?_
    intro i hi
    refine BIf.dec (fun hlt2 => ?_) (fun hge2 => ?_)
    · have hlt0 : (i : Int) < (k.length : Int) := hlt2
      have hik : i < k.length := by omega
      obtain ⟨y, hy, _⟩ := at_lt hik
      obtain ⟨ad, hA⟩ := hka (by omega)
      refine ⟨ad, i, hA, rfl, hik, byte y, fun β w' hs => by
        have h := hkr (hs.get 1 rfl)
        rw [hA] at h
        exact Rd.cell1 h (by rw [List.getElem?_map, hy]; rfl), ?_⟩
      refine ⟨⟨b, 0, none⟩, i, rfl, rfl, by omega, byte x, fun β w' hs => by
        have h := bk_bs (hs.get 0 rfl)
        exact Rd.cell1 h (by rw [List.getElem?_map, padN_at hik (by omega)]; rfl), _, xor8 x y, ?_⟩
      refine ⟨⟨b, 0, none⟩, i, rfl, rfl, by omega, [bkF b ty_uint8 ((padN k x (i + 1)).map byte ++ junk), oldF w], fun β w' hs => ?_, ?_⟩
      · have hpl := padN_len (k := k) (x := x) (i := i) (by omega) (by omega)
        obtain ⟨w2, q1, q2⟩ := hs.bkSet 0 (o := i) (us := [byte (x ^^^ y)]) rfl (by simp only [List.length_append, List.length_map, hpl, List.length_singleton]; omega) (fun u hu => by obtain rfl := List.mem_singleton.1 hu; rfl)
        have e : putAll ((padN k x i).map byte ++ junk) i [byte (x ^^^ y)] = (padN k x (i + 1)).map byte ++ junk := by
          rw [putAll, putAll, putAt_eq, List.set_append_left _ _ (by rw [List.length_map, hpl]; omega), ← padN_set hy (by omega), List.map_set]
        rw [e] at q2
        have q1' : (storeCells ((⟨b, 0, none⟩ : Addr).add (i * 1)) [byte (x ^^^ y)] 0).run (cx_hmac_pad w (Un [])).P w' = .ok () w2 := by rw [Nat.mul_one]; exact q1
        exact ⟨w2, q1', q2⟩
      · refine ⟨((i + 1 : Nat) : Int), by rw [wrap_i64 (by omega) (by omega)]; rfl, ?_⟩
        exact ⟨i + 1, hik, by omega, Ent.same ⟨rfl, rfl, rfl, rfl, trivial⟩ rfl⟩
    · have hge0 : ¬ (i : Int) < (k.length : Int) := hge2
      obtain rfl : i = k.length := by omega
      intro β w' hs
      refine hs.fin [0] ⟨b, junk, rfl, ?_⟩
      rw [padN_all]
      unfold padL
      rw [hk]
      rfl
end Go.Proofs.YtoifclfanabalaaGreatDoor.Sx

namespace Go.Proofs.YtoifclfanabalaaGreatDoor.Sx
open Go
attribute [local irreducible] Calls
structure Ro where
  A : Option Addr
  c : Nat
  l : List UInt8
def Ro.v (r : Ro) : Value := .slice r.A r.l.length r.c
def Ro.f (r : Ro) : Fact := rdoF 1 r.A r.l.length (r.l.map byte)
theorem rdo_rd {size : Nat} {A : Option Addr} {k : Nat} {xs : List Value} {w : World} (h : (rdoF size A k xs).p w) : Rd size A k xs w := h
theorem browRoD {e : Nat} {A : Option Addr} {l : List UInt8} {c : Nat} {w : World} (h : (browF e A l c).p w) : ∀ k, (Ro.f ⟨A, c, l⟩).D k → (browF e A l c).D k := by
  rintro k ⟨hk, ad, q, rfl⟩
  have hl : 0 < l.length := by
    have : 0 < l.length * 1 := hk
    omega
  have q' : A = some ad := q
  rcases h.2 with ⟨he, h0⟩ | ⟨g, cap, cur, he, _⟩
  · omega
  · have hA : A = some ⟨g, 0, none⟩ := by injection he
    rw [q'] at hA
    obtain rfl := Option.some.inj hA
    show Value.ownBlock (.slice A l.length c) = _
    rw [q']
    rfl
inductive Recs (w' : World) : List Fact → List Fact → Prop
  | nil : Recs w' [] []
  | cons {f g : Fact} {Fs Gs : List Fact} (h : g.own = true ∧ (f.p w' → g.p w') ∧ ∀ k, g.D k → f.D k) (r : Recs w' Fs Gs) : Recs w' (f :: Fs) (g :: Gs)
theorem Fin.recast {w : World} {Gs : List Fact} {R R' : Value → List Fact → Prop} {v : Value} {w' : World} (h : Fin w Gs R v w')
    (hr : ∀ Fs, R v Fs → (∀ f ∈ Fs, f.p w') → ∃ Fs', R' v Fs' ∧ Recs w' Fs Fs') : Fin w Gs R' v w' := by
  obtain ⟨Fs, h1, h2, h3, h4, h5⟩ := h
  obtain ⟨Fs', q1, q2⟩ := hr Fs h1 h3.fact
  have key : ∀ {Fs Fs' : List Fact}, Recs w' Fs Fs' → Mem w' Fs → Owns Fs → Mem w' Fs' ∧ Owns Fs' ∧ ∀ g ∈ Fs', ∃ f ∈ Fs, ∀ k, g.D k → f.D k := by
    intro Fs Fs' hf
    induction hf with
    | nil => intro _ _; exact ⟨⟨fun _ q => (by cases q), fun _ q => (by cases q), List.Pairwise.nil⟩, trivial, fun _ q => (by cases q)⟩
    | @cons f g Fs Fs' hfg hrest ih =>
      intro hm ho
      obtain ⟨i1, i2, i3⟩ := ih ⟨fun x hx => hm.fact x (List.mem_cons_of_mem _ hx), fun x hx => hm.flt x (List.mem_cons_of_mem _ hx), (List.pairwise_cons.1 hm.sepf).2⟩ ho.2
      refine ⟨⟨fun x hx => ?_, fun x hx k hk => ?_, List.pairwise_cons.2 ⟨fun x hx _ k hk hk' => ?_, i1.sepf⟩⟩, ⟨hfg.1, i2⟩, fun x hx => ?_⟩
      · rcases List.mem_cons.1 hx with rfl | hx
        · exact hfg.2.1 (hm.fact f List.mem_cons_self)
        · exact i1.fact x hx
      · rcases List.mem_cons.1 hx with rfl | hx
        · exact hm.flt f List.mem_cons_self k (hfg.2.2 k hk)
        · exact i1.flt x hx k hk
      · obtain ⟨y, hy, hyd⟩ := i3 x hx
        exact (List.pairwise_cons.1 hm.sepf).1 y hy (.inl ho.1) k (hfg.2.2 k hk) (hyd k hk')
      · rcases List.mem_cons.1 hx with rfl | hx
        · exact ⟨f, List.mem_cons_self, hfg.2.2⟩
        · obtain ⟨y, hy, hyd⟩ := i3 x hx
          exact ⟨y, List.mem_cons_of_mem _ hy, hyd⟩
  obtain ⟨k1, k2, k3⟩ := key q2 h3 h4
  exact ⟨Fs', q1, h2, k1, k2, fun g hg k hk => by obtain ⟨f, hf, hfd⟩ := k3 g hg; exact h5 f hf k (hfd k hk)⟩
theorem Un.cons {x : Fact} {B : List Fact} {k : Nat} : Un (x :: B) k ↔ x.D k ∨ Un B k := by
  unfold Un
  constructor
  · rintro ⟨g, hg, hk⟩
    rcases List.mem_cons.1 hg with rfl | h
    · exact .inl hk
    · exact .inr ⟨g, h, hk⟩
  · rintro (hk | ⟨g, hg, hk⟩)
    · exact ⟨x, List.mem_cons_self, hk⟩
    · exact ⟨g, List.mem_cons_of_mem _ hg, hk⟩
section
variable {cx : Cx} {β : Va} {n : Nat} {H : List Bk} {F : List Fact} {w : World}
end
end Go.Proofs.YtoifclfanabalaaGreatDoor.Sx

namespace Go.Proofs.YtoifclfanabalaaGreatDoor.Sx
open Go
attribute [local irreducible] Calls
theorem join2_c (w : World) (b : Nat) (A1 A2 : Option Addr) (l1 l2 : List UInt8) (c1 c2 : Nat) (hP : Rd 1 (some ⟨b, 0, none⟩) 2 [.slice A1 l1.length c1, .slice A2 l2.length c2] w) (h1 : Bs w A1 l1) (h2 : Bs w A2 l2) (hn : l1.length + l2.length ≤ 100000000) :
    Con Tryz.prog n_bytes_Join #[.slice (some ⟨b, 0, none⟩) 2 2, .slice none 0 0] w [] (readOut (l1 ++ l2)) := by
  have h := joinN_c w b 2 [.slice A1 l1.length c1, .slice A2 l2.length c2] [l1, l2] hP (fun i v l hv hl => by
    match i with
    | 0 => cases hv; cases hl; exact Bs.holds h1 c1
    | 1 => cases hv; cases hl; exact Bs.holds h2 c2
    | n + 2 => simp at hv) (Nat.le_refl 2) (Nat.le_refl 2) (by show 2 ≤ 1000; decide) (by simp; omega)
  have e : [l1, l2].flatten = l1 ++ l2 := by simp
  rw [e] at h
  exact h
theorem join1R_c (w : World) (P A : Option Addr) (cP c : Nat) (l : List UInt8) (hP : Rd 1 P 1 [.slice A l.length c] w) (hr : Bs w A l) (hn : l.length ≤ 100000000) :
    Con Tryz.prog n_bytes_Join #[.slice P 1 cP, .slice none 0 0] w [] (readOut l) := by
  refine Calls.mono (join1_c w P A cP c l hP hr (by omega)) ?_
  rintro e w' ⟨v, rfl, hf⟩
  refine ⟨v, rfl, hf.recast ?_⟩
  rintro Fs ⟨A', c', rfl, q1, q2, rfl⟩ hp
  exact ⟨[rdoF 1 A' l.length (l.map byte)], ⟨A', c', rfl, q1, q2, rfl⟩, .cons ⟨rfl, fun h => row_rd h, browRoD (hp _ List.mem_cons_self)⟩ .nil⟩
theorem hsum_c (w : World) (A P : Option Addr) (key text : List UInt8) (c nP cP : Nat) (hr : Bs w A key) (hk : key.length ≤ 1000000) (ht : text.length ≤ 1000000) (hj : ∀ w', (oldF w).p w' → Con Tryz.prog n_bytes_Join #[.slice P nP cP, .slice none 0 0] w' [] (readOut text)) (h1 : (oddF 2).p w) (h0 : (firstF 0).p w) :
    Con Tryz.prog n_hmac_Sum #[.slice A key.length c, .slice P nP cP] w [] fun v Fs => ∃ A' c', v = .slice A' 32 c' ∧ 32 ≤ c' ∧ c' ≤ maxLen ∧ Fs = [browF ty_uint8 A' (hmL key text) c'] := by
  have g := good_hmac_Sum w (Un [])
  refine con_of_sx (cx := cx_hmac_Sum w (Un [])) g b_hmac_Sum rfl rfl (β := Va.z) [.c (.v (.slice A key.length c)), .c (.v (.slice P nP cP))] 0 [] [oldF w] rfl rfl (old_sat rfl) ?_
  refine call_con [] (fun β w' hs => pad_c w' A key c 0x36 (Rd.old hr (hs.get 0 rfl)) hk (Rd.old h1 (hs.get 0 rfl)) (Rd.old h0 (hs.get 0 rfl))) ?_
  rintro v Fs ⟨p1, j1, rfl, rfl⟩
  refine call_con [] (fun β w' hs => hj w' (hs.get 1 rfl)) ?_
  rintro v Fs ⟨A1, c1, rfl, _, _, rfl⟩
  intro b1
  have l64 : ∀ x, (padL key x).length = 64 := padL_len key
  refine call_con [] (fun β w' hs => sumJ_c w' (some ⟨b1, 0, none⟩) 2 2 (padL key 0x36 ++ text) (fun w2 ho => by
    have q := join2_c w2 b1 (some ⟨p1, 0, none⟩) A1 (padL key 0x36) text 64 c1 (by rw [l64]; exact Rd.old (row_rd (hs.get 0 rfl)) ho) (Rd.old (bk_bs (hs.get 2 rfl)) ho) (Rd.old (rdo_rd (hs.get 1 rfl)) ho) (by rw [l64]; omega)
    exact q) (by rw [List.length_append, l64]; omega) (Rd.old h1 (hs.get 3 rfl)) (Rd.old h0 (hs.get 3 rfl))) ?_
  rintro v Fs ⟨A2, c2, rfl, _, _, rfl⟩
  refine call_con [] (fun β w' hs => pad_c w' A key c 0x5c (Rd.old hr (hs.get 4 rfl)) hk (Rd.old h1 (hs.get 4 rfl)) (Rd.old h0 (hs.get 4 rfl))) ?_
  rintro v Fs ⟨p2, j2, rfl, rfl⟩
  intro b2
  have ls : (Sha.sum (padL key 0x36 ++ text)).length = 32 := sum_len _
  refine call_con [] (fun β w' hs => sumJ_c w' (some ⟨b2, 0, none⟩) 2 2 (padL key 0x5c ++ Sha.sum (padL key 0x36 ++ text)) (fun w2 ho => by
    have q := join2_c w2 b2 (some ⟨p2, 0, none⟩) A2 (padL key 0x5c) (Sha.sum (padL key 0x36 ++ text)) 64 c2 (by rw [l64, ls]; exact Rd.old (row_rd (hs.get 0 rfl)) ho) (Rd.old (bk_bs (hs.get 1 rfl)) ho) (Rd.old (row_rd (hs.get 2 rfl)) ho) (by rw [l64, ls]; decide)
    exact q) (by rw [List.length_append, l64, ls]; decide) (Rd.old h1 (hs.get 6 rfl)) (Rd.old h0 (hs.get 6 rfl))) ?_
  rintro v Fs ⟨A3, c3, rfl, h5, h6, rfl⟩
  intro β w' hs
  exact hs.fin [0] ⟨A3, c3, rfl, h5, h6, rfl⟩
structure TA where
  k : Option Addr
  t : Option Addr
  l : Option Addr
  m : Option Addr
  kc : Nat
  tc : Nat
  lc : Nat
  mc : Nat
def ints (l : List Nat) : List Value := l.map fun (n : Nat) => Value.int .i64 (n : Int)
def termV (t : Bx.Term) (a : TA) : List Value := [.int .i64 t.kind, .slice a.k t.key.length a.kc, .slice a.t t.text.length a.tc, .int .i64 t.rounds, .slice a.l t.list.length a.lc, .slice a.m t.mask.length a.mc]
def termS (t : Bx.Term) (a : TA) : List SL := [.v (.int .i64 t.kind), .v (.slice a.k t.key.length a.kc), .v (.slice a.t t.text.length a.tc), .v (.int .i64 t.rounds), .v (.slice a.l t.list.length a.lc), .v (.slice a.m t.mask.length a.mc)]
structure TRd (t : Bx.Term) (a : TA) (w : World) : Prop where
  hk : Bs w a.k t.key
  ht : Bs w a.t t.text
  hl : Rd 1 a.l t.list.length (ints t.list) w
  hm : Bs w a.m t.mask
theorem TRd.old {t : Bx.Term} {a : TA} {W w : World} (h : TRd t a W) (ho : (oldF W).p w) : TRd t a w := ⟨Rd.old h.hk ho, Rd.old h.ht ho, Rd.old h.hl ho, Rd.old h.hm ho⟩
structure TSz (t : Bx.Term) : Prop where
  kind : t.kind < 1000
  rounds : t.rounds < 1000
  key : t.key.length ≤ 1000000
  text : t.text.length ≤ 1000000
  list : t.list.length ≤ 10000
  nums : ∀ n ∈ t.list, n < 1000000
  mask : t.mask.length ≤ 1000000
theorem vints_len : ∀ (l : List Nat), (∀ n ∈ l, n < 4611686018427387904) → (l.flatMap Bx.vint).length ≤ 9 * l.length
  | [], _ => by simp
  | a :: r, h => by
    have h1 := vint_nine (h a List.mem_cons_self)
    have h2 := vints_len r (fun n hn => h n (List.mem_cons_of_mem _ hn))
    rw [List.flatMap_cons, List.length_append, List.length_cons]
    omega
theorem flat_take {l : List Nat} {k x : Nat} (h : l[k]? = some x) : (l.take (k + 1)).flatMap Bx.vint = (l.take k).flatMap Bx.vint ++ Bx.vint x := by
  obtain ⟨hk, rfl⟩ := List.getElem?_eq_some_iff.1 h
  rw [List.take_succ_eq_append_getElem hk, List.flatMap_append, List.flatMap_singleton]
theorem ints_at {l : List Nat} {k x : Nat} (h : l[k]? = some x) : (ints l)[k]? = some (.int .i64 (x : Int)) := by
  simp [ints, h]
structure PrS where
  k : Nat
  A : Option Addr
  c : Nat
def heads5 (t : Bx.Term) : List Nat := [t.kind, t.rounds, t.key.length, t.text.length, t.list.length]
theorem print_c (w : World) (t : Bx.Term) (a : TA) (hr : TRd t a w) (hs : TSz t) : Pu Tryz.prog n_box_Term_print #[.agg (termV t a).toArray] w (.string ⟨(Bx.print t).toArray⟩) := by
  have g := good_box_Term_print w (Un [])
  have h5 : ∀ n ∈ heads5 t, n < 4611686018427387904 := by
    have := hs.kind; have := hs.rounds; have := hs.key; have := hs.text; have := hs.list
    intro n hn
    simp only [heads5, List.mem_cons, List.not_mem_nil, or_false] at hn
    rcases hn with rfl | rfl | rfl | rfl | rfl <;> omega
  have h6 : ∀ n ∈ t.list, n < 4611686018427387904 := fun n hn => by have := hs.nums n hn; omega
  refine con_of_sx (cx := cx_box_Term_print w (Un [])) g b_box_Term_print rfl rfl (β := Va.z) [.agg (termS t a)] 0 [] [oldF w] rfl rfl (old_sat rfl) ?_
  intro b5
  refine reify_rule g 1 (fun _ => [.slice none 0 0]) rfl rfl (fun _ => rfl) (fun b => ?_)
  refine loop_rule (ι := PrS) 2 (fun i => [(23, .c (.v (.slice (some ⟨b5, 0, none⟩) 5 5))), (24, .c (.v (.int .i64 5))), (25, .c (.v (.int .i64 i.k))), (1, .c (.p 0 0)), (3, .c (.v (.pointer (some ⟨b, 0, none⟩)))), (4, .fn (.func n_box_Term_print_1) [] [.v (.pointer (some ⟨b, 0, none⟩))])]) (fun _ => [⟨0, ty_box_Term, termS t a⟩])
    (fun i => varF b i.A (((heads5 t).take i.k).flatMap Bx.vint) i.c ++ [rowF ty_int 1 (.slice (some ⟨b5, 0, none⟩) 5 5) 5 (ints (heads5 t)), oldF w])
    (fun i => i.k ≤ 5) (fun i => 5 - i.k) ⟨0, none, 0⟩ (Nat.zero_le _) (Ent.mk' ⟨rfl, rfl, rfl, rfl, rfl, rfl, trivial⟩ rfl ?_) g ?_
  · intro β w' hs
    exact (hs.nilRow ty_uint8 1).perm [1, 0, 2, 3]
  rintro ⟨k, A1, c1⟩ hk
  simp only at hk
  have hb1 : (((heads5 t).take k).flatMap Bx.vint).length ≤ 45 := by
    have := vints_len ((heads5 t).take k) (fun n hn => h5 n (List.take_subset _ _ hn))
    have h7 : ((heads5 t).take k).length ≤ 5 := by rw [List.length_take]; show min k 5 ≤ 5; omega
    omega
  refine BIf.dec (fun hlt => ?_) (fun hge => ?_)
  · have hlt0 : (k : Int) < 5 := hlt
    have hkl : k < (heads5 t).length := by show k < 5; omega
    obtain ⟨x, hx, hxm⟩ := at_lt hkl
    have hu := ints_at hx
    refine ⟨⟨b5, 0, none⟩, k, rfl, rfl, by omega, _, fun β w' hs => Rd.cell1 (row_rd (hs.get 2 rfl)) hu, ?_⟩
    refine call_con [0, 1] (fun β w' hs => long7_c w' b x A1 (((heads5 t).take k).flatMap Bx.vint) c1 (h5 _ hxm) (by omega) (hs.mem.take (js := [0, 1]) rfl)) ?_
    rintro v Fs ⟨rfl, A2, c2, rfl⟩
    refine ⟨((k + 1 : Nat) : Int), by rw [wrap_i64 (by omega) (by omega)]; rfl, ?_⟩
    refine ⟨⟨k + 1, A2, c2⟩, by show k + 1 ≤ 5; omega, by show 5 - (k + 1) < 5 - k; omega, Ent.mk' ⟨rfl, rfl, rfl, rfl, rfl, rfl, trivial⟩ rfl ?_⟩
    intro β w' hs
    show Sat _ _ _ _ (varF b A2 (((heads5 t).take (k + 1)).flatMap Bx.vint) c2 ++ _) _
    rw [flat_take hx]
    exact hs
  have hge0 : ¬ (k : Int) < 5 := hge
  have hke : k = 5 := by omega
  subst hke
  have hpre : ((heads5 t).take 5).flatMap Bx.vint = (heads5 t).flatMap Bx.vint := rfl
  rw [hpre] at hb1
  refine loop_rule (ι := PrS) 2 (fun i => [(34, .c (.v (.slice a.l t.list.length a.lc))), (35, .c (.v (.int .i64 t.list.length))), (36, .c (.v (.int .i64 i.k))), (1, .c (.p 0 0)), (3, .c (.v (.pointer (some ⟨b, 0, none⟩)))), (4, .fn (.func n_box_Term_print_1) [] [.v (.pointer (some ⟨b, 0, none⟩))])]) (fun _ => [⟨0, ty_box_Term, termS t a⟩])
    (fun i => varF b i.A ((heads5 t).flatMap Bx.vint ++ (t.list.take i.k).flatMap Bx.vint) i.c ++ [oldF w])
    (fun i => i.k ≤ t.list.length) (fun i => t.list.length - i.k) ⟨0, A1, c1⟩ (Nat.zero_le _) (Ent.mk' ⟨rfl, rfl, rfl, rfl, rfl, rfl, trivial⟩ rfl ?_) g ?_
  · intro β w' hs
    have e : (heads5 t).flatMap Bx.vint ++ (t.list.take 0).flatMap Bx.vint = (heads5 t).flatMap Bx.vint := by simp
    show Sat _ _ _ _ (varF b A1 ((heads5 t).flatMap Bx.vint ++ (t.list.take 0).flatMap Bx.vint) c1 ++ _) _
    rw [e]
    exact hs.perm [0, 1, 3]
  rintro ⟨k, A2, c2⟩ hk
  simp only at hk
  have hll := hs.list
  have hb2 : ((heads5 t).flatMap Bx.vint ++ (t.list.take k).flatMap Bx.vint).length ≤ 100000 := by
    have := vints_len (t.list.take k) (fun n hn => h6 n (List.take_subset _ _ hn))
    have h7 : (t.list.take k).length ≤ t.list.length := by simp; omega
    rw [List.length_append]
    omega
  refine BIf.dec (fun hlt => ?_) (fun hge => ?_)
  · have hlt0 : (k : Int) < t.list.length := hlt
    have hkl : k < t.list.length := by omega
    obtain ⟨x, hx, hxm⟩ := at_lt hkl
    have hu := ints_at hx
    obtain ⟨ad, hA, hc⟩ := hr.hl.2 (by omega)
    have hr2 := hr.hl
    rw [hA] at hr2
    refine ⟨ad, k, hA, rfl, hkl, _, fun β w' hs => Rd.cell1 (Rd.old hr2 (hs.get 2 rfl)) hu, ?_⟩
    refine call_con [0, 1] (fun β w' hs => long7_c w' b x A2 ((heads5 t).flatMap Bx.vint ++ (t.list.take k).flatMap Bx.vint) c2 (h6 _ hxm) (by omega) (hs.mem.take (js := [0, 1]) rfl)) ?_
    rintro v Fs ⟨rfl, A3, c3, rfl⟩
    refine ⟨((k + 1 : Nat) : Int), by rw [wrap_i64 (by omega) (by omega)]; rfl, ?_⟩
    refine ⟨⟨k + 1, A3, c3⟩, by show k + 1 ≤ t.list.length; omega, by show t.list.length - (k + 1) < t.list.length - k; omega, Ent.mk' ⟨rfl, rfl, rfl, rfl, rfl, rfl, trivial⟩ rfl ?_⟩
    intro β w' hs
    show Sat _ _ _ _ (varF b A3 ((heads5 t).flatMap Bx.vint ++ (t.list.take (k + 1)).flatMap Bx.vint) c3 ++ _) _
    rw [flat_take hx, ← List.append_assoc]
    exact hs
  have hge0 : ¬ (k : Int) < t.list.length := hge
  have hke : k = t.list.length := by omega
  subst hke
  have hpre2 : (heads5 t).flatMap Bx.vint ++ (t.list.take t.list.length).flatMap Bx.vint = (heads5 t).flatMap Bx.vint ++ t.list.flatMap Bx.vint := by rw [List.take_length]
  rw [hpre2] at hb2
  rw [hpre2]
  generalize hq : (heads5 t).flatMap Bx.vint ++ t.list.flatMap Bx.vint = q at hb2 ⊢
  have hcell : ∀ (w' : World) (A : Option Addr) (l : List UInt8) (c : Nat), (bkF b ty_sl_uint8 [.slice A l.length c]).p w' → w'.cell? ⟨b, 0, none⟩ = some (.slice A l.length c) := fun w' A l c h => by
    have hb : w'.heap[b]? = some (.cells #[.slice A l.length c] ty_sl_uint8 (0, 0)) := h
    rw [cell_of_row w' b 0 _ _ _ hb]; rfl
  refine ⟨.slice A2 q.length c2, fun β w' hs => hcell _ _ _ _ (hs.get 0 rfl), ?_⟩
  intro b6
  have hkey := hs.key
  have htext := hs.text
  have hmask := hs.mask
  have hfl : [q, t.key, t.text, t.mask].flatten = Bx.print t := by
    rw [Bx.print, ← hq]
    simp [heads5]
  refine call_con [] (R := readOut (Bx.print t)) (fun β w' hs => by
    have h := joinN_c w' b6 4 [.slice A2 q.length c2, .slice a.k t.key.length a.kc, .slice a.t t.text.length a.tc, .slice a.m t.mask.length a.mc] [q, t.key, t.text, t.mask] (row_rd (hs.get 0 rfl)) (fun i v l hv hl => by
      match i, hv, hl with
      | 0, hv, hl => obtain rfl := Option.some.inj hv; obtain rfl := Option.some.inj hl; exact Bs.holds (row_rd (hs.get 2 rfl)) _
      | 1, hv, hl => obtain rfl := Option.some.inj hv; obtain rfl := Option.some.inj hl; exact Bs.holds (Rd.old hr.hk (hs.get 3 rfl)) _
      | 2, hv, hl => obtain rfl := Option.some.inj hv; obtain rfl := Option.some.inj hl; exact Bs.holds (Rd.old hr.ht (hs.get 3 rfl)) _
      | 3, hv, hl => obtain rfl := Option.some.inj hv; obtain rfl := Option.some.inj hl; exact Bs.holds (Rd.old hr.hm (hs.get 3 rfl)) _
      | n + 4, hv, hl => cases hv) (by show 2 ≤ 4; decide) (Nat.le_refl 4) (by show 4 ≤ 1000; decide) (by simp; omega)
    rw [hfl] at h
    exact h) ?_
  rintro v Fs ⟨A, c, rfl, h1, h2, rfl⟩
  refine ⟨Bx.print t, fun β w hs => hs.get 0 rfl, ?_⟩
  intro β w' hs
  exact hs.fin [] ⟨rfl, rfl⟩
theorem ints_one (l : List Nat) : ∀ u ∈ ints l, u.oneCell' = true := by
  intro u hu
  obtain ⟨x, _, rfl⟩ := List.mem_map.1 hu
  rfl
abbrev irowF (A : Option Addr) (l : List Nat) (c : Nat) : Fact := rowF ty_int 1 (.slice A l.length c) l.length (ints l)
theorem cloneI_c (w : World) (A : Option Addr) (l : List Nat) (c : Nat) (hr : Rd 1 A l.length (ints l) w) (hn : l.length ≤ 10000000000000) :
    Con Tryz.prog 100 #[.slice A l.length c] w [] fun v Fs => ∃ A' c', v = .slice A' l.length c' ∧ l.length ≤ c' ∧ c' ≤ maxLen ∧ Fs = [irowF A' l c'] := by
  refine con_of_sx (cx := cx_slices_Clone_int_int w (Un [])) (good_slices_Clone_int_int w (Un [])) b_slices_Clone_int_int rfl rfl (β := Va.z) [.c (.v (.slice A l.length c))] 0 [] [rdF 1 A l.length (ints l)] rfl rfl ((Sat.start rfl).rd (fun _ h => by cases h) hr) ?_
  refine BIf.mk (fun h => ?_) (fun h => ?_)
  · intro β w' hs
    have hA : A = none := by simpa using h
    subst hA
    have hl : l = [] := by
      cases l with
      | nil => rfl
      | cons x r => obtain ⟨ad, q, _⟩ := hr.2 (by simp); cases q
    subst hl
    exact (hs.nilRow ty_int 1).fin [0] ⟨none, 0, rfl, Nat.le_refl _, Nat.zero_le _, rfl⟩
  intro b
  refine ⟨0, 0, l.length, [], ints l, _, rfl, fun β w hs => hs.get 1 rfl, ints_one l, Nat.zero_add _, rfl, by rw [maxLen_eq]; omega, by show l.length * 8 ≤ _; omega, ?_⟩
  intro A' c' h1 h2 h3 β w' hs
  exact hs.fin [0] ⟨A', c', rfl, h1, h2, rfl⟩
theorem indexI_c (w : World) (A : Option Addr) (l : List Nat) (c x : Nat) (hr : Rd 1 A l.length (ints l) w) (hn : l.length ≤ 10000000000000) :
    Con Tryz.prog 56 #[.slice A l.length c, .int .i64 x] w [] fun v Fs => (∃ r : Int, v = .int .i64 r ∧ (0 ≤ r ↔ x ∈ l)) ∧ Fs = [] := by
  have g := good_slices_Index_int_int w (Un [])
  refine con_of_sx (cx := cx_slices_Index_int_int w (Un [])) g b_slices_Index_int_int rfl rfl (β := Va.z) [.c (.v (.slice A l.length c)), .c (.v (.int .i64 x))] 0 [] [rdF 1 A l.length (ints l)] rfl rfl ((Sat.start rfl).rd (fun _ h => by cases h) hr) ?_
  refine loop_rule 0 (fun k : Nat => [(0, .c (.v (.slice A l.length c))), (1, .c (.v (.int .i64 x))), (7, .c (.v (.int .i64 l.length))), (8, .c (.v (.int .i64 k)))]) (fun _ => []) (fun _ => [rdF 1 A l.length (ints l)])
    (fun k => k ≤ l.length ∧ x ∉ l.take k) (fun k => l.length - k) 0 ⟨Nat.zero_le _, by simp⟩ (Ent.same ⟨rfl, rfl, rfl, rfl, trivial⟩ rfl) g ?_
  rintro k ⟨hk, hx⟩
  refine BIf.dec (fun hlt => ?_) (fun hge => ?_)
  · have hkl : k < l.length := by omega
    obtain ⟨y, hy, hym⟩ := at_lt hkl
    obtain ⟨ad, rfl, _⟩ := hr.2 (by omega)
    refine ⟨ad, k, rfl, rfl, hkl, _, fun β w' hs => Rd.cell1 (hs.get 0 rfl) (ints_at hy), ?_⟩
    refine BIf.dec (fun he => ?_) (fun hne => ?_)
    · intro β w' hs
      refine hs.fin [] ⟨⟨(k : Int), rfl, ?_⟩, rfl⟩
      have hxy : x = y := by omega
      subst hxy
      exact ⟨fun _ => hym, fun _ => by omega⟩
    · refine ⟨((k + 1 : Nat) : Int), by rw [wrap_i64 (by omega) (by omega)]; rfl, ?_⟩
      refine ⟨k + 1, ⟨hkl, ?_⟩, by omega, Ent.same ⟨rfl, rfl, rfl, rfl, trivial⟩ rfl⟩
      rw [List.take_add_one, hy]
      intro q
      rcases List.mem_append.1 q with q | q
      · exact hx q
      · have hq : x = y := by simpa using q
        exact hne (by rw [hq])
  · intro β w' hs
    refine hs.fin [] ⟨⟨-1, rfl, ?_⟩, rfl⟩
    have hke : k = l.length := by omega
    rw [hke, List.take_length] at hx
    exact ⟨fun h => by omega, fun h => (hx h).elim⟩
open Classical in
theorem containsI_c (w : World) (A : Option Addr) (l : List Nat) (c x : Nat) (hr : Rd 1 A l.length (ints l) w) (hn : l.length ≤ 10000000000000) :
    Pu Tryz.prog 23 #[.slice A l.length c, .int .i64 x] w (.bool (decide (x ∈ l))) := by
  have g := good_slices_Contains_int_int w (Un [])
  refine con_of_sx (cx := cx_slices_Contains_int_int w (Un [])) g b_slices_Contains_int_int rfl rfl (β := Va.z) [.c (.v (.slice A l.length c)), .c (.v (.int .i64 x))] 0 [] [rdF 1 A l.length (ints l)] rfl rfl ((Sat.start rfl).rd (fun _ h => by cases h) hr) ?_
  refine call_con [] (fun β w' hs => indexI_c w' A l c x (hs.get 0 rfl) hn) ?_
  rintro v Fs ⟨⟨r, rfl, hri⟩, rfl⟩
  intro β w' hs
  refine hs.fin [] ⟨?_, rfl⟩
  show Value.bool (decide (0 ≤ r)) = _
  congr 1
  exact decide_eq_decide.2 hri
def copyFs (t : Bx.Term) (a : TA) : List Fact := [browF ty_uint8 a.m t.mask a.mc, irowF a.l t.list a.lc, browF ty_uint8 a.t t.text a.tc, browF ty_uint8 a.k t.key a.kc]
theorem copyOf_c (w : World) (t : Bx.Term) (a : TA) (hr : TRd t a w) (hs : TSz t) :
    Con Tryz.prog n_box_copyOf #[.agg (termV t a).toArray] w [] fun v Fs => ∃ a', v = .agg (termV t a').toArray ∧ Fs = copyFs t a' := by
  have g := good_box_copyOf w (Un [])
  have hkey := hs.key
  have htext := hs.text
  have hmask := hs.mask
  have hlist := hs.list
  refine con_of_sx (cx := cx_box_copyOf w (Un [])) g b_box_copyOf rfl rfl (β := Va.z) [.agg (termS t a)] 0 [] [oldF w] rfl rfl (old_sat rfl) ?_
  have hS : ∀ {n : Nat} {F : List Fact}, Sub (cx_box_copyOf w (Un [])) n [⟨1, ty_box_Term, ti86.zero.map SL.v⟩, ⟨0, ty_box_Term, termS t a⟩] F [⟨0, ty_box_Term, termS t a⟩] [] := fun {n F} => Sub.of (List.sublist_cons_self _ _) (List.nil_sublist _)
  refine draw_rule g p_box_copyOf_1 (by kernel_rfl) [⟨0, ty_box_Term, termS t a⟩] [] hS ?_
  refine call_con [] (fun β w' hs => clone_c w' a.k t.key a.kc (Rd.old hr.hk (hs.get 0 rfl)) (by omega)) ?_
  rintro v Fs ⟨A1, c1, rfl, _, _, rfl⟩
  refine ⟨hS, ?_⟩
  refine call_con [] (fun β w' hs => clone_c w' a.t t.text a.tc (Rd.old hr.ht (hs.get 1 rfl)) (by omega)) ?_
  rintro v Fs ⟨A2, c2, rfl, _, _, rfl⟩
  refine ⟨hS, ?_⟩
  refine call_con [] (fun β w' hs => cloneI_c w' a.l t.list a.lc (Rd.old hr.hl (hs.get 2 rfl)) (by omega)) ?_
  rintro v Fs ⟨A3, c3, rfl, _, _, rfl⟩
  refine ⟨hS, ?_⟩
  refine call_con [] (fun β w' hs => clone_c w' a.m t.mask a.mc (Rd.old hr.hm (hs.get 3 rfl)) (by omega)) ?_
  rintro v Fs ⟨A4, c4, rfl, _, _, rfl⟩
  refine ⟨hS, ?_⟩
  intro β w' hs
  exact (hs.keepB (List.nil_sublist _)).fin [0, 1, 2, 3] ⟨⟨A1, A2, A3, A4, c1, c2, c3, c4⟩, rfl, rfl⟩ rfl rfl rfl ⟨rfl, rfl, rfl, rfl, trivial⟩
def sortN (l : List Nat) : List Nat := l.mergeSort (fun x y => decide (x ≤ y))
theorem sortN_len (l : List Nat) : (sortN l).length = l.length := by simp [sortN]
theorem sortN_map (l : List Nat) : (l.map Int.ofNat).mergeSort (fun x y => decide (x ≤ y)) = (sortN l).map Int.ofNat := by
  refine (List.map_mergeSort fun a _ b _ => ?_).symm
  exact decide_eq_decide.2 (Int.ofNat_le).symm
theorem insI_c (w : World) : Con Tryz.prog n_slices_insertionSortOrdered_int #[.slice none 0 0, .int .i64 0, .int .i64 0] w [] fun v Fs => v = .tuple #[] ∧ Fs = [] := by
  refine con_of_sx (cx := cx_slices_insertionSortOrdered_int w (Un [])) (good_slices_insertionSortOrdered_int w (Un [])) b_slices_insertionSortOrdered_int rfl rfl (β := Va.z) [.c (.v (.slice none 0 0)), .c (.v (.int .i64 0)), .c (.v (.int .i64 0))] 0 [] [] rfl rfl (Sat.start rfl) ?_
  have g := good_slices_insertionSortOrdered_int w (Un [])
  refine ⟨1, rfl, ?_⟩
  refine loop_rule 0 (fun _ : Unit => [(0, .c (.v (.slice none 0 0))), (1, .c (.v (.int .i64 0))), (2, .c (.v (.int .i64 0))), (6, .c (.v (.int .i64 1)))]) (fun _ => []) (fun _ => []) (fun _ => True) (fun _ => 0) () trivial (Ent.same ⟨rfl, rfl, rfl, rfl, trivial⟩ rfl) g ?_
  rintro ⟨⟩ -
  intro β w' hs
  exact hs.fin [] ⟨rfl, rfl⟩
theorem pdqI_c (w : World) (m : Int) : Con Tryz.prog n_slices_pdqsortOrdered_int #[.slice none 0 0, .int .i64 0, .int .i64 0, .int .i64 m] w [] fun v Fs => v = .tuple #[] ∧ Fs = [] := by
  refine con_of_sx (cx := cx_slices_pdqsortOrdered_int w (Un [])) (good_slices_pdqsortOrdered_int w (Un [])) b_slices_pdqsortOrdered_int rfl rfl (β := Va.z) [.c (.v (.slice none 0 0)), .c (.v (.int .i64 0)), .c (.v (.int .i64 0)), .c (.v (.int .i64 m))] 0 [] [] rfl rfl (Sat.start rfl) ?_
  have g := good_slices_pdqsortOrdered_int w (Un [])
  refine loop_rule 0 (fun _ : Unit => [(0, .c (.v (.slice none 0 0))), (1, .c (.v (.int .i64 0))), (2, .c (.v (.int .i64 0)))]) (fun _ => []) (fun _ => []) (fun _ => True) (fun _ => 0) () trivial (Ent.same ⟨rfl, rfl, rfl, trivial⟩ rfl) g ?_
  rintro ⟨⟩ -
  refine ⟨0, rfl, ?_⟩
  refine call_con [] (fun β w' hs => insI_c w') ?_
  rintro v Fs ⟨rfl, rfl⟩
  intro β w' hs
  exact hs.fin [] ⟨rfl, rfl⟩
theorem bits0_c (w : World) : Pu Tryz.prog n_math_bits_Len #[.int .u64 0] w (.int .i64 0) := by
  refine pu_of (Calls.mono (Tryz.bits_Len 0 w (by decide) (by decide)) ?_)
  rintro e w' ⟨rfl, rfl⟩
  exact ⟨_, rfl, rfl, Chg.refl _ _⟩
theorem sortNil_c (w : World) : Con Tryz.prog n_slices_Sort_int_int #[.slice none 0 0] w [] fun v Fs => v = .tuple #[] ∧ Fs = [] := by
  refine con_of_sx (cx := cx_slices_Sort_int_int w (Un [])) (good_slices_Sort_int_int w (Un [])) b_slices_Sort_int_int rfl rfl (β := Va.z) [.c (.v (.slice none 0 0))] 0 [] [] rfl rfl (Sat.start rfl) ?_
  refine ⟨0, rfl, ?_⟩
  refine call_pu (fun β w' hs => bits0_c w') ?_
  refine call_con [] (fun β w' hs => pdqI_c w' 0) ?_
  rintro v Fs ⟨rfl, rfl⟩
  intro β w' hs
  exact hs.fin [] ⟨rfl, rfl⟩
theorem sort_c (w : World) (A : Option Addr) (l : List Nat) (c : Nat) (hm : Mem w [irowF A l c]) (hn : l.length ≤ 10000000000000) :
    Con Tryz.prog n_slices_Sort_int_int #[.slice A l.length c] w [irowF A l c] fun v Fs => v = .tuple #[] ∧ Fs = [irowF A (sortN l) c] := by
  have hp : w.ownsRow 0 ty_int 1 (.slice A l.length c) l.length (ints l) := hm.fact _ (List.mem_singleton.2 rfl)
  have hi : ints l = (l.map Int.ofNat).map (Value.int .i64) := by simp [ints]
  rcases hp.2 with ⟨hv, h0⟩ | ⟨g, cap, cur, hv, hbase, hb, h1, h2, h3, h4⟩
  · obtain rfl : l = [] := List.length_eq_zero_iff.1 h0
    cases hv
    refine Calls.mono (sortNil_c w) ?_
    rintro e w' ⟨v, rfl, Fs, ⟨rfl, rfl⟩, hc, _⟩
    rw [Un.nil] at hc
    refine ⟨_, rfl, [irowF none [] 0], ⟨rfl, by simp [sortN]⟩, ⟨hc.os, hc.tape, hc.output, hc.size, fun k hk _ => hc.same k hk (fun h => h)⟩, ⟨fun f hf => ?_, fun f hf k hk => ?_, List.pairwise_singleton _ _⟩, ⟨rfl, trivial⟩, fun f hf k hk => ?_⟩
    · obtain rfl := List.mem_singleton.1 hf; exact World.ownsRow_nil _ _ _ _
    · obtain rfl := List.mem_singleton.1 hf; cases hk
    · obtain rfl := List.mem_singleton.1 hf; cases hk
  · cases hv
    have hlt : g < w.heap.size := (Array.getElem?_eq_some_iff.1 hb).1
    refine Calls.mono (show Calls Tryz.prog _ #[.slice (some ⟨g, 0, none⟩) l.length c] w _ from by
      have := Tryz.slices_Sort_int g 0 c (l.map Int.ofNat) w (holds_of_blockI hb (by rw [← hi, List.length_map]; simpa using h4)) hlt (by rw [List.length_map]; omega)
      rw [List.length_map] at this
      exact this) ?_
    rintro e w' ⟨rfl, n, os, rfl⟩
    rw [sortN_map]
    have hg := grownBy_sortedI (w := w) (g := g) (n := n) (os := os) ((sortN l).map Int.ofNat).toArray
    have ho := ownsRow_sortedI (w := w) (base := 0) (n := n) (os := os) (ss := l.map Int.ofNat) (ts := (sortN l).map Int.ofNat) (by simp [sortN_len]) hbase hb (by simpa using h1) h2 h3
    refine ⟨_, rfl, [irowF (some ⟨g, 0, none⟩) (sortN l) c], ⟨rfl, rfl⟩, ?_, ⟨fun f hf => ?_, fun f hf k hk => ?_, List.pairwise_singleton _ _⟩, ⟨rfl, trivial⟩, fun f hf k hk => ?_⟩
    · exact ⟨hg.os, hg.tape, hg.output, hg.size, fun k hk hnk => hg.block k hk (fun e => hnk ⟨_, List.mem_singleton.2 rfl, e.symm⟩)⟩
    · obtain rfl := List.mem_singleton.1 hf
      rw [List.length_map] at ho
      show World.ownsRow _ 0 ty_int 1 (.slice (some ⟨g, 0, none⟩) (sortN l).length c) (sortN l).length (ints (sortN l))
      rw [sortN_len, show ints (sortN l) = ((sortN l).map Int.ofNat).map (Value.int .i64) from by simp [ints]]
      exact ho
    · obtain rfl := List.mem_singleton.1 hf
      have : some g = some k := hk
      cases this
      exact Nat.lt_of_lt_of_le hlt hg.size
    · obtain rfl := List.mem_singleton.1 hf
      exact .inl ⟨_, List.mem_singleton.2 rfl, hk⟩
end Go.Proofs.YtoifclfanabalaaGreatDoor.Sx
