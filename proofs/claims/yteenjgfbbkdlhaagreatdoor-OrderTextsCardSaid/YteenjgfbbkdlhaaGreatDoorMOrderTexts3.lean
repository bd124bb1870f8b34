/- Texts joined: Shelf, Bld, Bl2, U32, ShaL, NamL, BoxL, Bk1, Hex, Sha1, Sha2, Sha3, Sha4, Sha5, Sha6, Sha7, Sha8, Sha9, Pd0, Pd4, Pd5, Nam1, Nam2, Nam3, Nam4, Nam5, Nam6, Nam7, Nam8, Rl1, Rl4, Gn1, Nam9, NamP, NmT, Gn2, Or1, Or2, Or3, Or5, Or4, Or6, Box1, Box2, Join, Orh, RHx, Ori, Orm, Or7. -/
import Derived.Test.YteenjgfbbkdlhaaGreatDoorMOrderTexts2
import Derived.Shelf.Strings.Builder1
import Derived.Shelf.Strings.Builder2
import Derived.Shelf.Strings.OnBuilder
import Derived.Shelf.Small.Bits
import Derived.Shelf.Small.Strs
import Derived.Shelf.Strconv.Atoi
import Derived.Shelf.Strconv.Itoa0
import Derived.Shelf.Strconv.Itoa1
import Derived.Shelf.LaysM
import Derived.Shelf.Strconv.Itoa2
import Derived.Shelf.Strconv.Itoa3
import Derived.Shelf.Strconv.AtoiErrFast
import Derived.Shelf.Strconv.ParseIntEmpty
import Derived.Shelf.Strconv.AtoiFail
import Derived.Shelf.Strconv.Clone
import Derived.Shelf.Strconv.SyntaxError
import Derived.Shelf.LaysC
import Derived.Shelf.Strconv.ToError
import Derived.Shelf.Strconv.AtoiErr
import Derived.Shelf.Strconv.Lower
import Derived.Shelf.Strconv.ParseUint10
import Derived.Shelf.Strconv.ParseUint10Empty
import Derived.Shelf.Strconv.ParseUint10Any
import Derived.Shelf.Strconv.ParseInt10
import Derived.Shelf.Strconv.AtoiLong
import Derived.Shelf.Strconv.AtoiInnerAll
import Derived.Shelf.Strconv.RangeError
import Derived.Shelf.Strconv.ToErrorRange
import Derived.Shelf.Strconv.AtoiAll
import Derived.Shelf.Strconv.ParseUintEmpty
import Derived.Shelf.Strconv.ParseUint10b64
import Derived.Shelf.Strconv.ParseUint10b32
import Derived.Shelf.Strconv.ParseUint10b16
import Derived.Shelf.Strconv.ParseUint10b8
import Derived.Shelf.Strconv.ParseUint10At
import Derived.Shelf.Strings.Search1
import Derived.Shelf.Strings.Search2
import Derived.Shelf.Strings.Search3
import Derived.Shelf.Strings.Cut
import Derived.Shelf.Strings.Count
import Derived.Shelf.Strings.Shaped
import Derived.Shelf.Sort.Plain
import Derived.Shelf.Strings.Prefix
import Derived.Shelf.Strings.Split
import Derived.Shelf.Bits.Mul64
import Derived.Shelf.Unicode.DecodeSlow
import Derived.Ground.Names2Prog
import Derived.Shelf.Slices.ReverseS
import Derived.Shelf.Slices.Clone
import Derived.Shelf.Slices.Delete
import Derived.Shelf.Slices.Cells
import Derived.Ground.SlbCloneProg
import Derived.Shelf.Bytes.SlClone
import Derived.Ground.SlbNamesProg
import Derived.Shelf.Bytes.SlJoin
import Derived.Ground.SlgnProg
import Derived.Shelf.SlicesE.Clone
import Derived.Test.YteenjgfbbkdlhaaGreatDoorProg
import Derived.Lib.Join
set_option linter.unusedVariables false
set_option linter.unusedSimpArgs false
namespace Go.Proofs
open Go.Shelf
def Tryz.lays156_ren : Go.Shelf.Ren := ⟨fun | 156 => 43 | 165 => 90 | 166 => 76 | 169 => 77 | 240 => 133 | 241 => 144 | 276 => 183 | 277 => 163 | n => n, fun | 31 => 34 | 9 => 9 | 3 => 3 | 4 => 4 | 0 => 0 | 20 => 20 | 72 => 148 | 76 => 156 | 70 => 146 | 37 => 102 | 75 => 155 | 127 => 243 | 164 => 282 | 5 => 5 | 80 => 81 | n => n, fun | n => n⟩
theorem Tryz.lays156 : Go.Proofs.Lays.n156 Tryz.prog Tryz.lays156_ren := {
  mixed := by kernel_rfl
  f156 := Tryz.func43.trans (congrArg some (by kernel_rfl))
  f165 := Tryz.func90.trans (congrArg some (by kernel_rfl))
  f166 := Tryz.func76.trans (congrArg some (by kernel_rfl))
  f169 := Tryz.func77.trans (congrArg some (by kernel_rfl))
  f240 := Tryz.func133.trans (congrArg some (by kernel_rfl))
  f241 := Tryz.func144.trans (congrArg some (by kernel_rfl))
  f276 := Tryz.func183.trans (congrArg some (by kernel_rfl))
  f277 := Tryz.func163.trans (congrArg some (by kernel_rfl))
  t0 := Tryz.underlying0
  a0 := Tryz.isAgg0
  z0 := Tryz.sizeOf0
  v0 := Tryz.zeroValue0
  t3 := Tryz.underlying3
  a3 := Tryz.isAgg3
  z3 := Tryz.sizeOf3
  v3 := Tryz.zeroValue3
  t4 := Tryz.underlying4
  a4 := Tryz.isAgg4
  z4 := Tryz.sizeOf4
  v4 := Tryz.zeroValue4
  t9 := Tryz.underlying9
  a9 := Tryz.isAgg9
  z9 := Tryz.sizeOf9
  v9 := Tryz.zeroValue9
  t20 := Tryz.underlying20
  a20 := Tryz.isAgg20
  z20 := Tryz.sizeOf20
  v20 := Tryz.zeroValue20
  t31 := Tryz.underlying34
  a31 := Tryz.isAgg34
  z31 := Tryz.sizeOf34
  v31 := Tryz.zeroValue34
  t37 := Tryz.underlying102
  a37 := Tryz.isAgg102
  z37 := Tryz.sizeOf102
  v37 := Tryz.zeroValue102
  t70 := Tryz.underlying146
  a70 := Tryz.isAgg146
  z70 := Tryz.sizeOf146
  v70 := Tryz.zeroValue146
  t72 := Tryz.underlying148
  a72 := Tryz.isAgg148
  z72 := Tryz.sizeOf148
  v72 := Tryz.zeroValue148
  t75 := Tryz.underlying155
  a75 := Tryz.isAgg155
  z75 := Tryz.sizeOf155
  v75 := Tryz.zeroValue155
  t76 := Tryz.underlying156
  a76 := Tryz.isAgg156
  z76 := Tryz.sizeOf156
  v76 := Tryz.zeroValue156
  t127 := Tryz.underlying243
  a127 := Tryz.isAgg243
  z127 := Tryz.sizeOf243
  v127 := Tryz.zeroValue243
  t164 := Tryz.underlying282
  a164 := Tryz.isAgg282
  z164 := Tryz.sizeOf282
  v164 := Tryz.zeroValue282 }
theorem Tryz.Builder_Extra_156 : Builder.Extra Tryz.prog Tryz.lays156_ren := {
  sizeBuilder := by kernel_rfl
  liesBuilder := by kernel_rfl
  t5 := Tryz.underlying5
  a5 := Tryz.isAgg5
  z5 := Tryz.sizeOf5
  v5 := Tryz.zeroValue5
  infoByte := by kernel_rfl
  cellsByte := by kernel_rfl
  sizeByte := by kernel_rfl
  neB5 := by decide }
open Go.RowKit in
theorem Tryz.strings_Join (bk o c : Nat) (xs : List ByteArray) (sep : ByteArray) (w : World) (hcells : ∀ (j : Nat) x, xs[j]? = some x → w.cell? ⟨bk, o + j, none⟩ = some (.string x)) (hbk : bk < w.heap.size) (hN : xs.length ≤ 140737488355328) (hcap : xs.length ≤ c) (hlen : (Lib.join (xs.map (·.data.toList)) sep.data.toList).length ≤ 140737488355328) :
    Calls Tryz.prog 43 #[.slice (some ⟨bk, o, none⟩) xs.length c, .string sep] w fun e w' => e = .returned (.string ⟨(Lib.join (xs.map (·.data.toList)) sep.data.toList).toArray⟩) ∧ Below w.heap.size w w' := Any.strings_Join Tryz.lays156 Tryz.Builder_Extra_156 bk o c xs sep w hcells hbk hN hcap hlen
def Tryz.lays125_ren : Go.Shelf.Ren := ⟨fun | 125 => 211 | 128 => 257 | 129 => 205 | n => n, fun | 46 => 252 | 3 => 3 | 51 => 184 | 53 => 32 | 4 => 4 | 5 => 5 | 9 => 9 | n => n, fun | n => n⟩
theorem Tryz.lays125 : Go.Proofs.Lays.n125 Tryz.prog Tryz.lays125_ren := {
  mixed := by kernel_rfl
  f125 := Tryz.func211.trans (congrArg some (by kernel_rfl))
  f128 := Tryz.func257.trans (congrArg some (by kernel_rfl))
  f129 := Tryz.func205.trans (congrArg some (by kernel_rfl))
  t3 := Tryz.underlying3
  a3 := Tryz.isAgg3
  z3 := Tryz.sizeOf3
  v3 := Tryz.zeroValue3
  t4 := Tryz.underlying4
  a4 := Tryz.isAgg4
  z4 := Tryz.sizeOf4
  v4 := Tryz.zeroValue4
  t5 := Tryz.underlying5
  a5 := Tryz.isAgg5
  z5 := Tryz.sizeOf5
  v5 := Tryz.zeroValue5
  t9 := Tryz.underlying9
  a9 := Tryz.isAgg9
  z9 := Tryz.sizeOf9
  v9 := Tryz.zeroValue9
  t46 := Tryz.underlying252
  a46 := Tryz.isAgg252
  z46 := Tryz.sizeOf252
  v46 := Tryz.zeroValue252
  t51 := Tryz.underlying184
  a51 := Tryz.isAgg184
  z51 := Tryz.sizeOf184
  v51 := Tryz.zeroValue184
  t53 := Tryz.underlying32
  a53 := Tryz.isAgg32
  z53 := Tryz.sizeOf32
  v53 := Tryz.zeroValue32 }
theorem Tryz.bits_Len (x : Int) (w : World) (h0 : 0 ≤ x) (h1 : x ≤ 18446744073709551615) :
    Calls Tryz.prog 211 #[.int .u64 x] w fun e w' => e = .returned (.int .i64 (Lib.bitLen x.toNat)) ∧ w' = w := Any.bits_Len Tryz.lays125 x w h0 h1
def Tryz.lays137_ren : Go.Shelf.Ren := ⟨fun | 137 => 150 | 217 => 191 | 266 => 228 | n => n, fun | 9 => 9 | 5 => 5 | 3 => 3 | n => n, fun | n => n⟩
theorem Tryz.lays137 : Go.Proofs.Lays.n137 Tryz.prog Tryz.lays137_ren := {
  mixed := by kernel_rfl
  f137 := Tryz.func150.trans (congrArg some (by kernel_rfl))
  f217 := Tryz.func191.trans (congrArg some (by kernel_rfl))
  f266 := Tryz.func228.trans (congrArg some (by kernel_rfl))
  t3 := Tryz.underlying3
  a3 := Tryz.isAgg3
  z3 := Tryz.sizeOf3
  v3 := Tryz.zeroValue3
  t5 := Tryz.underlying5
  a5 := Tryz.isAgg5
  z5 := Tryz.sizeOf5
  v5 := Tryz.zeroValue5
  t9 := Tryz.underlying9
  a9 := Tryz.isAgg9
  z9 := Tryz.sizeOf9
  v9 := Tryz.zeroValue9 }
open Go.RowKit in
theorem Tryz.strings_IndexByte (s : ByteArray) (c : Int) (w : World) :
    Calls Tryz.prog 150 #[.string s, .int .u8 c] w fun e w' => e = .returned (.int .i64 (Lib.indexByte s.data.toList c.toNat.toUInt8)) ∧ w' = w := Any.strings_IndexByte Tryz.lays137 s c w
def Tryz.lays283_ren : Go.Shelf.Ren := ⟨fun | 283 => 166 | n => n, fun | 3 => 3 | 9 => 9 | 4 => 4 | n => n, fun | n => n⟩
theorem Tryz.lays283 : Go.Proofs.Lays.n283 Tryz.prog Tryz.lays283_ren := {
  mixed := by kernel_rfl
  f283 := Tryz.func166.trans (congrArg some (by kernel_rfl))
  t3 := Tryz.underlying3
  a3 := Tryz.isAgg3
  z3 := Tryz.sizeOf3
  v3 := Tryz.zeroValue3
  t4 := Tryz.underlying4
  a4 := Tryz.isAgg4
  z4 := Tryz.sizeOf4
  v4 := Tryz.zeroValue4
  t9 := Tryz.underlying9
  a9 := Tryz.isAgg9
  z9 := Tryz.sizeOf9
  v9 := Tryz.zeroValue9 }
open Go.Lib in
theorem Tryz.internal_strconv_small (i : Nat) (h : i < 100) (w : World) :
    Calls Tryz.prog 166 #[.int .i64 i] w fun e w' => e = .returned (.string ⟨(Lib.decDigits i).toArray⟩) ∧ w' = w := Any.internal_strconv_small Tryz.lays283 i h w
def Tryz.lays287_ren : Go.Shelf.Ren := ⟨fun | 287 => 173 | 321 => 212 | 322 => 213 | n => n, fun | 9 => 9 | 3 => 3 | 53 => 32 | 75 => 155 | 4 => 4 | 167 => 305 | 5 => 5 | 46 => 252 | 37 => 102 | 0 => 0 | 21 => 21 | 80 => 81 | n => n, fun | n => n⟩
theorem Tryz.lays287 : Go.Proofs.Lays.n287 Tryz.prog Tryz.lays287_ren := {
  mixed := by kernel_rfl
  f287 := Tryz.func173.trans (congrArg some (by kernel_rfl))
  f321 := Tryz.func212.trans (congrArg some (by kernel_rfl))
  f322 := Tryz.func213.trans (congrArg some (by kernel_rfl))
  t0 := Tryz.underlying0
  a0 := Tryz.isAgg0
  z0 := Tryz.sizeOf0
  v0 := Tryz.zeroValue0
  t3 := Tryz.underlying3
  a3 := Tryz.isAgg3
  z3 := Tryz.sizeOf3
  v3 := Tryz.zeroValue3
  t4 := Tryz.underlying4
  a4 := Tryz.isAgg4
  z4 := Tryz.sizeOf4
  v4 := Tryz.zeroValue4
  t5 := Tryz.underlying5
  a5 := Tryz.isAgg5
  z5 := Tryz.sizeOf5
  v5 := Tryz.zeroValue5
  t9 := Tryz.underlying9
  a9 := Tryz.isAgg9
  z9 := Tryz.sizeOf9
  v9 := Tryz.zeroValue9
  t21 := Tryz.underlying21
  a21 := Tryz.isAgg21
  z21 := Tryz.sizeOf21
  v21 := Tryz.zeroValue21
  t37 := Tryz.underlying102
  a37 := Tryz.isAgg102
  z37 := Tryz.sizeOf102
  v37 := Tryz.zeroValue102
  t46 := Tryz.underlying252
  a46 := Tryz.isAgg252
  z46 := Tryz.sizeOf252
  v46 := Tryz.zeroValue252
  t53 := Tryz.underlying32
  a53 := Tryz.isAgg32
  z53 := Tryz.sizeOf32
  v53 := Tryz.zeroValue32
  t75 := Tryz.underlying155
  a75 := Tryz.isAgg155
  z75 := Tryz.sizeOf155
  v75 := Tryz.zeroValue155
  t167 := Tryz.underlying305
  a167 := Tryz.isAgg305
  z167 := Tryz.sizeOf305
  v167 := Tryz.zeroValue305 }
open Go.RowKit in
theorem Tryz.internal_strconv_ParseUint_10_at64 (t : ByteArray) (hmax : t.size ≤ 9223372036854775806) (w : World) :
    Calls Tryz.prog 173 #[.string t, .int .i64 10, .int .i64 64] w fun e w' => e = .returned (Lib.uintTupleM 305 18446744073709551615 (Lib.parseUintB 64 t.data.toList)) ∧ (w' = w ∨ w' = Lib.bytesWorld w 5 t) := Any.internal_strconv_ParseUint_10_at64 Tryz.lays287 t hmax w
def Tryz.lays99_ren : Go.Shelf.Ren := ⟨fun | 99 => 85 | 206 => 142 | n => n, fun | 9 => 9 | 4 => 4 | 3 => 3 | n => n, fun | n => n⟩
theorem Tryz.lays99 : Go.Proofs.Lays.n99 Tryz.prog Tryz.lays99_ren := {
  mixed := by kernel_rfl
  f99 := Tryz.func85.trans (congrArg some (by kernel_rfl))
  f206 := Tryz.func142.trans (congrArg some (by kernel_rfl))
  t3 := Tryz.underlying3
  a3 := Tryz.isAgg3
  z3 := Tryz.sizeOf3
  v3 := Tryz.zeroValue3
  t4 := Tryz.underlying4
  a4 := Tryz.isAgg4
  z4 := Tryz.sizeOf4
  v4 := Tryz.zeroValue4
  t9 := Tryz.underlying9
  a9 := Tryz.isAgg9
  z9 := Tryz.sizeOf9
  v9 := Tryz.zeroValue9 }
open Go.RowKit Go.Lib in
theorem Tryz.strings_HasPrefix (s p : ByteArray) (w : World) :
    Calls Tryz.prog 85 #[.string s, .string p] w fun e w' => e = .returned (.bool (Lib.hasPrefix s.data.toList p.data.toList)) ∧ w' = w := Any.strings_HasPrefix Tryz.lays99 s p w
def Tryz.lays212_ren : Go.Shelf.Ren := ⟨fun | 212 => 245 | 263 => 288 | 264 => 289 | n => n, fun | 46 => 252 | 51 => 184 | 146 => 371 | 53 => 32 | 148 => 373 | n => n, fun | n => n⟩
theorem Tryz.lays212 : Go.Proofs.Lays.n212 Tryz.prog Tryz.lays212_ren := {
  mixed := by kernel_rfl
  f212 := Tryz.func245.trans (congrArg some (by kernel_rfl))
  f263 := Tryz.func288.trans (congrArg some (by kernel_rfl))
  f264 := Tryz.func289.trans (congrArg some (by kernel_rfl))
  t46 := Tryz.underlying252
  a46 := Tryz.isAgg252
  z46 := Tryz.sizeOf252
  v46 := Tryz.zeroValue252
  t51 := Tryz.underlying184
  a51 := Tryz.isAgg184
  z51 := Tryz.sizeOf184
  v51 := Tryz.zeroValue184
  t53 := Tryz.underlying32
  a53 := Tryz.isAgg32
  z53 := Tryz.sizeOf32
  v53 := Tryz.zeroValue32
  t146 := Tryz.underlying371
  a146 := Tryz.isAgg371
  z146 := Tryz.sizeOf371
  v146 := Tryz.zeroValue371
  t148 := Tryz.underlying373
  a148 := Tryz.isAgg373
  z148 := Tryz.sizeOf373
  v148 := Tryz.zeroValue373 }
open Go.RowKit Go.Lib in
theorem Tryz.bits_Mul (x y : Nat) (hx : x < 18446744073709551616) (hy : y < 18446744073709551616) (w : World) :
    Calls Tryz.prog 245 #[.int .u64 x, .int .u64 y] w fun e w' => e = .returned (.tuple #[.int .u64 ((x * y / 18446744073709551616 : Nat) : Int), .int .u64 ((x * y % 18446744073709551616 : Nat) : Int)]) ∧ w' = w := Any.bits_Mul Tryz.lays212 x y hx hy w
def Tryz.laysSlJ14_ren : Go.Shelf.Ren := ⟨fun | 14 => 110 | 15 => 163 | n => n, fun | 26 => 215 | 22 => 102 | 3 => 3 | 4 => 4 | 0 => 0 | 9 => 9 | 20 => 20 | 5 => 5 | n => n, fun | n => n⟩
theorem Tryz.laysSlJ14 : Go.Proofs.SlLaysJ.n14 Tryz.prog Tryz.laysSlJ14_ren := {
  mixed := by kernel_rfl
  f14 := Tryz.func110.trans (congrArg some (by kernel_rfl))
  f15 := Tryz.func163.trans (congrArg some (by kernel_rfl))
  t0 := Tryz.underlying0
  a0 := Tryz.isAgg0
  z0 := Tryz.sizeOf0
  v0 := Tryz.zeroValue0
  t3 := Tryz.underlying3
  a3 := Tryz.isAgg3
  z3 := Tryz.sizeOf3
  v3 := Tryz.zeroValue3
  t4 := Tryz.underlying4
  a4 := Tryz.isAgg4
  z4 := Tryz.sizeOf4
  v4 := Tryz.zeroValue4
  t9 := Tryz.underlying9
  a9 := Tryz.isAgg9
  z9 := Tryz.sizeOf9
  v9 := Tryz.zeroValue9
  t20 := Tryz.underlying20
  a20 := Tryz.isAgg20
  z20 := Tryz.sizeOf20
  v20 := Tryz.zeroValue20
  t22 := Tryz.underlying102
  a22 := Tryz.isAgg102
  z22 := Tryz.sizeOf102
  v22 := Tryz.zeroValue102
  t26 := Tryz.underlying215
  a26 := Tryz.isAgg215
  z26 := Tryz.sizeOf215
  v26 := Tryz.zeroValue215
  t5 := Tryz.underlying5
  z5 := Tryz.sizeOf5
  i5 := by kernel_rfl }
open Go.RowKit Go.Lib in
theorem Tryz.bytes_Join_many (b o n c : Nat) (vs : List Value) (ls : List (List UInt8)) (sv : Value) (sep : List UInt8) (w : World) (hn : ls.length = n) (h2 : 2 ≤ n) (hP : Lib.PartsAt w ⟨b, o, none⟩ vs ls) (hcap : n ≤ c) (hS : Lib.HoldsBytes w sv sep) (hn47 : n ≤ 140737488355328) (hlen : Lib.lens ls + sep.length * (n - 1) ≤ 140737488355328) :
    Calls Tryz.prog 110 #[.slice (some ⟨b, o, none⟩) n c, sv] w fun e w' => ∃ v', e = .returned v' ∧ Lib.FreshBytes w.heap.size w' v' (Lib.join ls sep) ∧ Below w.heap.size w w' := Any.bytes_Join_many Tryz.laysSlJ14 b o n c vs ls sv sep w hn h2 hP hcap hS hn47 hlen
end Go.Proofs

namespace Go.Proofs.YteenjgfbbkdlhaaGreatDoor.Sx
open Go
attribute [local irreducible] Calls
def selfV (b : Nat) : Value := .pointer (some ⟨b, 0, none⟩)
theorem con_of_calls {P : Program} {k : FuncId} {args : Array Value} {w : World} {Gs : List Fact} {R : Value → List Fact → Prop} (h : Calls P k args w fun e w' => ∃ v, e = .returned v ∧ Fin w Gs R v w') : Con P k args w Gs R := h
theorem fin_one {w w' : World} {f f' : Fact} {R : Value → List Fact → Prop} {v : Value} (hR : R v [f']) (hc : Chg f.D w w') (hp : f'.p w') (ho : f'.own = true) (hD : ∀ k, f'.D k → f.D k ∧ k < w'.heap.size) : Fin w [f] R v w' := by
  have hu : Un [f] = f.D := by funext k; simp [Un]
  refine ⟨[f'], hR, by rw [hu]; exact hc, ⟨fun g hg => ?_, fun g hg k hk => ?_, List.pairwise_singleton _ _⟩, ⟨ho, trivial⟩, fun g hg k hk => ?_⟩
  · obtain rfl := List.mem_singleton.1 hg; exact hp
  · obtain rfl := List.mem_singleton.1 hg; exact (hD k hk).2
  · obtain rfl := List.mem_singleton.1 hg; rw [hu]; exact .inl (hD k hk).1
theorem copyCheck_c (w : World) (b : Nat) (p x : Value) (hp : p = .pointer none ∨ p = selfV b) (h : (bkF b ty_strings_Builder [p, x]).p w) :
    Con Tryz.prog n_strings_Builder_copyCheck #[selfV b] w [bkF b ty_strings_Builder [p, x]] fun v Fs => v = .tuple #[] ∧ Fs = [bkF b ty_strings_Builder [selfV b, x]] := by
  have hb : w.heap[b]? = some (.cells #[p, x] ty_strings_Builder (0, 0)) := h
  have hlt : b < w.heap.size := (Array.getElem?_eq_some_iff.1 hb).1
  have h0 : w.cell? ⟨b, 0, none⟩ = some p := by rw [cell_of_row w b 0 _ _ _ hb]; rfl
  rcases hp with rfl | rfl
  · refine con_of_calls (Calls.mono (Any.Builder_copyCheck_fresh { Tryz.lays156 with } Tryz.Builder_Extra_156.toX72 b w h0 (by simp [World.shape?, hb]; rfl) (by simp [World.frozen?, hb])) ?_)
    rintro e w' ⟨rfl, rfl⟩
    have h2 := heap_setCell_same w b 0 #[.pointer none, x] ty_strings_Builder (selfV b) hb
    refine ⟨_, rfl, fin_one (f' := bkF b ty_strings_Builder [selfV b, x]) ⟨rfl, rfl⟩ ⟨rfl, rfl, rfl, by simp [World.setCell], fun k _ hk => heap_setCell_other w _ k _ hk⟩ h2 rfl (fun k hk => ⟨hk, ?_⟩)⟩
    obtain rfl : k = b := hk
    simpa [World.setCell] using hlt
  · refine con_of_calls (Calls.mono (Any.Builder_copyCheck_used { Tryz.lays156 with } Tryz.Builder_Extra_156.toX72 b w h0) ?_)
    rintro e w' ⟨rfl, rfl⟩
    refine ⟨_, rfl, fin_one (f' := bkF b ty_strings_Builder [selfV b, x]) ⟨rfl, rfl⟩ (Chg.refl _ _) h rfl (fun k hk => ⟨hk, ?_⟩)⟩
    obtain rfl : k = b := hk
    exact hlt
def bldF (b : Nat) (p : Value) (A : Option Addr) (l : List UInt8) (c : Nat) : List Fact := [bkF b ty_strings_Builder [p, .slice A l.length c], browF ty_uint8 A l c]
theorem writeByte_c (w : World) (b : Nat) (p : Value) (A : Option Addr) (l : List UInt8) (c : Nat) (x : UInt8) (hp : p = .pointer none ∨ p = selfV b) (hl : l.length < 140737488355328) (hm : Mem w (bldF b p A l c)) :
    Con Tryz.prog n_strings_Builder_WriteByte #[selfV b, byte x] w (bldF b p A l c) fun v Fs => v = .nilIface ∧ ∃ A' c', Fs = bldF b (selfV b) A' (l ++ [x]) c' := by
  have g := good_strings_Builder_WriteByte w (Un (bldF b p A l c))
  refine con_of_sx (cx := cx_strings_Builder_WriteByte w (Un (bldF b p A l c))) g b_strings_Builder_WriteByte rfl rfl (β := Va.z) [.c (.v (selfV b)), .c (.v (byte x))] 0 [] _ rfl rfl (hm.sat0 rfl (fun f hf _ k hk => ⟨f, hf, hk⟩)) ?_
  refine call_con [0] (fun β w' hs => copyCheck_c w' b p _ hp (hs.get 0 rfl)) ?_
  rintro v Fs ⟨rfl, rfl⟩
  refine ⟨.slice A l.length c, fun β w' hs => by
    have hb : w'.heap[b]? = some (.cells #[selfV b, .slice A l.length c] ty_strings_Builder (0, 0)) := hs.get 0 rfl
    show w'.cell? ⟨b, 1, none⟩ = _
    rw [cell_of_row w' b 1 _ _ _ hb]; rfl, ?_⟩
  intro b2
  refine ⟨2, l.length, l.length + 1, l.map byte, [byte x], (l ++ [x]).map byte, rfl, fun β w' hs => row_rd (hs.get 0 rfl), bytes_one [x], rfl, by simp, by rw [maxLen_eq]; omega, by show (l.length + 1) * 1 ≤ _; omega, ?_⟩
  intro A' c' h1 h2 h3
  refine ⟨_, fun β w' hs => hs.bkSet 1 (o := 1) (us := [.slice A' (l.length + 1) c']) rfl (Nat.le_refl 2) (fun u hu => by obtain rfl := List.mem_singleton.1 hu; rfl), ?_⟩
  intro β w' hs
  have e : (l ++ [x]).length = l.length + 1 := by simp
  refine hs.fin [1, 2] ⟨rfl, A', c', ?_⟩
  show [bkF b ty_strings_Builder [selfV b, .slice A' (l.length + 1) c'], rowF ty_uint8 1 (.slice A' (l.length + 1) c') (l.length + 1) ((l ++ [x]).map byte)] = _
  rw [← e]
  rfl
theorem Mem.none (w : World) : Mem w [] := ⟨fun _ q => (by cases q), fun _ q => (by cases q), List.Pairwise.nil⟩
theorem cellsU8 : Tryz.prog.cellsOf ty_uint8 = 1 := by kernel_rfl
theorem ptr_byte : Tryz.prog.underlying ty_ptr_uint8 = some (.pointer ty_uint8) := by kernel_rfl
theorem text_c (w : World) (b : Nat) (p : Value) (A : Option Addr) (l : List UInt8) (c : Nat) (hne : l ≠ []) (hm : Mem w (bldF b p A l c)) :
    Con Tryz.prog n_strings_Builder_String #[selfV b] w (bldF b p A l c) fun v Fs => v = .string ⟨l.toArray⟩ ∧ Fs = [] := by
  have g := good_strings_Builder_String w (Un (bldF b p A l c))
  have hl0 : l.length ≠ 0 := by simpa using hne
  have hrow : w.ownsRow 0 ty_uint8 1 (.slice A l.length c) l.length (l.map byte) := hm.fact _ (List.mem_cons_of_mem _ List.mem_cons_self)
  obtain ⟨gb, rfl, hlc, hcm⟩ : ∃ gb, A = some ⟨gb, 0, none⟩ ∧ l.length ≤ c ∧ c ≤ maxLen := by
    rcases hrow.2 with ⟨_, hz⟩ | ⟨gb, cap, cur, hv, _, _, h1, h2, _⟩
    · exact absurd hz hl0
    · injection hv with h3 h4 h5
      subst h5
      exact ⟨gb, h3, h1, h2⟩
  refine con_of_sx (cx := cx_strings_Builder_String w (Un (bldF b p (some ⟨gb, 0, none⟩) l c))) g b_strings_Builder_String rfl rfl (β := Va.z) [.c (.v (selfV b))] 0 [] _ rfl rfl (hm.sat0 rfl (fun f hf _ k hk => ⟨f, hf, hk⟩)) ?_
  refine draw_rule g p_strings_Builder_String_1 (by kernel_rfl) [] [bkF b ty_strings_Builder [p, .slice (some ⟨gb, 0, none⟩) l.length c]] (Sub.of (List.nil_sublist _) (List.sublist_append_left [_] [_])) ?_
  have hcell : ∀ (cx : Cx) (n : Nat) (β : Va) (w' : World), Sat cx β n [] [bkF b ty_strings_Builder [p, .slice (some ⟨gb, 0, none⟩) l.length c]] w' → w'.cell? ⟨b, 1, none⟩ = some (.slice (some ⟨gb, 0, none⟩) l.length c) := fun cx n β w' hs => by
    have hb : w'.heap[b]? = some (.cells #[p, .slice (some ⟨gb, 0, none⟩) l.length c] ty_strings_Builder (0, 0)) := hs.get 0 rfl
    rw [cell_of_row w' b 1 _ _ _ hb]; rfl
  refine ⟨.slice (some ⟨gb, 0, none⟩) l.length c, hcell _ _, ?_⟩
  refine ⟨.slice (some ⟨gb, 0, none⟩) l.length c, hcell _ _, ?_⟩
  refine ⟨[], _, .c (.v (.pointer (some ⟨gb, 0, none⟩))), fun β w' ty hs => ⟨w', ?_, hs⟩, trivial, Sub.of (List.nil_sublist _) (List.sublist_append_left [_] [_]), ?_⟩
  · have := Lib.run_unsafeSliceData_row (P := Tryz.prog) w' #[ty_sl_uint8] ty ⟨gb, 0, none⟩ l.length c (by omega)
    simp only [builtin, Sem.run_bind]
    erw [this]
    rfl
  refine ⟨[], [bkF b ty_strings_Builder [p, .slice (some ⟨gb, 0, none⟩) l.length c]], .c (.v (.string ⟨l.toArray⟩)), fun β w' ty hs => ⟨w'.freeze ⟨gb, 0, none⟩ l.length, ?_, ?_⟩, trivial, Sub.refl, ?_⟩
  · have hrow' : w'.ownsRow 0 ty_uint8 1 (.slice (some ⟨gb, 0, none⟩) l.length c) l.length (l.map byte) := hs.get 1 rfl
    obtain ⟨cur, hg, hcs⟩ : ∃ cur, w'.heap[gb]? = some (.cells cur ty_uint8 (0, 0)) ∧ cur.size = c * 1 := by
      rcases hrow'.2 with ⟨_, hz⟩ | ⟨g', cap, cur, hv, _, hg, _, _, h3, _⟩
      · exact absurd hz hl0
      · injection hv with h4 h5 h6
        injection h4 with h4
        injection h4 with h4
        subst h4 h6
        exact ⟨cur, hg, h3⟩
    have := Lib.run_unsafeString_row (P := Tryz.prog) w' ty_ptr_uint8 3 ty ty_uint8 ptr_byte cellsU8 gb cur.size (by simp [World.shape?, hg]) l hne (by omega) (by rw [maxLen_eq] at hcm; omega) (fun j x hx => by
      have hr := row_rd hrow'
      obtain ⟨ad, q, hc⟩ := hr.2 (by omega)
      obtain rfl := Option.some.inj q
      exact hc j (byte x) (by simp [hx]))
    simp only [builtin, Sem.run_bind]
    erw [this]
    rfl
  · refine hs.swap [1] ⟨rfl, trivial⟩ (Fs := []) (Chg.mono (freeze_chg _ _ _) (fun i _ q => ⟨_, List.mem_singleton.2 rfl, ?_⟩)) (Mem.none _) (fun _ q => by cases q)
    obtain rfl : i = gb := q
    rfl
  intro β w' hs
  exact hs.fin [] ⟨rfl, rfl⟩
end Go.Proofs.YteenjgfbbkdlhaaGreatDoor.Sx

namespace Go.Proofs.YteenjgfbbkdlhaaGreatDoor.Sx
open Go
def u32 (x : UInt32) : Value := .int .u32 (x.toNat : Int)
theorem wrap_u32 (x : Int) : IntKind.u32.wrap x = x % 4294967296 := by simp [IntKind.wrap, IntKind.bits, IntKind.signed]
theorem wrap32_nat (x : Nat) : IntKind.u32.wrap (x : Int) = ((UInt32.ofNat x).toNat : Int) := by
  rw [wrap_u32, UInt32.toNat_ofNat']
  omega
theorem add32 (a b : UInt32) : IntKind.u32.wrap ((a.toNat : Int) + (b.toNat : Int)) = ((a + b).toNat : Int) := by
  rw [wrap_u32, UInt32.toNat_add]
  omega
theorem ofInt32 (a : UInt32) : BitVec.ofInt 32 (a.toNat : Int) = a.toBitVec := by
  apply BitVec.eq_of_toNat_eq
  rw [BitVec.toNat_ofInt]
  have := a.toNat_lt
  have e : a.toBitVec.toNat = a.toNat := rfl
  rw [e]
  omega
theorem back32 (x : BitVec 32) : IntKind.u32.wrap (x.toNat : Int) = ((UInt32.ofBitVec x).toNat : Int) := by
  rw [wrap_u32]
  have := x.isLt
  have e : (UInt32.ofBitVec x).toNat = x.toNat := rfl
  rw [e]
  omega
theorem xor32 (a b : UInt32) : bits .xor .u32 (a.toNat : Int) (b.toNat : Int) = ((a ^^^ b).toNat : Int) := by
  show IntKind.u32.wrap (((BitVec.ofInt 32 (a.toNat : Int)) ^^^ (BitVec.ofInt 32 (b.toNat : Int))).toNat : Int) = _
  rw [ofInt32, ofInt32, back32]
  rfl
theorem and32 (a b : UInt32) : bits .and .u32 (a.toNat : Int) (b.toNat : Int) = ((a &&& b).toNat : Int) := by
  show IntKind.u32.wrap (((BitVec.ofInt 32 (a.toNat : Int)) &&& (BitVec.ofInt 32 (b.toNat : Int))).toNat : Int) = _
  rw [ofInt32, ofInt32, back32]
  rfl
theorem or32 (a b : UInt32) : bits .or .u32 (a.toNat : Int) (b.toNat : Int) = ((a ||| b).toNat : Int) := by
  show IntKind.u32.wrap (((BitVec.ofInt 32 (a.toNat : Int)) ||| (BitVec.ofInt 32 (b.toNat : Int))).toNat : Int) = _
  rw [ofInt32, ofInt32, back32]
  rfl
theorem not32 (a : UInt32) : bits .xor .u32 (if IntKind.u32.signed then -1 else IntKind.u32.max) (a.toNat : Int) = ((~~~ a).toNat : Int) := by
  show IntKind.u32.wrap (((BitVec.ofInt 32 4294967295) ^^^ (BitVec.ofInt 32 (a.toNat : Int))).toNat : Int) = _
  rw [ofInt32, back32]
  have e : UInt32.ofBitVec (BitVec.ofInt 32 4294967295 ^^^ a.toBitVec) = ~~~ a := by
    apply UInt32.toBitVec_inj.1
    show BitVec.ofInt 32 4294967295 ^^^ a.toBitVec = ~~~ a.toBitVec
    have : BitVec.ofInt 32 4294967295 = BitVec.allOnes 32 := by decide
    rw [this, BitVec.allOnes_xor]
  rw [e]
theorem shl32 (a : UInt32) (n : Nat) (hn : n < 32) : IntKind.u32.wrap ((a.toNat : Int) * 2 ^ (min (n : Int).toNat IntKind.u32.bits)) = ((a <<< UInt32.ofNat n).toNat : Int) := by
  have h1 : min (n : Int).toNat IntKind.u32.bits = n := by show min n 32 = n; omega
  rw [h1, wrap_u32, UInt32.toNat_shiftLeft, UInt32.toNat_ofNat', Nat.mod_eq_of_lt (show n < 2 ^ 32 by omega), Nat.mod_eq_of_lt hn, Nat.shiftLeft_eq]
  have : ((a.toNat : Int) * 2 ^ n) = ((a.toNat * 2 ^ n : Nat) : Int) := by push_cast; rfl
  rw [this]
  omega
theorem shr32 (a : UInt32) (n : Nat) (hn : n < 32) : (a.toNat : Int).fdiv (2 ^ (min (n : Int).toNat IntKind.u32.bits)) = ((a >>> UInt32.ofNat n).toNat : Int) := by
  have h1 : min (n : Int).toNat IntKind.u32.bits = n := by show min n 32 = n; omega
  rw [h1, UInt32.toNat_shiftRight, UInt32.toNat_ofNat', Nat.mod_eq_of_lt (show n < 2 ^ 32 by omega), Nat.mod_eq_of_lt hn, Nat.shiftRight_eq_div_pow]
  have : (2 ^ n : Int) = ((2 ^ n : Nat) : Int) := by push_cast; rfl
  rw [this, Int.fdiv_eq_ediv_of_nonneg _ (Int.natCast_nonneg _)]
  exact (Int.natCast_ediv _ _).symm
#print axioms shr32
end Go.Proofs.YteenjgfbbkdlhaaGreatDoor.Sx

namespace Go.Proofs.YteenjgfbbkdlhaaGreatDoor.Sha
def K : List UInt32 := [
    0x428a2f98, 0x71374491, 0xb5c0fbcf, 0xe9b5dba5, 0x3956c25b, 0x59f111f1, 0x923f82a4, 0xab1c5ed5,
    0xd807aa98, 0x12835b01, 0x243185be, 0x550c7dc3, 0x72be5d74, 0x80deb1fe, 0x9bdc06a7, 0xc19bf174,
    0xe49b69c1, 0xefbe4786, 0x0fc19dc6, 0x240ca1cc, 0x2de92c6f, 0x4a7484aa, 0x5cb0a9dc, 0x76f988da,
    0x983e5152, 0xa831c66d, 0xb00327c8, 0xbf597fc7, 0xc6e00bf3, 0xd5a79147, 0x06ca6351, 0x14292967,
    0x27b70a85, 0x2e1b2138, 0x4d2c6dfc, 0x53380d13, 0x650a7354, 0x766a0abb, 0x81c2c92e, 0x92722c85,
    0xa2bfe8a1, 0xa81a664b, 0xc24b8b70, 0xc76c51a3, 0xd192e819, 0xd6990624, 0xf40e3585, 0x106aa070,
    0x19a4c116, 0x1e376c08, 0x2748774c, 0x34b0bcb5, 0x391c0cb3, 0x4ed8aa4a, 0x5b9cca4f, 0x682e6ff3,
    0x748f82ee, 0x78a5636f, 0x84c87814, 0x8cc70208, 0x90befffa, 0xa4506ceb, 0xbef9a3f7, 0xc67178f2]
def rotr (x : UInt32) (n : Nat) : UInt32 := x >>> UInt32.ofNat n ||| x <<< UInt32.ofNat (32 - n)
theorem rotl_eq (x : UInt32) (n : Nat) : x <<< UInt32.ofNat (32 - n) ||| x >>> UInt32.ofNat n = rotr x n := by unfold rotr; exact UInt32.or_comm _ _
def word (a b c d : UInt8) : UInt32 := UInt32.ofNat (a.toNat * 16777216 + b.toNat * 65536 + c.toNat * 256 + d.toNat)
def wordAt (p : List UInt8) (i : Nat) : UInt32 := word (p.getD (4 * i) 0) (p.getD (4 * i + 1) 0) (p.getD (4 * i + 2) 0) (p.getD (4 * i + 3) 0)
def s0 (a : UInt32) : UInt32 := rotr a 7 ^^^ rotr a 18 ^^^ a >>> 3
def s1 (b : UInt32) : UInt32 := rotr b 17 ^^^ rotr b 19 ^^^ b >>> 10
def nxt (w : List UInt32) (i : Nat) : UInt32 := w.getD (i - 16) 0 + s0 (w.getD (i - 15) 0) + w.getD (i - 7) 0 + s1 (w.getD (i - 2) 0)
def sched (p : List UInt8) : Nat → List UInt32
  | 0 => []
  | n + 1 => let w := sched p n; w ++ [if n < 16 then wordAt p n else nxt w n]
theorem sched_len (p : List UInt8) : ∀ n, (sched p n).length = n
  | 0 => rfl
  | n + 1 => by simp [sched, sched_len p n]
def W (p : List UInt8) : List UInt32 := sched p 64
theorem W_len (p : List UInt8) : (W p).length = 64 := sched_len p 64
structure S8 where
  a : UInt32
  b : UInt32
  c : UInt32
  d : UInt32
  e : UInt32
  f : UInt32
  g : UInt32
  h : UInt32
def S8.l (s : S8) : List UInt32 := [s.a, s.b, s.c, s.d, s.e, s.f, s.g, s.h]
def first : S8 := ⟨0x6a09e667, 0xbb67ae85, 0x3c6ef372, 0xa54ff53a, 0x510e527f, 0x9b05688c, 0x1f83d9ab, 0x5be0cd19⟩
def S8.x (s : S8) (k w : UInt32) : UInt32 := s.h + (rotr s.e 6 ^^^ rotr s.e 11 ^^^ rotr s.e 25) + (s.e &&& s.f ^^^ ~~~ s.e &&& s.g) + k + w
def S8.y (s : S8) : UInt32 := rotr s.a 2 ^^^ rotr s.a 13 ^^^ rotr s.a 22
def S8.z (s : S8) : UInt32 := s.a &&& s.b ^^^ s.a &&& s.c ^^^ s.b &&& s.c
def S8.round (s : S8) (k w : UInt32) : S8 := ⟨s.x k w + s.y + s.z, s.a, s.b, s.c, s.d + s.x k w, s.e, s.f, s.g⟩
def rounds (s : S8) (w : List UInt32) : Nat → S8
  | 0 => s
  | n + 1 => (rounds s w n).round (K.getD n 0) (w.getD n 0)
def S8.add (s t : S8) : S8 := ⟨s.a + t.a, s.b + t.b, s.c + t.c, s.d + t.d, s.e + t.e, s.f + t.f, s.g + t.g, s.h + t.h⟩
def step (s : S8) (p : List UInt8) : S8 := s.add (rounds s (W p) 64)
def go : Nat → S8 → List UInt8 → S8
  | 0, s, _ => s
  | n + 1, s, p => go n (step s (p.take 64)) (p.drop 64)
def b4 (x : UInt32) : List UInt8 := [(x >>> 24).toUInt8, (x >>> 16).toUInt8, (x >>> 8).toUInt8, x.toUInt8]
def out (s : S8) : List UInt8 := s.l.flatMap b4
def long (n : Nat) : List UInt8 := [56, 48, 40, 32, 24, 16, 8, 0].map fun k => UInt8.ofNat (n / 2 ^ k)
def zeros (n : Nat) : Nat := (119 - n % 64) % 64
def ends (n : Nat) : List UInt8 := 0x80 :: (List.replicate (zeros n) 0 ++ long (8 * n))
theorem long_len (n : Nat) : (long n).length = 8 := rfl
theorem ends_len (n : Nat) : (ends n).length = 9 + zeros n := by simp [ends, long_len]; omega
theorem pad_mod (p : List UInt8) : (p ++ ends p.length).length % 64 = 0 := by
  rw [List.length_append, ends_len]; unfold zeros; omega
def sum (p : List UInt8) : List UInt8 := let q := p ++ ends p.length; out (go (q.length / 64) first q)
theorem out_len (s : S8) : (out s).length = 32 := rfl
theorem sum_len (p : List UInt8) : (sum p).length = 32 := out_len _
end Go.Proofs.YteenjgfbbkdlhaaGreatDoor.Sha

namespace Go.Proofs.YteenjgfbbkdlhaaGreatDoor.Nam
structure Fm where
  size : Nat
  mask : UInt8
  lead : UInt8
  least : Nat
def fms : List Fm := [⟨1, 0x80, 0, 0⟩, ⟨2, 0xe0, 0xc0, 0x80⟩, ⟨3, 0xf0, 0xe0, 0x800⟩, ⟨4, 0xf8, 0xf0, 0x10000⟩]
def sign (r : Nat) : Bool := decide (r ≤ 1114111) && (decide (r < 55296) || decide (57343 < r))
def tailR : List UInt8 → Nat → Option Nat
  | [], r => some r
  | b :: t, r => if b.toNat / 64 = 2 then tailR t (r * 64 + b.toNat % 64) else none
theorem tailR_none : ∀ {l : List UInt8} {r : Nat}, (∃ b ∈ l, b.toNat / 64 ≠ 2) → tailR l r = none
  | [], _, ⟨_, h, _⟩ => by cases h
  | x :: t, r, ⟨b, hb, hn⟩ => by
    simp only [tailR]
    split
    · rename_i hx
      rcases List.mem_cons.1 hb with rfl | hb
      · exact absurd hx hn
      · exact tailR_none ⟨b, hb, hn⟩
    · rfl
def fits (f : Fm) (s : List UInt8) : Bool := match s with
  | [] => false
  | b :: _ => decide (b &&& f.mask = f.lead) && decide (f.size ≤ s.length)
def tryF (f : Fm) (s : List UInt8) : Option Nat := match s with
  | [] => none
  | b :: t => match tailR (t.take (f.size - 1)) (b &&& ~~~f.mask).toNat with
    | some r => if f.least ≤ r ∧ sign r = true then some r else none
    | none => none
def decL (s : List UInt8) : Option Nat × Nat := match fms.find? fun f => fits f s with
  | some f => match tryF f s with
    | some r => (some r, f.size)
    | none => (none, 1)
  | none => (none, 1)
theorem decL_size {s : List UInt8} (hs : s ≠ []) : 1 ≤ (decL s).2 ∧ (decL s).2 ≤ s.length := by
  have h1 : 0 < s.length := List.length_pos_iff.2 hs
  unfold decL
  split
  · rename_i f hf
    have hff := List.find?_some hf
    have hm := List.mem_of_find?_eq_some hf
    have hsz : 1 ≤ f.size := by
      simp only [fms, List.mem_cons, List.not_mem_nil, or_false] at hm
      rcases hm with rfl | rfl | rfl | rfl <;> decide
    have hle : f.size ≤ s.length := by
      unfold fits at hff
      split at hff
      · cases hff
      · simp only [Bool.and_eq_true, decide_eq_true_eq] at hff
        exact hff.2
    split
    · exact ⟨hsz, hle⟩
    · exact ⟨Nat.le_refl 1, h1⟩
  · exact ⟨Nat.le_refl 1, h1⟩
theorem u8_all {p : UInt8 → Prop} (h : ∀ n : Fin 256, p (UInt8.ofNat n.1)) (b : UInt8) : p b := by
  have := h ⟨b.toNat, b.toNat_lt⟩
  simpa using this
theorem one_form (b : UInt8) : ∀ f ∈ fms, ∀ g ∈ fms, b &&& f.mask = f.lead → b &&& g.mask = g.lead → f.size = g.size := by
  have h : ∀ n : Fin 256, ∀ f ∈ fms, ∀ g ∈ fms, (UInt8.ofNat n.1) &&& f.mask = f.lead → (UInt8.ofNat n.1) &&& g.mask = g.lead → f.size = g.size := by
    have key : ∀ n : Fin 256, (fms.all fun f => fms.all fun g => !decide ((UInt8.ofNat n.1) &&& f.mask = f.lead) || !decide ((UInt8.ofNat n.1) &&& g.mask = g.lead) || decide (f.size = g.size)) = true := by decide +kernel
    intro n f hf g hg h1 h2
    have := List.all_eq_true.1 (List.all_eq_true.1 (key n) f hf) g hg
    simp only [Bool.or_eq_true, Bool.not_eq_true', decide_eq_false_iff_not, decide_eq_true_eq] at this
    rcases this with (q | q) | q
    · exact absurd h1 q
    · exact absurd h2 q
    · exact q
  exact u8_all (p := fun b => ∀ f ∈ fms, ∀ g ∈ fms, b &&& f.mask = f.lead → b &&& g.mask = g.lead → f.size = g.size) h b
theorem size_inj : ∀ f ∈ fms, ∀ g ∈ fms, f.size = g.size → f = g := by
  intro f hf g hg h
  simp only [fms, List.mem_cons, List.not_mem_nil, or_false] at hf hg
  rcases hf with rfl | rfl | rfl | rfl <;> rcases hg with rfl | rfl | rfl | rfl <;> first | rfl | cases h
theorem find_form {b : UInt8} {t : List UInt8} {f : Fm} (hf : f ∈ fms) (hb : b &&& f.mask = f.lead) : fms.find? (fun g => fits g (b :: t)) = if f.size ≤ (b :: t).length then some f else none := by
  cases hq : fms.find? (fun g => fits g (b :: t)) with
  | none =>
    have h := List.find?_eq_none.1 hq f hf
    rw [if_neg]
    intro q
    exact h (by simp only [fits, Bool.and_eq_true, decide_eq_true_eq]; exact ⟨hb, q⟩)
  | some g =>
    have hg := List.mem_of_find?_eq_some hq
    have h1 := List.find?_some hq
    simp only [fits, Bool.and_eq_true, decide_eq_true_eq] at h1
    obtain rfl := size_inj g hg f hf (one_form b g hg f hf h1.1 hb)
    rw [if_pos h1.2]
def runes : List UInt8 → List (Option Nat)
  | [] => []
  | b :: t => (decL (b :: t)).1 :: runes ((b :: t).drop (decL (b :: t)).2)
termination_by s => s.length
decreasing_by
  have := decL_size (s := b :: t) (by simp)
  simp only [List.length_drop, List.length_cons] at this ⊢
  omega
theorem runes_nil : runes [] = [] := by rw [runes]
theorem runes_cons {s : List UInt8} (hs : s ≠ []) : runes s = (decL s).1 :: runes (s.drop (decL s).2) := by
  cases s with
  | nil => exact absurd rfl hs
  | cons b t => rw [runes]
end Go.Proofs.YteenjgfbbkdlhaaGreatDoor.Nam

namespace Go.Proofs.YteenjgfbbkdlhaaGreatDoor.Bx
structure Term where
  kind : Nat
  key : List UInt8
  text : List UInt8
  rounds : Nat
  list : List Nat
  mask : List UInt8
def vint (n : Nat) : List UInt8 := if h : n < 128 then [UInt8.ofNat n] else UInt8.ofNat (n % 128 + 128) :: vint (n / 128)
termination_by n
decreasing_by omega
theorem vint_lt {n : Nat} (h : n < 128) : vint n = [UInt8.ofNat n] := by rw [vint, dif_pos h]
theorem vint_ge {n : Nat} (h : ¬ n < 128) : vint n = UInt8.ofNat (n % 128 + 128) :: vint (n / 128) := by rw [vint, dif_neg h]
theorem u8_inj {a b : Nat} (ha : a < 256) (hb : b < 256) (h : UInt8.ofNat a = UInt8.ofNat b) : a = b := by
  have := congrArg UInt8.toNat h
  simp only [UInt8.toNat_ofNat'] at this
  omega
theorem vint_inj : ∀ (a b : Nat) (x y : List UInt8), vint a ++ x = vint b ++ y → a = b ∧ x = y := by
  intro a
  induction a using Nat.strongRecOn with
  | _ a ih =>
    intro b x y h
    by_cases ha : a < 128
    · by_cases hb : b < 128
      · rw [vint_lt ha, vint_lt hb] at h
        simp only [List.cons_append, List.nil_append, List.cons.injEq] at h
        exact ⟨u8_inj (by omega) (by omega) h.1, h.2⟩
      · rw [vint_lt ha, vint_ge hb] at h
        simp only [List.cons_append, List.nil_append, List.cons.injEq] at h
        have := u8_inj (by omega) (by omega) h.1
        omega
    · by_cases hb : b < 128
      · rw [vint_ge ha, vint_lt hb] at h
        simp only [List.cons_append, List.nil_append, List.cons.injEq] at h
        have := u8_inj (by omega) (by omega) h.1
        omega
      · rw [vint_ge ha, vint_ge hb] at h
        simp only [List.cons_append, List.cons.injEq] at h
        have h1 := u8_inj (by omega) (by omega) h.1
        obtain ⟨h2, h3⟩ := ih (a / 128) (by omega) (b / 128) x y h.2
        exact ⟨by omega, h3⟩
theorem vints_inj : ∀ (l m : List Nat) (x y : List UInt8), l.length = m.length → l.flatMap vint ++ x = m.flatMap vint ++ y → l = m ∧ x = y
  | [], [], x, y, _, h => ⟨rfl, h⟩
  | [], _ :: _, _, _, hl, _ => by cases hl
  | _ :: _, [], _, _, hl, _ => by cases hl
  | a :: l, b :: m, x, y, hl, h => by
    simp only [List.flatMap_cons, List.append_assoc] at h
    obtain ⟨rfl, h2⟩ := vint_inj a b _ _ h
    obtain ⟨rfl, h3⟩ := vints_inj l m x y (by simpa using hl) h2
    exact ⟨rfl, h3⟩
def print (t : Term) : List UInt8 := [t.kind, t.rounds, t.key.length, t.text.length, t.list.length].flatMap vint ++ t.list.flatMap vint ++ (t.key ++ t.text ++ t.mask)
theorem print_inj {s t : Term} (h : print s = print t) : s = t := by
  obtain ⟨k, a, b, r, l, m⟩ := s
  obtain ⟨k', a', b', r', l', m'⟩ := t
  simp only [print, List.append_assoc] at h
  obtain ⟨h1, h2⟩ := vints_inj [k, r, a.length, b.length, l.length] [k', r', a'.length, b'.length, l'.length] _ _ rfl h
  simp only [List.cons.injEq, and_true] at h1
  obtain ⟨rfl, rfl, h3, h4, h5⟩ := h1
  obtain ⟨rfl, h6⟩ := vints_inj l l' _ _ h5 h2
  obtain ⟨rfl, h7⟩ := List.append_inj h6 h3
  obtain ⟨rfl, rfl⟩ := List.append_inj h7 h4
  rfl
def front : List UInt8 := [0xf1, 84, 82, 77] ++ List.replicate 24 0
theorem front_len : front.length = 28 := rfl
def be4 (n : Nat) : List UInt8 := [UInt8.ofNat (n / 16777216), UInt8.ofNat (n / 65536), UInt8.ofNat (n / 256), UInt8.ofNat n]
def handle (n : Nat) : List UInt8 := front ++ be4 n
theorem handle_len (n : Nat) : (handle n).length = 32 := rfl
def num : List UInt8 → Nat := List.foldl (fun n b => n * 256 + b.toNat) 0
def looks (p : List UInt8) : Option Nat := if p.length = 32 ∧ p.take 28 = front then some (num (p.drop 28)) else none
theorem num_be4 {n : Nat} (h : n < 4294967296) : num (be4 n) = n := by
  simp only [num, be4, List.foldl, UInt8.toNat_ofNat']
  omega
open Classical in
noncomputable def place (t : Term) : List Term → Option Nat
  | [] => none
  | x :: r => if x = t then some 0 else (place t r).map (· + 1)
theorem place_some {t : Term} : ∀ {L : List Term} {i : Nat}, place t L = some i → L[i]? = some t
  | x :: r, i, h => by
    simp only [place] at h
    split at h
    · rename_i q; obtain rfl := Option.some.inj h; simp [q]
    · obtain ⟨j, hj, rfl⟩ := Option.map_eq_some_iff.1 h
      simpa using place_some hj
theorem place_none {t : Term} : ∀ {L : List Term}, place t L = none → t ∉ L
  | [], _ => List.not_mem_nil
  | x :: r, h => by
    simp only [place] at h
    split at h
    · cases h
    · rename_i q
      have h' : place t r = none := by simpa using h
      intro hm
      rcases List.mem_cons.1 hm with rfl | hm
      · exact q rfl
      · exact place_none h' hm
structure Box where
  sym : Bool
  full : Bool
  L : List Term
def noughts : List UInt8 := List.replicate 32 0
open Classical in
noncomputable def Box.tag (b : Box) (t : Term) : List UInt8 × Box := match place t b.L with
  | some i => (handle (i + 1), b)
  | none => if 4096 ≤ b.L.length then (noughts, { b with full := true }) else (handle (b.L.length + 1), { b with L := b.L ++ [t] })
def xorB (a b : List UInt8) : List UInt8 := List.zipWith (· ^^^ ·) a b
def Box.opens (b : Box) (tag : List UInt8) : Option (List Nat × List UInt8) :=
  if tag.length = 32 then
    if b.sym = true ∧ tag.take 28 = front then
      if num (tag.drop 28) < 1 ∨ b.L.length < num (tag.drop 28) then none
      else match b.L[num (tag.drop 28) - 1]? with
        | some t => if t.kind = 4 then some (t.list, t.mask) else some ([num (tag.drop 28)], noughts)
        | none => none
    else some ([], tag)
  else none
theorem opens_raw {b : Box} {tag : List UInt8} (h : tag.length = 32) (hn : ¬ (b.sym = true ∧ tag.take 28 = front)) : b.opens tag = some ([], tag) := by unfold Box.opens; rw [if_pos h, if_neg hn]
theorem opens_in {b : Box} {tag : List UInt8} {n : Nat} {t : Term} (h : tag.length = 32) (hs : b.sym = true) (hf : tag.take 28 = front) (hn : num (tag.drop 28) = n) (ho : ¬ (n < 1 ∨ b.L.length < n)) (ht : b.L[n - 1]? = some t) :
    b.opens tag = if t.kind = 4 then some (t.list, t.mask) else some ([n], noughts) := by
  subst hn; unfold Box.opens; rw [if_pos h, if_pos ⟨hs, hf⟩, if_neg ho, ht]
end Go.Proofs.YteenjgfbbkdlhaaGreatDoor.Bx

namespace Go.Proofs.YteenjgfbbkdlhaaGreatDoor.Sx
open Go
attribute [local irreducible] Calls
theorem mark_c (w : World) : Con Tryz.prog n_box_mark #[] w [] fun v Fs => ∃ b, v = .slice (some ⟨b, 0, none⟩) 28 28 ∧ Fs = [browF ty_uint8 (some ⟨b, 0, none⟩) Bx.front 28] := by
  have g := good_box_mark w (Un [])
  refine con_of_sx (cx := cx_box_mark w (Un [])) g b_box_mark rfl rfl (β := Va.z) [] 0 [] [] rfl rfl (Sat.start rfl) ?_
  refine ⟨28, 28, rfl, rfl, Nat.le_refl _, by decide, by decide, ?_⟩
  intro b
  intro b2
  refine ⟨_, _, .c (.v (.int .i64 4)), fun β w' ty hs => hs.copyRow g 1 rfl (row_rd (hs.get 0 rfl)) (bytes_one [241, 84, 82, 77]) ty _ rfl, trivial, ?_⟩
  intro β w' hs
  exact hs.fin [1] ⟨b, rfl, rfl⟩
theorem wrap_u8b (x : Nat) : IntKind.u8.wrap (x : Int) = ((UInt8.ofNat x).toNat : Int) := by
  rw [wrap_u8, UInt8.toNat_ofNat']
  omega
theorem shr_nat (n k : Nat) : (n : Int).fdiv (2 ^ k) = ((n / 2 ^ k : Nat) : Int) := by
  have : (2 ^ k : Int) = ((2 ^ k : Nat) : Int) := by push_cast; rfl
  rw [this, Int.fdiv_eq_ediv_of_nonneg _ (Int.natCast_nonneg _)]
  exact (Int.natCast_ediv _ _).symm
theorem handle_c (w : World) (n : Nat) : Con Tryz.prog n_box_Handle #[.int .i64 n] w [] fun v Fs => ∃ A c, v = .slice A 32 c ∧ 32 ≤ c ∧ c ≤ maxLen ∧ Fs = [browF ty_uint8 A (Bx.handle n) c] := by
  have g := good_box_Handle w (Un [])
  refine con_of_sx (cx := cx_box_Handle w (Un [])) g b_box_Handle rfl rfl (β := Va.z) [.c (.v (.int .i64 n))] 0 [] [] rfl rfl (Sat.start rfl) ?_
  refine call_con [] (fun β w' hs => mark_c w') ?_
  rintro v Fs ⟨b, rfl, rfl⟩
  refine ⟨by decide, _, shr_nat n 24, _, wrap_u8b _, by decide, _, shr_nat n 16, _, wrap_u8b _, by decide, _, shr_nat n 8, _, wrap_u8b _, _, wrap_u8b _, ?_⟩
  intro b2
  refine ⟨1, 28, 32, _, (Bx.be4 n).map byte, (Bx.handle n).map byte, rfl, fun β w' hs => row_rd (hs.get 0 rfl), bytes_one (Bx.be4 n), rfl, by rw [Bx.handle, List.map_append], by decide, by decide, ?_⟩
  intro A c h1 h2 h3
  intro β w' hs
  exact hs.fin [1] ⟨A, c, rfl, h1, h2, rfl⟩
end Go.Proofs.YteenjgfbbkdlhaaGreatDoor.Sx

namespace Go.Proofs.YteenjgfbbkdlhaaGreatDoor.Sx
open Go Sha
attribute [local irreducible] Calls
theorem rotl_c (w : World) (x : UInt32) (n : Nat) (h1 : 1 ≤ n) (h2 : n < 32) : Pu Tryz.prog n_math_bits_RotateLeft32 #[u32 x, .int .i64 (-(n : Int))] w (u32 (rotr x n)) := by
  refine pu_of (calls_of_sx (cx := cx_math_bits_RotateLeft32 w None_) (good_math_bits_RotateLeft32 w None_) b_math_bits_RotateLeft32 rfl rfl (β := Va.z) [.c (.v (u32 x)), .c (.v (.int .i64 (-(n : Int))))] 0 [] [] rfl rfl (Sat.start rfl) ?_)
  refine ⟨_, rfl, ?_⟩
  refine ⟨((32 - n : Nat) : Int), ?_, ?_⟩
  · have : ∀ n : _root_.Fin 32, 1 ≤ n.val → bits .and .u64 (IntKind.u64.wrap (-(n.val : Int))) 31 = ((32 - n.val : Nat) : Int) := by decide
    exact this ⟨n, h2⟩ h1
  refine ⟨by omega, _, shl32 x (32 - n) (by omega), ?_⟩
  refine ⟨(n : Int), by show IntKind.u64.wrap _ = _; simp only [IntKind.wrap, IntKind.bits, IntKind.signed]; simp; omega, ?_⟩
  refine ⟨by omega, _, shr32 x n h2, ?_⟩
  refine ⟨_, or32 _ _, ?_⟩
  intro β w' hs
  refine ⟨?_, hs.chg⟩
  rw [← rotl_eq]
  rfl
theorem or_add {x y k : Nat} (h : y < 2 ^ k) : 2 ^ k * x ||| y = 2 ^ k * x + y := (Nat.two_pow_add_eq_or_of_lt h x).symm
theorem word_or (a b c d : UInt8) : ((UInt32.ofNat a.toNat <<< UInt32.ofNat 24 ||| UInt32.ofNat b.toNat <<< UInt32.ofNat 16) ||| UInt32.ofNat c.toNat <<< UInt32.ofNat 8) ||| UInt32.ofNat d.toNat = word a b c d := by
  apply UInt32.toNat_inj.1
  have h1 := a.toNat_lt
  have h2 := b.toNat_lt
  have h3 := c.toNat_lt
  have h4 := d.toNat_lt
  have sh : ∀ (x : UInt8) (n : Nat), n ≤ 24 → (UInt32.ofNat x.toNat <<< UInt32.ofNat n).toNat = 2 ^ n * x.toNat := by
    intro x n hn
    have hx := x.toNat_lt
    rw [UInt32.toNat_shiftLeft, UInt32.toNat_ofNat', UInt32.toNat_ofNat', Nat.mod_eq_of_lt (show n < 2 ^ 32 by omega), Nat.mod_eq_of_lt (show n < 32 by omega), Nat.shiftLeft_eq, Nat.mod_eq_of_lt (show x.toNat < 2 ^ 32 by omega), Nat.mul_comm]
    refine Nat.mod_eq_of_lt ?_
    have : 2 ^ n ≤ 2 ^ 24 := Nat.pow_le_pow_right (by omega) hn
    calc 2 ^ n * x.toNat ≤ 2 ^ 24 * x.toNat := Nat.mul_le_mul_right _ this
      _ < 2 ^ 32 := by omega
  unfold word
  simp only [UInt32.toNat_or, sh a 24 (by omega), sh b 16 (by omega), sh c 8 (by omega), UInt32.toNat_ofNat']
  rw [Nat.mod_eq_of_lt (show d.toNat < 2 ^ 32 by omega)]
  rw [or_add (show 2 ^ 16 * b.toNat < 2 ^ 24 by omega)]
  rw [show 2 ^ 24 * a.toNat + 2 ^ 16 * b.toNat = 2 ^ 16 * (256 * a.toNat + b.toNat) by omega, or_add (show 2 ^ 8 * c.toNat < 2 ^ 16 by omega)]
  rw [show 2 ^ 16 * (256 * a.toNat + b.toNat) + 2 ^ 8 * c.toNat = 2 ^ 8 * (256 * (256 * a.toNat + b.toNat) + c.toNat) by omega, or_add (show d.toNat < 2 ^ 8 by omega)]
  omega
theorem word_c (w : World) (A : Option Addr) (l : List UInt8) (c : Nat) (hr : Bs w A l) (x y z u : UInt8) (h0 : l[0]? = some x) (h1 : l[1]? = some y) (h2 : l[2]? = some z) (h3 : l[3]? = some u) :
    Pu Tryz.prog n_sha_word #[.slice A l.length c] w (u32 (word x y z u)) := by
  obtain ⟨k0, e0⟩ := List.getElem?_eq_some_iff.1 h0
  obtain ⟨k1, e1⟩ := List.getElem?_eq_some_iff.1 h1
  obtain ⟨k2, e2⟩ := List.getElem?_eq_some_iff.1 h2
  obtain ⟨k3, e3⟩ := List.getElem?_eq_some_iff.1 h3
  have g := good_sha_word w None_
  obtain ⟨ad, hA⟩ := Bs.addr hr (by omega)
  have cv : ∀ b : UInt8, IntKind.u32.wrap (b.toNat : Int) = ((UInt32.ofNat b.toNat).toNat : Int) := fun b => wrap32_nat _
  refine pu_of (calls_of_sx (cx := cx_sha_word w None_) g b_sha_word rfl rfl (β := Va.z) [.c (.v (.slice A l.length c))] 0 [] [bsF A l] rfl rfl ((Sat.start rfl).rd (fun _ h => by cases h) hr) ?_)
  refine draw_rule g p_sha_word_1 (by kernel_rfl) _ _ Sub.refl ?_
  refine ⟨ad, 0, hA, rfl, k0, byte x, fun β w hs => by rw [← e0]; exact Bs.cell (hs.get 0 rfl : Bs w A _) hA (j := 0) k0, ?_⟩
  refine ⟨_, cv x, by omega, _, shl32 (UInt32.ofNat x.toNat) 24 (by omega), ?_⟩
  refine ⟨ad, 1, hA, rfl, k1, byte y, fun β w hs => by rw [← e1]; exact Bs.cell (hs.get 0 rfl : Bs w A _) hA (j := 1) k1, ?_⟩
  refine ⟨_, cv y, by omega, _, shl32 (UInt32.ofNat y.toNat) 16 (by omega), ?_⟩
  refine ⟨_, or32 _ _, ?_⟩
  refine ⟨ad, 2, hA, rfl, k2, byte z, fun β w hs => by rw [← e2]; exact Bs.cell (hs.get 0 rfl : Bs w A _) hA (j := 2) k2, ?_⟩
  refine ⟨_, cv z, by omega, _, shl32 (UInt32.ofNat z.toNat) 8 (by omega), ?_⟩
  refine ⟨_, or32 _ _, ?_⟩
  refine ⟨ad, 3, hA, rfl, k3, byte u, fun β w hs => by rw [← e3]; exact Bs.cell (hs.get 0 rfl : Bs w A _) hA (j := 3) k3, ?_⟩
  refine ⟨_, cv u, _, or32 _ _, ?_⟩
  intro β w' hs
  refine ⟨?_, hs.chg⟩
  rw [← word_or]
  rfl
def sl32 (x : UInt32) : SL := .v (u32 x)
def arr (n : Nat) (ws : List UInt32) : List SL := (ws ++ List.replicate (n - ws.length) 0).map sl32
theorem arr_len {n : Nat} {ws : List UInt32} (h : ws.length ≤ n) : (arr n ws).length = n := by simp [arr]; omega
theorem arr_get {n : Nat} {ws : List UInt32} {i : Nat} (h : i < ws.length) : (arr n ws)[i]? = some (sl32 (ws.getD i 0)) := by
  simp only [arr, List.getElem?_map]
  rw [List.getElem?_append_left h, List.getElem?_eq_getElem h]
  simp [List.getD, List.getElem?_eq_getElem h]
theorem arr_set {n : Nat} {ws : List UInt32} (h : ws.length < n) (x : UInt32) : (arr n ws).set ws.length (sl32 x) = arr n (ws ++ [x]) := by
  obtain ⟨k, rfl⟩ : ∃ k, n = ws.length + (k + 1) := ⟨n - ws.length - 1, by omega⟩
  simp only [arr, List.length_append, List.length_cons, List.length_nil]
  rw [show ws.length + (k + 1) - ws.length = k + 1 by omega, show ws.length + (k + 1) - (ws.length + (0 + 1)) = k by omega, List.replicate_succ]
  simp
theorem arr_full {n : Nat} {ws : List UInt32} (h : ws.length = n) : arr n ws = ws.map sl32 := by simp [arr, h]
theorem arr_one (ws : List UInt32) : allOne (ws.map sl32) = true := allOne_of fun x hx => by obtain ⟨y, _, rfl⟩ := List.mem_map.1 hx; rfl
theorem arr_val (β : Va) (ws : List UInt32) : (ws.map sl32).map (SL.val β) = ws.map u32 := by rw [List.map_map]; rfl
theorem getD_drop (l : List UInt8) (i j : Nat) (h : i + j < l.length) : (l.drop i)[j]? = some (l.getD (i + j) 0) := by
  rw [List.getElem?_drop, List.getElem?_eq_getElem h]
  simp [List.getD, List.getElem?_eq_getElem h]
theorem spread_c (w : World) (A : Option Addr) (l : List UInt8) (c : Nat) (hr : Bs w A l) (hc : l.length ≤ c) (hl : 64 ≤ l.length) (hm : c ≤ maxLen) :
    Pu Tryz.prog n_sha_spread #[.slice A l.length c] w (.agg ((W l).map u32).toArray) := by
  obtain ⟨ws, hws⟩ : ∃ ws, W l = ws := ⟨_, rfl⟩
  have hwl : ws.length = 64 := by rw [← hws]; exact W_len l
  rw [hws]
  have g := good_sha_spread w None_
  refine pu_of (calls_of_sx (cx := cx_sha_spread w None_) g b_sha_spread rfl rfl (β := Va.z) [.c (.v (.slice A l.length c))] 0 [] [bsF A l] rfl rfl ((Sat.start rfl).rd (fun _ h => by cases h) hr) ?_)
  have e0 : arr 64 [] = ti332.zero.map SL.v := by simp only [arr, List.nil_append, List.length_nil, List.map_replicate]; rfl
  refine loop_rule (ι := Nat) 2 (fun i => [(0, .c (.v (.slice A l.length c))), (2, .c (.p 0 0)), (3, .c (.p 1 0)), (10, .c (.v (.int .i64 i)))]) (fun i => [⟨1, 332, arr 64 (sched l i)⟩, ⟨0, 332, arr 64 []⟩]) (fun _ => [bsF A l])
    (fun i => i ≤ 16) (fun i => 16 - i) 0 (Nat.zero_le _) (Ent.mk' ⟨rfl, rfl, rfl, rfl, trivial⟩ rfl (fun β w' hs => by rw [show sched l 0 = [] from rfl, e0]; exact hs)) g ?_
  intro i hi
  refine BIf.dec (fun hlt => ?_) (fun hge => ?_)
  · have hlt : i < 16 := by omega
    rw [maxLen_eq] at hm
    refine ⟨((4 * i : Nat) : Int), by rw [wrap_i64 (by omega) (by omega)]; omega, ?_⟩
    refine ⟨c, l.length, 4 * i, (l.drop (4 * i)).length, c - 4 * i, _, rfl, rfl, rfl, Nat.le_refl _, hc, by omega, by rw [List.length_drop], rfl, rfl, ?_⟩
    refine call_pu (fun β w' hs => word_c w' _ (l.drop (4 * i)) _ (Bs.cutB (hs.get 0 rfl : Bs w' A l) (j := l.length) hc (by omega) (Nat.le_refl _) (by rw [List.take_of_length_le (by simp)])) _ _ _ _
      (getD_drop l (4 * i) 0 (by omega)) (getD_drop l (4 * i) 1 (by omega)) (getD_drop l (4 * i) 2 (by omega)) (getD_drop l (4 * i) 3 (by omega))) ?_
    refine ⟨i, rfl, by omega, ?_⟩
    have hsl : (sched l i).length = i := sched_len l i
    refine m_true (b := Nat.ble (0 + i * 1 + 1) (arr 64 (sched l i)).length) (by rw [arr_len (by omega), Nat.ble_eq]; omega) ?_
    refine ⟨((i + 1 : Nat) : Int), by rw [wrap_i64 (by omega) (by omega)]; rfl, ?_⟩
    refine ⟨i + 1, by omega, by omega, Ent.mk' ⟨rfl, rfl, rfl, rfl, trivial⟩ rfl (fun β w' hs => ?_)⟩
    have e1 : putAll (arr 64 (sched l i)) (0 + i * 1) [sl32 (wordAt l i)] = arr 64 (sched l (i + 1)) := by
      rw [putAll, putAll, putAt_eq, Nat.zero_add, Nat.mul_one]
      have := arr_set (n := 64) (ws := sched l i) (by omega) (wordAt l i)
      rw [hsl] at this
      rw [this, sched, if_pos hlt]
    rw [← e1]
    exact hs
  · obtain rfl : i = 16 := by omega
    rw [maxLen_eq] at hm
    refine loop_rule (ι := Nat) 2 (fun i => [(0, .c (.v (.slice A l.length c))), (2, .c (.p 0 0)), (3, .c (.p 1 0)), (5, .c (.v (.int .i64 i)))]) (fun i => [⟨1, 332, arr 64 (sched l i)⟩, ⟨0, 332, arr 64 []⟩]) (fun _ => [bsF A l])
      (fun i => 16 ≤ i ∧ i ≤ 64) (fun i => 64 - i) 16 ⟨by omega, by omega⟩ (Ent.same ⟨rfl, rfl, rfl, rfl, trivial⟩ rfl) g ?_
    rintro i ⟨hi1, hi2⟩
    refine BIf.dec (fun hlt => ?_) (fun hge => ?_)
    · have hlt : i < 64 := by omega
      have hsl : (sched l i).length = i := sched_len l i
      have ld : ∀ {k : Nat}, k < i → nth (arr 64 (sched l i)) (0 + k * 1) = some (sl32 ((sched l i).getD k 0)) := fun {k} hk => by
        rw [nth_eq, Nat.zero_add, Nat.mul_one]; exact arr_get (by omega)
      refine draw_rule g p_sha_spread_10 (by kernel_rfl) _ _ Sub.refl ?_
      refine ⟨((i - 15 : Nat) : Int), by rw [wrap_i64 (by omega) (by omega)]; omega, i - 15, rfl, by omega, ?_⟩
      conv => whnf
      generalize hn : nth _ _ = o
      obtain rfl : o = some (sl32 ((sched l i).getD (i - 15) 0)) := hn.symm.trans (ld (by omega))
      clear hn
      refine ⟨((i - 2 : Nat) : Int), by rw [wrap_i64 (by omega) (by omega)]; omega, i - 2, rfl, by omega, ?_⟩
      conv => whnf
      generalize hn : nth _ _ = o
      obtain rfl : o = some (sl32 ((sched l i).getD (i - 2) 0)) := hn.symm.trans (ld (by omega))
      clear hn
      obtain ⟨xa, hxa⟩ : ∃ xa, (sched l i).getD (i - 15) 0 = xa := ⟨_, rfl⟩
      obtain ⟨xb, hxb⟩ : ∃ xb, (sched l i).getD (i - 2) 0 = xb := ⟨_, rfl⟩
      rw [hxa, hxb]
      refine call_pu (fun β w' hs => rotl_c w' xa 7 (by omega) (by omega)) ?_
      refine call_pu (fun β w' hs => rotl_c w' xa 18 (by omega) (by omega)) ?_
      refine ⟨_, xor32 _ _, by omega, _, shr32 xa 3 (by omega), _, xor32 _ _, ?_⟩
      refine call_pu (fun β w' hs => rotl_c w' xb 17 (by omega) (by omega)) ?_
      refine call_pu (fun β w' hs => rotl_c w' xb 19 (by omega) (by omega)) ?_
      refine ⟨_, xor32 _ _, by omega, _, shr32 xb 10 (by omega), _, xor32 _ _, ?_⟩
      refine draw_rule g p_sha_spread_13 (by kernel_rfl) _ _ Sub.refl ?_
      refine ⟨((i - 16 : Nat) : Int), by rw [wrap_i64 (by omega) (by omega)]; omega, i - 16, rfl, by omega, ?_⟩
      conv => whnf
      generalize hn : nth _ _ = o
      obtain rfl : o = some (sl32 ((sched l i).getD (i - 16) 0)) := hn.symm.trans (ld (by omega))
      clear hn
      refine ⟨_, add32 _ _, ?_⟩
      refine ⟨((i - 7 : Nat) : Int), by rw [wrap_i64 (by omega) (by omega)]; omega, i - 7, rfl, by omega, ?_⟩
      conv => whnf
      generalize hn : nth _ _ = o
      obtain rfl : o = some (sl32 ((sched l i).getD (i - 7) 0)) := hn.symm.trans (ld (by omega))
      clear hn
      refine ⟨_, add32 _ _, _, add32 _ _, i, rfl, by omega, ?_⟩
      refine m_true (b := Nat.ble (0 + i * 1 + 1) (arr 64 (sched l i)).length) (by rw [arr_len (by omega), Nat.ble_eq]; omega) ?_
      refine ⟨((i + 1 : Nat) : Int), by rw [wrap_i64 (by omega) (by omega)]; rfl, ?_⟩
      refine ⟨i + 1, ⟨by omega, by omega⟩, by omega, Ent.mk' ⟨rfl, rfl, rfl, rfl, trivial⟩ rfl (fun β w' hs => ?_)⟩
      have e1 : putAll (arr 64 (sched l i)) (0 + i * 1) [sl32 ((sched l i).getD (i - 16) 0 + s0 xa + (sched l i).getD (i - 7) 0 + s1 xb)] = arr 64 (sched l (i + 1)) := by
        rw [putAll, putAll, putAt_eq, Nat.zero_add, Nat.mul_one]
        have := arr_set (n := 64) (ws := sched l i) (by omega) ((sched l i).getD (i - 16) 0 + s0 xa + (sched l i).getD (i - 7) 0 + s1 xb)
        rw [hsl] at this
        rw [this, sched, if_neg (by omega), nxt, hxa, hxb]
      rw [← e1]
      exact hs
    · have hi64 : i = 64 := by omega
      have e2 : arr 64 (sched l i) = ws.map sl32 := by
        rw [← hws, hi64]
        exact arr_full (sched_len l 64)
      clear hi64 hi1 hi2 hge
      rw [e2]
      conv => whnf
      generalize hn : takeAt _ _ _ = o
      obtain rfl : o = some (ws.map sl32) := hn.symm.trans (takeAt_all (by rw [List.length_map, hwl]; rfl))
      clear hn
      conv => whnf
      generalize h1 : Nat.beq _ _ = b1
      generalize h2 : allOne _ = b2
      obtain rfl : b1 = true := h1.symm.trans (by rw [List.length_map, hwl]; rfl)
      obtain rfl : b2 = true := h2.symm.trans (arr_one ws)
      clear h1 h2
      conv => whnf
      generalize h1 : Nat.ble _ _ = b1
      obtain rfl : b1 = true := h1.symm.trans (by rw [List.length_map, hwl]; rfl)
      clear h1
      conv => whnf
      generalize hn : resOf _ _ _ _ = o
      obtain rfl : o = some [.agg (ws.map sl32)] := hn.symm.trans (by
        have hp : putAll (arr 64 []) 0 (ws.map sl32) = ws.map sl32 := putAll_full (by rw [List.length_map, hwl]; rfl)
        show (match takeAt (putAll (arr 64 []) 0 (ws.map sl32)) 0 64 with | some xs => some [SV.agg xs] | none => none) = _
        rw [hp, takeAt_all (by rw [List.length_map, hwl])])
      clear hn
      intro β w' hs
      refine ⟨?_, hs.chg⟩
      show Value.agg ((ws.map sl32).map (SL.val β)).toArray = _
      rw [arr_val]
def oddF (g : Nat) : Fact := rdF 1 (some ⟨g, 0, none⟩) 64 (K.map u32)
def stF (b ty : Nat) (s : S8) : Fact := bkF b ty (s.l.map u32)
theorem rounds_succ (s : S8) (w : List UInt32) (n : Nat) : rounds s w (n + 1) = (rounds s w n).round (K.getD n 0) (w.getD n 0) := rfl
theorem K_len : K.length = 64 := rfl
theorem odd_cell {g : Nat} {w : World} (h : (oddF g).p w) {i : Nat} (hi : i < 64) : w.cell? ((⟨g, 0, none⟩ : Addr).add (i * 1)) = some (u32 (K.getD i 0)) := by
  obtain ⟨_, h2⟩ := h
  obtain ⟨ad, q, hc⟩ := h2 (by omega)
  obtain rfl := Option.some.inj q
  rw [Nat.mul_one]
  refine hc i _ ?_
  rw [List.getElem?_map, List.getElem?_eq_getElem (by rw [K_len]; exact hi)]
  simp [List.getD, List.getElem?_eq_getElem (show i < K.length by rw [K_len]; exact hi)]
def mix (s t : S8) (i : Nat) : List SL := ((s.add t).l.take i ++ s.l.drop i).map sl32
theorem mix_len (s t : S8) : ∀ i, i < 9 → (mix s t i).length = 8
  | 0, _ => rfl | 1, _ => rfl | 2, _ => rfl | 3, _ => rfl | 4, _ => rfl | 5, _ => rfl | 6, _ => rfl | 7, _ => rfl | 8, _ => rfl
  | n + 9, h => by omega
theorem mix_get (s t : S8) : ∀ i, i < 8 → nth (mix s t i) i = some (sl32 (s.l.getD i 0))
  | 0, _ => rfl | 1, _ => rfl | 2, _ => rfl | 3, _ => rfl | 4, _ => rfl | 5, _ => rfl | 6, _ => rfl | 7, _ => rfl
  | n + 8, h => by omega
theorem mix_set (s t : S8) : ∀ i, i < 8 → putAll (mix s t i) i [sl32 (s.l.getD i 0 + t.l.getD i 0)] = mix s t (i + 1)
  | 0, _ => rfl | 1, _ => rfl | 2, _ => rfl | 3, _ => rfl | 4, _ => rfl | 5, _ => rfl | 6, _ => rfl | 7, _ => rfl
  | n + 8, h => by omega
theorem l_get (t : S8) : ∀ i, i < 8 → (t.l.map sl32)[i]? = some (sl32 (t.l.getD i 0))
  | 0, _ => rfl | 1, _ => rfl | 2, _ => rfl | 3, _ => rfl | 4, _ => rfl | 5, _ => rfl | 6, _ => rfl | 7, _ => rfl
  | n + 8, h => by omega
theorem step_c (w : World) (b ty : Nat) (s : S8) (A : Option Addr) (l : List UInt8) (c : Nat) (hm : Mem w [stF b ty s, bsF A l, oddF 5]) (hc : l.length ≤ c) (hl : 64 ≤ l.length) (hcm : c ≤ maxLen) :
    Con Tryz.prog n_sha_state_step #[.pointer (some ⟨b, 0, none⟩), .slice A l.length c] w [stF b ty s] fun v Fs => v = .tuple #[] ∧ Fs = [stF b ty (Sha.step s l)] := by
  obtain ⟨ws, hws⟩ : ∃ ws, W l = ws := ⟨_, rfl⟩
  have hwl : ws.length = 64 := by rw [← hws]; exact W_len l
  have g := good_sha_state_step w (Un [stF b ty s]) (bs := [b])
  have hs0 : Sat (cx_sha_state_step w (Un [stF b ty s]) [b]) (Va.of fun _ => b) 1 [] [stF b ty s, bsF A l, oddF 5] w :=
    hm.sat rfl (ownIn (Gs := [stF b ty s]) (Rs := [bsF A l, oddF 5]) (fun g hg => by
      rcases List.mem_cons.1 hg with rfl | hg
      · rfl
      · obtain rfl := List.mem_singleton.1 hg; rfl)) ⟨Nat.le_refl _, fun i hi => by
        have hi1 : i < 1 := hi
        have hi0 : i = 0 := by omega
        rw [hi0]; rfl⟩
  have hs1 := hs0.toBk 0 rfl 0 Nat.zero_lt_one rfl
  refine con_of_sx (cx := cx_sha_state_step w (Un [stF b ty s]) [b]) g b_sha_state_step rfl rfl (β := Va.of fun _ => b) [.c (.p 0 0), .c (.v (.slice A l.length c))] 1 [⟨0, ty, s.l.map sl32⟩] [bsF A l, oddF 5] rfl rfl (by rw [List.map_map] at hs1; exact hs1) ?_
  refine call_pu (fun β w' hs => spread_c w' A l c (hs.get 0 rfl) hc hl hcm) ?_
  rw [hws]
  have ea : ofValue (.agg (ws.map u32).toArray) = .agg (ws.map sl32) := by simp only [ofValue, List.map_map]; rfl
  rw [ea]
  conv => whnf
  generalize h1 : Nat.beq _ _ = b1
  generalize h2 : allOne _ = b2
  obtain rfl : b1 = true := h1.symm.trans (by rw [List.length_map, hwl]; rfl)
  obtain rfl : b2 = true := h2.symm.trans (arr_one ws)
  clear h1 h2
  conv => whnf
  generalize h1 : Nat.ble _ _ = b1
  obtain rfl : b1 = true := h1.symm.trans (by rw [List.length_map, hwl]; rfl)
  clear h1
  refine draw_rule g p_sha_state_step_1 (by kernel_rfl) _ _ Sub.refl ?_
  refine ⟨0, rfl, by decide, ?_⟩
  refine ⟨1, rfl, by decide, ?_⟩
  refine ⟨2, rfl, by decide, ?_⟩
  refine ⟨3, rfl, by decide, ?_⟩
  refine ⟨4, rfl, by decide, ?_⟩
  refine ⟨5, rfl, by decide, ?_⟩
  refine ⟨6, rfl, by decide, ?_⟩
  refine ⟨7, rfl, by decide, ?_⟩
  have hp : putAll (ti332.zero.map SL.v) 0 (ws.map sl32) = ws.map sl32 := putAll_full (by rw [List.length_map, hwl]; rfl)
  refine loop_rule (ι := Nat) 2 (fun i => [(0, .c (.p 0 0)), (4, .c (.p 1 0)), (5, .c (sl32 (rounds s ws i).a)), (6, .c (sl32 (rounds s ws i).b)), (7, .c (sl32 (rounds s ws i).c)), (8, .c (sl32 (rounds s ws i).d)), (9, .c (sl32 (rounds s ws i).e)), (10, .c (sl32 (rounds s ws i).f)), (11, .c (sl32 (rounds s ws i).g)), (12, .c (sl32 (rounds s ws i).h)), (55, .c (.v (.int .i64 i)))])
    (fun _ => [⟨1, 332, ws.map sl32⟩, ⟨0, ty, s.l.map sl32⟩]) (fun _ => [bsF A l, oddF 5])
    (fun i => i ≤ 64) (fun i => 64 - i) 0 (Nat.zero_le _) (Ent.mk' ⟨rfl, rfl, rfl, rfl, rfl, rfl, rfl, rfl, rfl, rfl, rfl, trivial⟩ rfl (fun β w' hs => by rw [← hp]; exact hs)) g ?_
  intro i hi
  obtain ⟨r, hr⟩ : ∃ r, rounds s ws i = r := ⟨_, rfl⟩
  rw [hr]
  obtain ⟨xa, xb, xc, xd, xe, xf, xg, xh⟩ := r
  refine BIf.dec (fun hlt => ?_) (fun hge => ?_)
  · have hlt : i < 64 := by omega
    refine call_pu (fun β w' hs => rotl_c w' xe 6 (by omega) (by omega)) ?_
    refine call_pu (fun β w' hs => rotl_c w' xe 11 (by omega) (by omega)) ?_
    refine ⟨_, xor32 _ _, ?_⟩
    refine call_pu (fun β w' hs => rotl_c w' xe 25 (by omega) (by omega)) ?_
    refine ⟨_, xor32 _ _, ?_⟩
    refine ⟨_, and32 _ _, _, not32 _, _, and32 _ _, _, xor32 _ _, ?_⟩
    refine draw_rule g p_sha_state_step_7 (by kernel_rfl) _ _ Sub.refl ?_
    refine ⟨_, add32 _ _, _, add32 _ _, i, rfl, hlt, u32 (K.getD i 0), fun β w' hs => odd_cell (hs.get 1 rfl) hlt, _, add32 _ _, i, rfl, hlt, ?_⟩
    conv => whnf
    generalize hn : nth _ _ = o
    obtain rfl : o = some (sl32 (ws.getD i 0)) := hn.symm.trans (by
      show nth (ws.map sl32) (0 + i * 1) = _
      rw [nth_eq, Nat.zero_add, Nat.mul_one, List.getElem?_map, List.getElem?_eq_getElem (by omega)]
      simp [List.getD, List.getElem?_eq_getElem (show i < ws.length by omega)])
    clear hn
    refine ⟨_, add32 _ _, ?_⟩
    refine call_pu (fun β w' hs => rotl_c w' xa 2 (by omega) (by omega)) ?_
    refine call_pu (fun β w' hs => rotl_c w' xa 13 (by omega) (by omega)) ?_
    refine ⟨_, xor32 _ _, ?_⟩
    refine call_pu (fun β w' hs => rotl_c w' xa 22 (by omega) (by omega)) ?_
    refine ⟨_, xor32 _ _, ?_⟩
    refine ⟨_, and32 _ _, _, and32 _ _, _, xor32 _ _, _, and32 _ _, _, xor32 _ _, ?_⟩
    refine ⟨_, add32 _ _, _, add32 _ _, _, add32 _ _, ?_⟩
    refine ⟨((i + 1 : Nat) : Int), by rw [wrap_i64 (by omega) (by omega)]; rfl, ?_⟩
    refine ⟨i + 1, by omega, by omega, Ent.same ?_ rfl⟩
    rw [rounds_succ, hr]
    exact ⟨rfl, rfl, rfl, rfl, rfl, rfl, rfl, rfl, rfl, rfl, rfl, trivial⟩
  · obtain ⟨t, ht⟩ : ∃ t, (⟨xa, xb, xc, xd, xe, xf, xg, xh⟩ : S8) = t := ⟨_, rfl⟩
    have hst : Sha.step s l = s.add t := by
      have : i = 64 := by omega
      rw [Sha.step, hws, ← ht, ← hr, this]
    rw [hst]
    refine loop_rule (ι := Nat) 2 (fun i => [(0, .c (.p 0 0)), (129, .agg [sl32 xa, sl32 xb, sl32 xc, sl32 xd, sl32 xe, sl32 xf, sl32 xg, sl32 xh]), (130, .c (.v (.int .i64 i)))])
      (fun i => [⟨1, 332, ws.map sl32⟩, ⟨0, ty, mix s t i⟩]) (fun _ => [bsF A l, oddF 5])
      (fun i => i ≤ 8) (fun i => 8 - i) 0 (Nat.zero_le _) (Ent.same ⟨rfl, rfl, rfl, trivial⟩ rfl) g ?_
    intro j hj
    refine BIf.dec (fun hlt => ?_) (fun hge => ?_)
    · have hlt : j < 8 := by omega
      refine ⟨j, sl32 (t.l.getD j 0), rfl, hlt, by rw [← ht]; show ((⟨xa, xb, xc, xd, xe, xf, xg, xh⟩ : S8).l.map sl32)[j * 1]? = _; rw [Nat.mul_one]; exact l_get _ j hlt, ?_⟩
      refine draw_rule g p_sha_state_step_15 (by kernel_rfl) [] [bsF A l, oddF 5] (Sub.of (List.nil_sublist _) (List.Sublist.refl _)) ?_
      refine ⟨j, rfl, hlt, ?_⟩
      conv => whnf
      generalize hn : nth _ _ = o
      obtain rfl : o = some (sl32 (s.l.getD j 0)) := hn.symm.trans (by
        show nth (mix s t j) (0 + j * 1) = _
        rw [Nat.zero_add, Nat.mul_one]
        exact mix_get s t j hlt)
      clear hn
      refine ⟨Sub.of (List.nil_sublist _) (List.Sublist.refl _), _, add32 _ _, j, rfl, hlt, ?_⟩
      conv => whnf
      generalize h1 : Nat.ble _ _ = b1
      obtain rfl : b1 = true := h1.symm.trans (by
        show Nat.ble (0 + j * 1 + 1) (mix s t j).length = true
        rw [mix_len s t j (by omega), Nat.ble_eq]; omega)
      clear h1
      refine ⟨Sub.of (List.nil_sublist _) (List.Sublist.refl _), ?_⟩
      refine ⟨((j + 1 : Nat) : Int), by rw [wrap_i64 (by omega) (by omega)]; rfl, ?_⟩
      refine ⟨j + 1, by omega, by omega, Ent.mk' ⟨rfl, rfl, rfl, trivial⟩ rfl (fun β w' hs => ?_)⟩
      have e1 := mix_set s t j hlt
      rw [← e1]
      have e3 : 0 + j * 1 = j := by omega
      have hs2 : Sat (cx_sha_state_step w (Un [stF b ty s]) [b]) β 2 [⟨1, 332, ws.map sl32⟩, ⟨0, ty, putAll (mix s t j) (0 + j * 1) [sl32 (s.l.getD j 0 + t.l.getD j 0)]⟩] [bsF A l, oddF 5] w' := hs
      rw [e3] at hs2
      exact hs2
    · obtain rfl : j = 8 := by omega
      intro β w' hs
      have h1 := hs.weaken (List.sublist_cons_self _ _) (List.Sublist.refl _)
      have h2 := h1.ofBk
      have hb : β 0 = b := h2.fix.2 0 (Nat.zero_lt_one)
      refine h2.fin [0] ⟨rfl, ?_⟩
      show [bkF (β 0) ty ((mix s t 8).map (SL.val β))] = [stF b ty (s.add t)]
      rw [hb]
      rfl
theorem u8_of32 (x : UInt32) : IntKind.u8.wrap (x.toNat : Int) = (x.toUInt8.toNat : Int) := by
  rw [show IntKind.u8.wrap (x.toNat : Int) = (x.toNat : Int) % 256 by simp [IntKind.wrap, IntKind.bits, IntKind.signed], UInt32.toNat_toUInt8]
  omega
def outN (s : S8) (i : Nat) : List UInt8 := (s.l.take i).flatMap b4
theorem outN_succ (s : S8) : ∀ i, i < 8 → outN s i ++ b4 (s.l.getD i 0) = outN s (i + 1)
  | 0, _ => rfl | 1, _ => rfl | 2, _ => rfl | 3, _ => rfl | 4, _ => rfl | 5, _ => rfl | 6, _ => rfl | 7, _ => rfl
  | n + 8, h => by omega
theorem stbytes_c (w : World) (b ty : Nat) (s : S8) (hm : Mem w [stF b ty s]) :
    Con Tryz.prog n_sha_state_bytes #[.pointer (some ⟨b, 0, none⟩)] w [stF b ty s] fun v Fs => ∃ A c, v = .slice A 32 c ∧ 32 ≤ c ∧ c ≤ maxLen ∧ Fs = [stF b ty s, browF ty_uint8 A (out s) c] := by
  have g := good_sha_state_bytes w (Un [stF b ty s]) (bs := [b])
  have hs0 : Sat (cx_sha_state_bytes w (Un [stF b ty s]) [b]) (Va.of fun _ => b) 1 [] [stF b ty s] w :=
    hm.sat rfl (ownIn (Gs := [stF b ty s]) (Rs := []) (fun g hg => by cases hg)) ⟨Nat.le_refl _, fun i hi => by
        have hi1 : i < 1 := hi
        have hi0 : i = 0 := by omega
        rw [hi0]; rfl⟩
  have hs1 := hs0.toBk 0 rfl 0 Nat.zero_lt_one rfl
  rw [List.map_map] at hs1
  refine con_of_sx (cx := cx_sha_state_bytes w (Un [stF b ty s]) [b]) g b_sha_state_bytes rfl rfl (β := Va.of fun _ => b) [.c (.p 0 0)] 1 [⟨0, ty, s.l.map sl32⟩] [browF ty_uint8 none [] 0] rfl rfl (hs1.nilRow _ _) ?_
  refine loop_rule (ι := Nat × Option Addr × Nat) 1 (fun i => [(6, .c (.p 0 0)), (7, .c (.v (.int .i64 i.1))), (3, .c (.v (.slice i.2.1 (4 * i.1) i.2.2)))]) (fun _ => [⟨0, ty, s.l.map sl32⟩])
    (fun i => [rowF ty_uint8 1 (.slice i.2.1 (4 * i.1) i.2.2) (4 * i.1) ((outN s i.1).map byte)])
    (fun i => i.1 ≤ 8 ∧ 4 * i.1 ≤ i.2.2 ∧ i.2.2 ≤ maxLen) (fun i => 8 - i.1) (0, none, 0) ⟨Nat.zero_le _, Nat.zero_le _, Nat.zero_le _⟩ (Ent.same ⟨rfl, rfl, rfl, trivial⟩ rfl) g ?_
  rintro ⟨i, A, c⟩ ⟨hi, hc, hcm⟩
  simp only at hi hc hcm
  refine BIf.dec (fun hlt => ?_) (fun hge => ?_)
  · have hlt : i < 8 := by omega
    obtain ⟨x, hx⟩ : ∃ x, s.l.getD i 0 = x := ⟨_, rfl⟩
    refine ⟨i, rfl, hlt, ?_⟩
    conv => whnf
    generalize hn : nth _ _ = o
    obtain rfl : o = some (sl32 x) := hn.symm.trans (by
      show nth (s.l.map sl32) (0 + i * 1) = _
      rw [Nat.zero_add, Nat.mul_one, ← hx, nth_eq]
      exact l_get s i hlt)
    clear hn
    refine ⟨by omega, _, shr32 x 24 (by omega), _, u8_of32 _, by omega, _, shr32 x 16 (by omega), _, u8_of32 _, by omega, _, shr32 x 8 (by omega), _, u8_of32 _, _, u8_of32 _, ?_⟩
    intro b2
    refine ⟨1, 4 * i, 4 * (i + 1), (outN s i).map byte, (b4 x).map byte, _, rfl, fun β w hs => row_rd (hs.get 0 rfl), bytes_one _, by omega, rfl, by rw [maxLen_eq]; omega, by show 4 * (i + 1) * 1 ≤ _; omega, ?_⟩
    intro A' c' h1 h2 _
    refine ⟨((i + 1 : Nat) : Int), by rw [wrap_i64 (by omega) (by omega)]; rfl, ?_⟩
    refine ⟨(i + 1, A', c'), ⟨by show i + 1 ≤ 8; omega, h1, h2⟩, by show 8 - (i + 1) < 8 - i; omega, Ent.mk' ⟨rfl, rfl, rfl, trivial⟩ rfl (fun β w' hs => ?_)⟩
    have e1 := outN_succ s i hlt
    rw [hx] at e1
    have h3 := hs.weaken (List.Sublist.refl _) (List.sublist_cons_self _ _)
    show Sat _ _ _ _ [rowF ty_uint8 1 (.slice A' (4 * (i + 1)) c') (4 * (i + 1)) ((outN s (i + 1)).map byte)] _
    rw [← e1, List.map_append]
    exact h3
  · obtain rfl : i = 8 := by omega
    intro β w' hs
    have h2 := hs.ofBk
    have hb : β 0 = b := h2.fix.2 0 (Nat.zero_lt_one)
    refine h2.fin [0, 1] ⟨A, c, rfl, hc, hcm, ?_⟩
    show [bkF (β 0) ty ((s.l.map sl32).map (SL.val β)), _] = [stF b ty s, _]
    rw [hb]
    rfl
theorem wrap_u8n (x : Nat) : IntKind.u8.wrap (x : Int) = ((UInt8.ofNat x).toNat : Int) := by
  rw [show IntKind.u8.wrap (x : Int) = (x : Int) % 256 by simp [IntKind.wrap, IntKind.bits, IntKind.signed], UInt8.toNat_ofNat']
  omega
theorem wrap_u64' (x : Int) : IntKind.u64.wrap x = x % 18446744073709551616 := by simp [IntKind.wrap, IntKind.bits, IntKind.signed]
theorem longN_succ (n : Nat) : ∀ i, i < 8 → (Sha.long n).take i ++ [UInt8.ofNat (n / 2 ^ (8 * (7 - i)))] = (Sha.long n).take (i + 1)
  | 0, _ => rfl | 1, _ => rfl | 2, _ => rfl | 3, _ => rfl | 4, _ => rfl | 5, _ => rfl | 6, _ => rfl | 7, _ => rfl
  | n + 8, h => by omega
theorem long_c (w : World) (n : Nat) :
    Con Tryz.prog n_sha_long #[.int .u64 n] w [] fun v Fs => ∃ A c, v = .slice A 8 c ∧ 8 ≤ c ∧ c ≤ maxLen ∧ Fs = [browF ty_uint8 A (Sha.long n) c] := by
  have g := good_sha_long w (Un [])
  refine con_of_sx (cx := cx_sha_long w (Un [])) g b_sha_long rfl rfl (β := Va.z) [.c (.v (.int .u64 n))] 0 [] [browF ty_uint8 none [] 0] rfl rfl ((Sat.start rfl).nilRow _ _) ?_
  refine loop_rule (ι := Nat × Option Addr × Nat) 0 (fun i => [(0, .c (.v (.int .u64 n))), (5, .c (.v (.int .i64 i.1))), (3, .c (.v (.slice i.2.1 i.1 i.2.2)))]) (fun _ => [])
    (fun i => [rowF ty_uint8 1 (.slice i.2.1 i.1 i.2.2) i.1 (((Sha.long n).take i.1).map byte)])
    (fun i => i.1 ≤ 8 ∧ i.1 ≤ i.2.2 ∧ i.2.2 ≤ maxLen) (fun i => 8 - i.1) (0, none, 0) ⟨Nat.zero_le _, Nat.zero_le _, Nat.zero_le _⟩ (Ent.same ⟨rfl, rfl, rfl, trivial⟩ rfl) g ?_
  rintro ⟨i, A, c⟩ ⟨hi, hc, hcm⟩
  simp only at hi hc hcm
  refine BIf.dec (fun hlt => ?_) (fun hge => ?_)
  · have hlt : i < 8 := by omega
    refine ⟨((7 - i : Nat) : Int), by rw [wrap_i64 (by omega) (by omega)]; omega, ((8 * (7 - i) : Nat) : Int), by rw [wrap_i64 (by omega) (by omega)]; omega, ?_⟩
    refine ⟨by omega, ((n / 2 ^ (8 * (7 - i)) : Nat) : Int), ?_, _, wrap_u8n _, ?_⟩
    · have h1 : min ((8 * (7 - i) : Nat) : Int).toNat IntKind.u64.bits = 8 * (7 - i) := by show min (8 * (7 - i)) 64 = _; omega
      rw [h1]
      have : (2 ^ (8 * (7 - i)) : Int) = ((2 ^ (8 * (7 - i)) : Nat) : Int) := by push_cast; rfl
      rw [this, Int.fdiv_eq_ediv_of_nonneg _ (Int.natCast_nonneg _)]
      exact (Int.natCast_ediv _ _).symm
    intro b2
    refine ⟨1, i, i + 1, ((Sha.long n).take i).map byte, [UInt8.ofNat (n / 2 ^ (8 * (7 - i)))].map byte, _, rfl, fun β w hs => row_rd (hs.get 0 rfl), bytes_one _, rfl, rfl, by rw [maxLen_eq]; omega, by show (i + 1) * 1 ≤ _; omega, ?_⟩
    intro A' c' h1 h2 _
    refine ⟨((i + 1 : Nat) : Int), by rw [wrap_i64 (by omega) (by omega)]; rfl, ?_⟩
    refine ⟨(i + 1, A', c'), ⟨by show i + 1 ≤ 8; omega, h1, h2⟩, by show 8 - (i + 1) < 8 - i; omega, Ent.mk' ⟨rfl, rfl, rfl, trivial⟩ rfl (fun β w' hs => ?_)⟩
    have h3 := hs.weaken (List.Sublist.refl _) (List.sublist_cons_self _ _)
    show Sat _ _ _ _ [rowF ty_uint8 1 (.slice A' (i + 1) c') (i + 1) (((Sha.long n).take (i + 1)).map byte)] _
    rw [← longN_succ n i hlt, List.map_append]
    exact h3
  · obtain rfl : i = 8 := by omega
    intro β w' hs
    exact hs.fin [0] ⟨A, c, rfl, hc, hcm, rfl⟩
theorem ends_c (w : World) (n : Nat) (hn : n ≤ 140737488355328) :
    Con Tryz.prog n_sha_ends #[.int .u64 n] w [] fun v Fs => ∃ A c, v = .slice A (Sha.ends n).length c ∧ (Sha.ends n).length ≤ c ∧ c ≤ maxLen ∧ Fs = [browF ty_uint8 A (Sha.ends n) c] := by
  have g := good_sha_ends w (Un [])
  have hz : zeros n < 64 := by unfold zeros; omega
  refine con_of_sx (cx := cx_sha_ends w (Un [])) g b_sha_ends rfl rfl (β := Va.z) [.c (.v (.int .u64 n))] 0 [] [] rfl rfl (Sat.start rfl) ?_
  intro b0
  refine loop_rule (ι := Nat × Option Addr × Nat) 0 (fun i => [(0, .c (.v (.int .u64 n))), (3, .c (.v (.slice i.2.1 (i.1 + 1) i.2.2)))]) (fun _ => [])
    (fun i => [rowF ty_uint8 1 (.slice i.2.1 (i.1 + 1) i.2.2) (i.1 + 1) (((0x80 : UInt8) :: List.replicate i.1 0).map byte)])
    (fun i => i.1 ≤ zeros n ∧ i.1 + 1 ≤ i.2.2 ∧ i.2.2 ≤ maxLen) (fun i => zeros n - i.1) (0, some ⟨b0, 0, none⟩, 1) ⟨Nat.zero_le _, Nat.le_refl _, by show 1 ≤ maxLen; decide⟩ (Ent.same ⟨rfl, rfl, trivial⟩ rfl) g ?_
  rintro ⟨i, A, c⟩ ⟨hi, hc, hcm⟩
  simp only at hi hc hcm
  obtain ⟨r, hr⟩ : ∃ r : Nat, (n + (i + 1) + 8) % 64 = r := ⟨_, rfl⟩
  refine ⟨((i + 1 : Nat) : Int), by rw [wrap_u64']; omega, ((n + (i + 1) : Nat) : Int), by rw [wrap_u64']; omega, ((n + (i + 1) + 8 : Nat) : Int), by rw [wrap_u64']; omega, by omega, (r : Int), by rw [Int.tmod_eq_emod_of_nonneg (by omega)]; omega, ?_⟩
  refine BIf.not (BIf.dec (fun h0 => ?_) (fun h0 => ?_))
  · have hiz : i = zeros n := by unfold zeros at *; omega
    refine ⟨((8 * n : Nat) : Int), by rw [wrap_u64']; omega, ?_⟩
    refine call_con [] (fun β w' hs => long_c w' (8 * n)) ?_
    rintro v Fs ⟨A2, c2, rfl, h1, h2, rfl⟩
    have hl : (Sha.ends n).length = i + 1 + 8 := by rw [Sha.ends_len, hiz]; omega
    refine ⟨1, i + 1, (Sha.ends n).length, _, (Sha.long (8 * n)).map byte, (Sha.ends n).map byte, rfl, fun β w hs => row_rd (hs.get 0 rfl), bytes_one _, hl.symm, by rw [← List.map_append, hiz]; rfl, by rw [maxLen_eq, hl]; omega, by show (Sha.ends n).length * 1 ≤ _; omega, ?_⟩
    intro A' c' h3 h4 _
    intro β w' hs
    exact hs.fin [1] ⟨A', c', rfl, h3, h4, rfl⟩
  · have hiz : i < zeros n := by
      rcases Nat.lt_or_ge i (zeros n) with h | h
      · exact h
      · exfalso
        apply h0
        have : i = zeros n := by omega
        subst this
        unfold zeros at hr
        omega
    intro b2
    refine ⟨1, i + 1, i + 1 + 1, ((0x80 : UInt8) :: List.replicate i 0).map byte, [(0 : UInt8)].map byte, _, rfl, fun β w hs => row_rd (hs.get 0 rfl), bytes_one _, rfl, rfl, by rw [maxLen_eq]; omega, by show (i + 1 + 1) * 1 ≤ _; omega, ?_⟩
    intro A' c' h1 h2 _
    refine ⟨(i + 1, A', c'), ⟨hiz, h1, h2⟩, by show zeros n - (i + 1) < zeros n - i; omega, Ent.mk' ⟨rfl, rfl, trivial⟩ rfl (fun β w' hs => ?_)⟩
    have h3 := hs.weaken (List.Sublist.refl _) (List.sublist_cons_self _ _)
    show Sat _ _ _ _ [rowF ty_uint8 1 (.slice A' (i + 1 + 1) c') (i + 1 + 1) (((0x80 : UInt8) :: List.replicate (i + 1) 0).map byte)] _
    rw [List.replicate_succ', ← List.cons_append, List.map_append]
    exact h3
theorem clone_c (w : World) (A : Option Addr) (l : List UInt8) (c : Nat) (hr : Bs w A l) (hn : l.length ≤ 140737488355328) :
    Con Tryz.prog n_bytes_Clone #[.slice A l.length c] w [] fun v Fs => ∃ A' c', v = .slice A' l.length c' ∧ l.length ≤ c' ∧ c' ≤ maxLen ∧ Fs = [browF ty_uint8 A' l c'] := by
  refine con_of_sx (cx := cx_bytes_Clone w (Un [])) (good_bytes_Clone w (Un [])) b_bytes_Clone rfl rfl (β := Va.z) [.c (.v (.slice A l.length c))] 0 [] [bsF A l] rfl rfl ((Sat.start rfl).rd (fun _ h => by cases h) hr) ?_
  refine BIf.mk (fun h => ?_) (fun h => ?_)
  · intro β w' hs
    have hA : A = none := by simpa using h
    subst hA
    have hl : l = [] := by
      cases l with
      | nil => rfl
      | cons x r => obtain ⟨ad, q⟩ := Bs.addr hr (by simp); cases q
    subst hl
    exact (hs.nilRow ty_uint8 1).fin [0] ⟨none, 0, rfl, Nat.le_refl _, Nat.zero_le _, rfl⟩
  intro b
  refine ⟨0, 0, l.length, [], l.map byte, _, rfl, fun β w hs => hs.get 1 rfl, bytes_one l, Nat.zero_add _, rfl, by rw [maxLen_eq]; omega, by show l.length * 1 ≤ _; omega, ?_⟩
  intro A' c' h1 h2 h3 β w' hs
  exact hs.fin [0] ⟨A', c', rfl, h1, h2, rfl⟩
def blk (q : List UInt8) (i : Nat) : List UInt8 := (q.drop (64 * i)).take 64
def blks (q : List UInt8) (n : Nat) : List (List UInt8) := (List.range n).map (blk q)
theorem blks_succ (q : List UInt8) (n : Nat) : blks q (n + 1) = blks q n ++ [blk q n] := by simp [blks, List.range_succ]
theorem go_eq : ∀ (n : Nat) (s : S8) (q : List UInt8), go n s q = (blks q n).foldl Sha.step s
  | 0, s, q => rfl
  | n + 1, s, q => by
    rw [go, go_eq n]
    have : blks q (n + 1) = q.take 64 :: blks (q.drop 64) n := by
      simp only [blks, List.range_succ_eq_map, List.map_cons, List.map_map]
      congr 1
      refine List.map_congr_left fun i _ => ?_
      simp only [Function.comp, blk, List.drop_drop]
      rw [show 64 * (i + 1) = 64 + 64 * i by omega]
    rw [this, List.foldl_cons]
def insB (x : List UInt8) (args : Array Value) (X : Fact) : Prop := x.length = 64 ∧ ∃ B, args = #[.slice B 64 64] ∧ X = bsF B x
theorem blocks_it (l : Nat) (w : World) (bx : Nat) (A : Option Addr) (p : List UInt8) (c : Nat) (f0 R : Fact) (J Jx : List (List UInt8) → Fact → Prop) (hJ0 : J [] f0) (hJo : ∀ pre f, J pre f → f.own = true) (hRo : R.own = false) (hY : Yc Tryz.prog l J Jx R (fun _ => insB))
    (hp : p.length ≤ 70368744177664) (hm : Mem w (f0 :: R :: [bkF bx ty_sl_uint8 [.slice A p.length c], bsF A p])) :
    Con Tryz.prog n_sha_Blocks_1 #[.func (.yield l) #[] #[], .pointer (some ⟨bx, 0, none⟩)] w [f0, bkF bx ty_sl_uint8 [.slice A p.length c]]
      (fun _ Fs => ∃ f Fs', Fs = f :: Fs' ∧ ((∃ xs, J xs f ∧ xs = blks (p ++ ends p.length) ((p ++ ends p.length).length / 64) ∧ Fs' = []) ∨ (∃ pre, Jx pre f ∧ Fs' = []))) := by
  have g := good_sha_Blocks_1 w (Un [f0, bkF bx ty_sl_uint8 [.slice A p.length c]]) [bx]
  have hs0 : Sat (cx_sha_Blocks_1 w (Un [f0, bkF bx ty_sl_uint8 [.slice A p.length c]]) [bx]) (Va.of fun _ => bx) 1 [] (f0 :: R :: [bkF bx ty_sl_uint8 [.slice A p.length c], bsF A p]) w := by
    refine hm.sat rfl (fun f hf ho k hk => ?_) ⟨Nat.le_refl 1, fun i hi => by obtain rfl : i = 0 := Nat.lt_one_iff.1 hi; rfl⟩
    simp only [List.mem_cons, List.not_mem_nil, or_false] at hf
    rcases hf with rfl | rfl | rfl | rfl
    · exact ⟨_, by simp, hk⟩
    · rw [hRo] at ho; cases ho
    · exact ⟨_, by simp, hk⟩
    · cases ho
  have hs1 := hs0.toBk 2 rfl 0 Nat.zero_lt_one rfl
  have hf0 := hJo _ _ hJ0
  refine con_of_sx (cx := cx_sha_Blocks_1 w (Un [f0, bkF bx ty_sl_uint8 [.slice A p.length c]]) [bx]) g b_sha_Blocks_1 rfl rfl (β := Va.of fun _ => bx) [.c (.v (.func (.yield l) #[] #[])), .c (.p 0 0)] 1 [⟨0, ty_sl_uint8, [.v (.slice A p.length c)]⟩] [f0, R, bsF A p] rfl rfl hs1 ?_
  refine draw_rule g p_sha_Blocks_1_0 (by kernel_rfl) [⟨0, ty_sl_uint8, [.v (.slice A p.length c)]⟩] [f0, R, bsF A p] Sub.refl ?_
  refine ⟨((p.length : Nat) : Int), by rw [wrap_u64']; omega, ?_⟩
  refine call_con [] (fun β w' hs => clone_c w' A p c (hs.get 2 rfl) (by omega)) ?_
  rintro v Fs ⟨A1, c1, rfl, h1, h2, rfl⟩
  refine ⟨Sub.dropF 1 rfl, ?_⟩
  refine call_con [] (fun β w' hs => ends_c w' p.length (by omega)) ?_
  rintro v Fs ⟨A2, c2, rfl, h3, h4, rfl⟩
  refine ⟨Sub.dropF 2 rfl, ?_⟩
  obtain ⟨q, hq⟩ : ∃ q, p ++ ends p.length = q := ⟨_, rfl⟩
  have hql : q.length = p.length + (ends p.length).length := by rw [← hq, List.length_append]
  have hel : (ends p.length).length < 73 := by rw [Sha.ends_len]; unfold zeros; omega
  have hqm : q.length % 64 = 0 := by rw [← hq]; exact Sha.pad_mod p
  rw [hq]
  refine ⟨1, p.length, q.length, _, (ends p.length).map byte, q.map byte, rfl, fun β w hs => row_rd (hs.get 0 rfl), bytes_one _, hql.symm, by rw [← hq, List.map_append], by rw [maxLen_eq]; omega, by show q.length * 1 ≤ _; omega, ?_⟩
  intro A3 c3 h5 h6 _
  refine ⟨Sub.dropF 2 rfl, ?_⟩
  refine loop_rule (ι := Nat × Option Addr × Nat × Fact) 1 (fun i => [(0, .c (.v (.func (.yield l) #[] #[]))), (3, .c (.v (.slice i.2.1 (q.length - 64 * i.1) i.2.2.1)))]) (fun _ => [⟨0, ty_sl_uint8, [.v (.slice A p.length c)]⟩])
    (fun i => [browF ty_uint8 A3 q c3, i.2.2.2, R])
    (fun i => 64 * i.1 ≤ q.length ∧ q.length - 64 * i.1 ≤ i.2.2.1 ∧ i.2.2.1 ≤ maxLen ∧ J (blks q i.1) i.2.2.2 ∧ (∀ w, Bs w A3 q → Bs w i.2.1 (q.drop (64 * i.1))) ∧ (∀ ad, i.2.1 = some ad → ∃ ad3, A3 = some ad3 ∧ ad.block = ad3.block)) (fun i => q.length - 64 * i.1) (0, A3, c3, f0)
    ⟨Nat.zero_le _, h5, h6, hJ0, fun w h => h, fun ad h => ⟨ad, h, rfl⟩⟩ (Ent.mk' ⟨rfl, rfl, trivial⟩ rfl (fun β w' hs => hs.weaken (List.Sublist.refl _) (List.Sublist.cons _ (List.Sublist.cons_cons _ (List.Sublist.cons_cons _ (List.Sublist.cons_cons _ (List.nil_sublist _))))))) g ?_
  rintro ⟨i, B, cap, f⟩ ⟨hi, hcap, hcm, hJ, hB, hBD⟩
  simp only at hi hcap hcm hJ hB hBD
  have hfo := hJo _ _ hJ
  obtain ⟨m, hm⟩ : ∃ m, q.length - 64 * i = m := ⟨_, rfl⟩
  have hmc : m ≤ cap := by omega
  rw [hm]
  have hdl : (q.drop (64 * i)).length = m := by rw [List.length_drop]; omega
  refine BIf.dec (fun h0 => ?_) (fun h0 => ?_)
  · have hm64 : 64 ≤ m := by omega
    have hbl : (blk q i).length = 64 := by unfold blk; rw [List.length_take, hdl]; omega
    refine ⟨64, 64, 0, 64, 64, _, rfl, rfl, rfl, by show 64 ≤ cap; omega, by omega, by omega, rfl, rfl, rfl, ?_⟩
    have hcutD : ∀ k, (bsF (cutA B 64 0 1) (blk q i)).D k → (browF ty_uint8 A3 q c3).D k := by
      rintro k ⟨_, ad, had, rfl⟩
      simp only [cutA] at had
      rw [if_neg (by decide)] at had
      cases B with
      | none => cases had
      | some ad0 =>
        obtain rfl : ad0.add (0 * 1) = ad := by simpa using had
        obtain ⟨ad3, h7, h8⟩ := hBD ad0 rfl
        subst h7
        have : (ad0.add (0 * 1)).block = ad0.block := by unfold Addr.add; split <;> rfl
        show some ad3.block = some (ad0.add (0 * 1)).block
        rw [this, h8]
    refine yield_ro (x := blk q i) (X := bsF (cutA B 64 0 1) (blk q i)) hY 1 2 rfl hJ hfo rfl hRo (by decide) (fun β => ⟨hbl, _, rfl, rfl⟩) rfl (fun β w' hs => ⟨?_, fun k hk => hs.getLt 0 rfl k (hcutD k hk), fun k hk hk' => ?_⟩) ?_ ?_
    · have h7 := Bs.cut (hB w' (row_rd (hs.get 0 rfl))) (c := cap) (m := 64) (i := 0) (j := 64) (by omega) (.inr (Nat.le_refl _)) (by omega) (by omega) (by omega)
      have h8 : Rd 1 (cutA B 64 0 1) (blk q i).length ((blk q i).map byte) w' := by rw [hbl]; exact h7
      exact h8
    · exact hs.apart (i := 1) (j := 0) rfl rfl (by decide) (.inr rfl) k hk (hcutD k hk')
    · intro f2 hfo2 hJ2
      refine ⟨cap, m, 64, m - 64, cap - 64, _, rfl, rfl, rfl, Nat.le_refl _, hmc, hm64, rfl, rfl, rfl, ?_⟩
      refine ⟨(i + 1, cutA B cap 64 1, cap - 64, f2), ⟨by show 64 * (i + 1) ≤ _; omega, by show q.length - 64 * (i + 1) ≤ cap - 64; omega, by show cap - 64 ≤ _; omega, by show J (blks q (i + 1)) f2; rw [blks_succ]; exact hJ2, fun w' h => ?_, fun ad had => ?_⟩, by show q.length - 64 * (i + 1) < m; omega, Ent.mk' ⟨rfl, ?_, trivial⟩ rfl (fun β w' hs => ?_)⟩
      · have h7 := Bs.cutB (hB w' h) (c := cap) (i := 64) (j := m) (m := q.drop (64 * (i + 1))) (by omega) hm64 (by omega) (by
          rw [List.drop_drop, show 64 * i + 64 = 64 * (i + 1) by omega, List.take_of_length_le]
          rw [List.length_drop]; omega)
        exact h7
      · have had' : cutA B cap 64 1 = some ad := had
        unfold cutA at had'
        split at had'
        · exact hBD ad had'
        · cases B with
          | none => cases had'
          | some ad0 =>
            obtain rfl : ad0.add (64 * 1) = ad := by simpa using had'
            obtain ⟨ad3, h7, h8⟩ := hBD ad0 rfl
            refine ⟨ad3, h7, ?_⟩
            rw [← h8]
            unfold Addr.add; split <;> rfl
      · show _ = some (SV.c (.v (.slice _ (q.length - 64 * (i + 1)) _)))
        rw [show q.length - 64 * (i + 1) = m - 64 by omega]
        rfl
      · exact (hs.keepB (List.Sublist.refl _)).perm [1, 0, 2]
    · intro f2 hfo2 hJ2 β w' hs
      exact hs.fin [0] ⟨f2, [], rfl, .inr ⟨_, hJ2, rfl⟩⟩ rfl rfl rfl ⟨hfo2, trivial⟩
  · have hi2 : i = q.length / 64 := by omega
    intro β w' hs
    exact hs.fin [1] ⟨f, [], rfl, .inl ⟨_, hJ, by rw [hi2], rfl⟩⟩ rfl rfl rfl ⟨hfo, trivial⟩
theorem rd_sub_row {e size k n c : Nat} {A : Option Addr} {xs ys : List Value} : ∀ g, (rdF size A k xs).D g → (rowF e size (.slice A n c) n ys).D g := by
  rintro g ⟨_, ad, rfl, rfl⟩
  rfl
theorem Mem.lastRd {w : World} {f R X : Fact} {e c : Nat} {A : Option Addr} {l : List UInt8} (h : Mem w [f, R, X, browF e A l c]) : Mem w [f, R, X, bsF A l] := by
  have hp : Bs w A l := row_rd (h.fact (browF e A l c) (by simp))
  refine ⟨fun g hg => ?_, fun g hg k hk => ?_, ?_⟩
  · simp only [List.mem_cons, List.not_mem_nil, or_false] at hg
    rcases hg with rfl | rfl | rfl | rfl
    · exact h.fact _ (by simp)
    · exact h.fact _ (by simp)
    · exact h.fact _ (by simp)
    · exact hp
  · simp only [List.mem_cons, List.not_mem_nil, or_false] at hg
    rcases hg with rfl | rfl | rfl | rfl
    · exact h.flt g (by simp) k hk
    · exact h.flt g (by simp) k hk
    · exact h.flt g (by simp) k hk
    · exact h.flt (browF e A l c) (by simp) k (rd_sub_row k hk)
  · obtain ⟨h1, h2⟩ := List.pairwise_cons.1 h.sepf
    obtain ⟨h3, h4⟩ := List.pairwise_cons.1 h2
    obtain ⟨h5, _⟩ := List.pairwise_cons.1 h4
    refine List.pairwise_cons.2 ⟨fun g hg ho => ?_, List.pairwise_cons.2 ⟨fun g hg ho => ?_, List.pairwise_cons.2 ⟨fun g hg ho => ?_, List.pairwise_singleton _ _⟩⟩⟩
    · simp only [List.mem_cons, List.not_mem_nil, or_false] at hg
      rcases hg with rfl | rfl | rfl
      · exact h1 _ (by simp) ho
      · exact h1 _ (by simp) ho
      · exact fun k hk q => h1 (browF e A l c) (by simp) (.inr rfl) k hk (rd_sub_row k q)
    · simp only [List.mem_cons, List.not_mem_nil, or_false] at hg
      rcases hg with rfl | rfl
      · exact h3 _ (by simp) ho
      · exact fun k hk q => h3 (browF e A l c) (by simp) (.inr rfl) k hk (rd_sub_row k q)
    · obtain rfl := List.mem_singleton.1 hg
      exact fun k hk q => h5 (browF e A l c) (by simp) (.inr rfl) k hk (rd_sub_row k q)
theorem Blocks_c (w : World) (A : Option Addr) (n c : Nat) : Con Tryz.prog n_sha_Blocks #[.slice A n c] w [] (fun v Fs => ∃ bx, v = .func (.func n_sha_Blocks_1) #[] #[.pointer (some ⟨bx, 0, none⟩)] ∧ Fs = [bkF bx ty_sl_uint8 [.slice A n c]]) := by
  refine con_of_sx (cx := cx_sha_Blocks w (Un [])) (good_sha_Blocks w (Un [])) b_sha_Blocks rfl rfl (β := Va.z) [.c (.v (.slice A n c))] 0 [] [] rfl rfl (Sat.start rfl) ?_
  intro β w' hs
  exact hs.ofBk.fin [0] ⟨β 0, rfl, rfl⟩
theorem join1_c (w : World) (P A : Option Addr) (cP c : Nat) (l : List UInt8) (hP : Rd 1 P 1 [.slice A l.length c] w) (hr : Bs w A l) (hn : l.length ≤ 140737488355328) :
    Con Tryz.prog n_bytes_Join #[.slice P 1 cP, .slice none 0 0] w [] fun v Fs => ∃ A' c', v = .slice A' l.length c' ∧ l.length ≤ c' ∧ c' ≤ maxLen ∧ Fs = [browF ty_uint8 A' l c'] := by
  have hs0 : Sat (cx_bytes_Join w (Un [])) Va.z 0 [] [oldF w] w := old_sat rfl
  refine con_of_sx (cx := cx_bytes_Join w (Un [])) (good_bytes_Join w (Un [])) b_bytes_Join rfl rfl (β := Va.z) [.c (.v (.slice P 1 cP)), .c (.v (.slice none 0 0))] 0 [] [browF ty_uint8 none [] 0, oldF w] rfl rfl (hs0.nilRow _ _) ?_
  obtain ⟨ad, rfl, hc⟩ := hP.2 (by decide)
  refine ⟨ad, 0, rfl, rfl, by decide, .slice A l.length c, fun β w' hs => ?_, ?_⟩
  · have h1 : Rd 1 (some ad) 1 [.slice A l.length c] w' := hP.old (hs.get 1 rfl)
    obtain ⟨ad', h2, h3⟩ := h1.2 (by decide)
    obtain rfl := Option.some.inj h2
    exact h3 0 _ rfl
  refine ⟨0, 0, l.length, [], l.map byte, _, rfl, fun β w' hs => hr.old (hs.get 1 rfl), bytes_one l, Nat.zero_add _, rfl, by rw [maxLen_eq]; omega, by show l.length * 1 ≤ _; omega, ?_⟩
  intro A' c' h1 h2 h3 β w' hs
  exact hs.fin [0] ⟨A', c', rfl, h1, h2, rfl⟩
theorem step64_c (w : World) (b ty : Nat) (s : S8) (A : Option Addr) (x : List UInt8) (hx : x.length = 64) (hm : Mem w [stF b ty s, bsF A x, oddF 5]) :
    Con Tryz.prog n_sha_state_step #[.pointer (some ⟨b, 0, none⟩), .slice A 64 64] w [stF b ty s] fun v Fs => v = .tuple #[] ∧ Fs = [stF b ty (Sha.step s x)] := by
  have := step_c w b ty s A x 64 hm (by omega) (by omega) (by decide)
  rw [hx] at this
  exact this
def firstF (g : Nat) : Fact := rdF 1 (some ⟨g, 0, none⟩) 8 (Sha.first.l.map u32)
theorem sum1_c (w : World) (P A : Option Addr) (cP c : Nat) (l : List UInt8) (hP : Rd 1 P 1 [.slice A l.length c] w) (hr : Bs w A l) (hn : l.length ≤ 70368744177664) (h1 : (oddF 5).p w) (h0 : (firstF 2).p w) :
    Con Tryz.prog n_sha_Sum #[.slice P 1 cP] w [] fun v Fs => ∃ A' c', v = .slice A' 32 c' ∧ 32 ≤ c' ∧ c' ≤ maxLen ∧ Fs = [browF ty_uint8 A' (Sha.sum l) c'] := by
  have g := good_sha_Sum w (Un [])
  have hs0 : Sat (cx_sha_Sum w (Un [])) Va.z 0 [] [oldF w] w := old_sat rfl
  have hs1 : Sat (cx_sha_Sum w (Un [])) Va.z 0 [] [oddF 5, oldF w] w := hs0.sub 0 rfl rfl _ rfl h1 (rd_lt h1)
  refine con_of_sx (cx := cx_sha_Sum w (Un [])) g b_sha_Sum rfl rfl (β := Va.z) [.c (.v (.slice P 1 cP))] 0 [] [oddF 5, oldF w] rfl rfl hs1 ?_
  refine ⟨Sha.first.l.map u32, rfl, fun β w' hs j u hu => ?_, ?_⟩
  · have h2 : Rd 1 (some ⟨2, 0, none⟩) 8 (Sha.first.l.map u32) w' := Rd.old h0 (hs.get 1 rfl)
    obtain ⟨ad, h3, h4⟩ := h2.2 (by decide)
    obtain rfl := Option.some.inj h3
    exact h4 j u hu
  refine call_con [] (fun β w' hs => join1_c w' P A cP c l (hP.old (hs.get 1 rfl)) (hr.old (hs.get 1 rfl)) (by omega)) ?_
  rintro v Fs ⟨A1, c1, rfl, h2, h3, rfl⟩
  refine call_con [] (fun β w' hs => Blocks_c w' A1 l.length c1) ?_
  rintro v Fs ⟨bx, rfl, rfl⟩
  refine reify_rule g 0 (fun _ => Sha.first.l.map u32) rfl rfl (fun _ => rfl) (fun sb => ?_)
  obtain ⟨q, hq⟩ : ∃ q, l ++ ends l.length = q := ⟨_, rfl⟩
  have hsum : Sha.sum l = out ((blks q (q.length / 64)).foldl Sha.step Sha.first) := by rw [← go_eq, ← hq]; rfl
  rw [hsum]
  refine range_rule (α := List UInt8) (ι := S8) (κ := S8) g rfl (cv := [.pointer (some ⟨bx, 0, none⟩)]) rfl (by kernel_rfl) 1 (Nat.le_refl 1)
    (fun pre s => s = pre.foldl Sha.step Sha.first) (fun _ => []) (fun s => [stF sb 291 s]) (fun _ => ⟨rfl, trivial⟩)
    (fun _ _ _ => False) (fun _ => []) (fun _ => []) (fun _ => trivial)
    [bkF bx ty_sl_uint8 [.slice A1 l.length c1]] [browF ty_uint8 A1 l c1] [oddF 5] ⟨rfl, trivial⟩ (fun g hg => by obtain rfl := List.mem_singleton.1 hg; rfl)
    Sha.first rfl (fun β w' hs => ⟨β, Agr.refl _ _, hs.perm [1, 2, 0, 3]⟩) (fun _ => insB)
    (fun xs Fs' => xs = blks q (q.length / 64) ∧ Fs' = []) (fun _ Fs' => Fs' = [])
    (fun l' w' f0 R J Jx hJ0 hJo hRo hY hm => (blocks_it l' w' bx A1 l c1 f0 R J Jx hJ0 hJo hRo hY hn hm.lastRd).mono fun _ Fs h => by rw [hq] at h; exact h) ?_ ?_ ?_
  · rintro s pre x args X W S l' bs pn pn' hbs hpre ⟨hx, B, rfl, rfl⟩
    refine ⟨_, rfl, ?_⟩
    refine call_con [1] (fun β w' hs => step64_c w' sb 291 s B x hx (hs.mem.take (js := [1, 0, 2]) rfl)) ?_
    rintro v Fs ⟨rfl, rfl⟩
    refine ⟨Sha.step s x, by show Sha.step s x = (pre ++ [x]).foldl Sha.step Sha.first; rw [List.foldl_append, hpre]; rfl, Ent.mk' trivial rfl (fun β w' hs => ?_)⟩
    exact hs.weaken (List.Sublist.refl _) (List.Sublist.cons_cons _ (List.nil_sublist _))
  · rintro xs s Fs hpre ⟨rfl, rfl⟩
    refine call_con [0] (fun β w' hs => stbytes_c w' sb 291 s (hs.mem.take (js := [0]) rfl)) ?_
    rintro v Fs ⟨A3, c3, rfl, h5, h6, rfl⟩
    intro β w' hs
    refine hs.fin [1] ⟨A3, c3, rfl, h5, h6, ?_⟩
    rw [← hpre]
    rfl
  · rintro e pre s Fs h _
    exact h.elim
theorem be4 (x : UInt32) : be 4 x.toNat = b4 x := by
  have hx := x.toNat_lt
  simp only [be, b4, List.nil_append, List.cons_append]
  have e : ∀ n, n < 256 → ∀ y : UInt8, y.toNat = n → UInt8.ofNat n = y := fun n _ y h => by rw [← h, UInt8.ofNat_toNat]
  have h1 : ∀ k : Nat, k < 32 → (x >>> UInt32.ofNat k).toNat = x.toNat / 2 ^ k := fun k hk => by
    rw [UInt32.toNat_shiftRight, UInt32.toNat_ofNat', Nat.mod_eq_of_lt (show k < 2 ^ 32 by omega), Nat.mod_eq_of_lt hk, Nat.shiftRight_eq_div_pow]
  congr 1
  · exact e _ (by omega) _ (by rw [UInt32.toNat_toUInt8, show (24 : UInt32) = UInt32.ofNat 24 from rfl, h1 24 (by omega)] <;> omega)
  congr 1
  · exact e _ (by omega) _ (by rw [UInt32.toNat_toUInt8, show (16 : UInt32) = UInt32.ofNat 16 from rfl, h1 16 (by omega)] <;> omega)
  congr 1
  · exact e _ (by omega) _ (by rw [UInt32.toNat_toUInt8, show (8 : UInt32) = UInt32.ofNat 8 from rfl, h1 8 (by omega)] <;> omega)
  congr 1
  exact e _ (by omega) _ (by rw [UInt32.toNat_toUInt8])
structure SecA where
  A0 : Option Addr
  A1 : Option Addr
  A2 : Option Addr
  A3 : Option Addr
  c0 : Nat
  c1 : Nat
  c2 : Nat
  c3 : Nat
  s0 : List UInt8
  s1 : List UInt8
  s2 : List UInt8
  s3 : List UInt8
  it : Int
def SecA.val (x : SecA) : Value := .agg #[.slice x.A0 x.s0.length x.c0, .int .i64 x.it, .slice x.A1 x.s1.length x.c1, .slice x.A2 x.s2.length x.c2, .slice x.A3 x.s3.length x.c3]
def SecA.cells (x : SecA) : List SL := [.v (.slice x.A0 x.s0.length x.c0), .v (.int .i64 x.it), .v (.slice x.A1 x.s1.length x.c1), .v (.slice x.A2 x.s2.length x.c2), .v (.slice x.A3 x.s3.length x.c3)]
structure SecA.Rd (x : SecA) (w : World) : Prop where
  h0 : Bs w x.A0 x.s0
  h1 : Bs w x.A1 x.s1
  h2 : Bs w x.A2 x.s2
  h3 : Bs w x.A3 x.s3
theorem ofInt8 (a : UInt8) : BitVec.ofInt 8 (a.toNat : Int) = a.toBitVec := by
  apply BitVec.eq_of_toNat_eq
  rw [BitVec.toNat_ofInt]
  have := a.toNat_lt
  have e : a.toBitVec.toNat = a.toNat := rfl
  rw [e]
  omega
theorem back8 (x : BitVec 8) : IntKind.u8.wrap (x.toNat : Int) = ((UInt8.ofBitVec x).toNat : Int) := by
  rw [wrap_u8]
  have := x.isLt
  have e : (UInt8.ofBitVec x).toNat = x.toNat := rfl
  rw [e]
  omega
theorem xor8 (a b : UInt8) : bits .xor .u8 (a.toNat : Int) (b.toNat : Int) = ((a ^^^ b).toNat : Int) := by
  show IntKind.u8.wrap (((BitVec.ofInt 8 (a.toNat : Int)) ^^^ (BitVec.ofInt 8 (b.toNat : Int))).toNat : Int) = _
  rw [ofInt8, ofInt8, back8]
  rfl
theorem or8 (a b : UInt8) : bits .or .u8 (a.toNat : Int) (b.toNat : Int) = ((a ||| b).toNat : Int) := by
  show IntKind.u8.wrap (((BitVec.ofInt 8 (a.toNat : Int)) ||| (BitVec.ofInt 8 (b.toNat : Int))).toNat : Int) = _
  rw [ofInt8, ofInt8, back8]
  rfl
end Go.Proofs.YteenjgfbbkdlhaaGreatDoor.Sx

namespace Go.Proofs.YteenjgfbbkdlhaaGreatDoor.Sx
open Go
attribute [local irreducible] Calls
theorem and8 (a b : UInt8) : bits .and .u8 (a.toNat : Int) (b.toNat : Int) = ((a &&& b).toNat : Int) := by
  show IntKind.u8.wrap (((BitVec.ofInt 8 (a.toNat : Int)) &&& (BitVec.ofInt 8 (b.toNat : Int))).toNat : Int) = _
  rw [ofInt8, ofInt8, back8]
  rfl
theorem andNot8 (a b : UInt8) : bits .andNot .u8 (a.toNat : Int) (b.toNat : Int) = ((a &&& ~~~b).toNat : Int) := by
  show IntKind.u8.wrap (((BitVec.ofInt 8 (a.toNat : Int)) &&& ~~~(BitVec.ofInt 8 (b.toNat : Int))).toNat : Int) = _
  rw [ofInt8, ofInt8, back8]
  rfl
theorem wrap_i32 {x : Int} (h1 : -2147483648 ≤ x) (h2 : x ≤ 2147483647) : IntKind.i32.wrap x = x := by
  simp only [IntKind.wrap, IntKind.bits, IntKind.signed]
  simp
  omega
theorem cont_eq (b : UInt8) : ((b &&& ~~~63).toNat : Int) = 128 ↔ b.toNat / 64 = 2 := by
  have h : ∀ n : _root_.Fin 256, (((UInt8.ofNat n.1) &&& ~~~63).toNat = 128 ↔ (UInt8.ofNat n.1).toNat / 64 = 2) := by decide +kernel
  have h2 : (b &&& ~~~63).toNat = 128 ↔ b.toNat / 64 = 2 := Nam.u8_all (p := fun b => (b &&& ~~~63).toNat = 128 ↔ b.toNat / 64 = 2) h b
  omega
theorem low_eq (b : UInt8) : (b &&& 63).toNat = b.toNat % 64 := by
  have h : ∀ n : _root_.Fin 256, ((UInt8.ofNat n.1) &&& 63).toNat = (UInt8.ofNat n.1).toNat % 64 := by decide +kernel
  exact Nam.u8_all (p := fun b => (b &&& 63).toNat = b.toNat % 64) h b
theorem shl6_i32 {x : Nat} (hx : x < 33554432) : IntKind.i32.wrap ((x : Int) * 2 ^ (min (6 : Int).toNat IntKind.i32.bits)) = ((x * 64 : Nat) : Int) := by
  have h1 : min (6 : Int).toNat IntKind.i32.bits = 6 := rfl
  rw [h1, wrap_i32 (by omega) (by omega)]
  omega
theorem or6_i32 {x y : Nat} (hx : x < 33554432) (hy : y < 64) : bits .or .i32 ((x * 64 : Nat) : Int) (y : Int) = ((x * 64 + y : Nat) : Int) := by
  show IntKind.i32.wrap (((BitVec.ofInt 32 ((x * 64 : Nat) : Int)) ||| (BitVec.ofInt 32 (y : Int))).toNat : Int) = _
  have h1 : (BitVec.ofInt 32 ((x * 64 : Nat) : Int)).toNat = x <<< 6 := by
    rw [BitVec.toNat_ofInt, Nat.shiftLeft_eq]
    omega
  have h2 : (BitVec.ofInt 32 (y : Int)).toNat = y := by
    rw [BitVec.toNat_ofInt]
    omega
  rw [BitVec.toNat_or, h1, h2, ← Nat.shiftLeft_add_eq_or_of_lt (by omega) x, Nat.shiftLeft_eq, wrap_i32 (by omega) (by omega)]
theorem sign_c (w : World) (z : Int) (r : Nat) (hz : z = (r : Int)) : Pu Tryz.prog n_name_sign #[.int .i32 z] w (.bool (Nam.sign r)) := by
  refine con_of_sx (cx := cx_name_sign w (Un [])) (good_name_sign w (Un [])) b_name_sign rfl rfl (β := Va.z) [.c (.v (.int .i32 z))] 0 [] [] rfl rfl (Sat.start rfl) ?_
  have fin : ∀ (b : Bool), b = Nam.sign r → ∀ {n : Nat} {H : List Bk} {F : List Fact} (β : Va) (w' : World), Sat (cx_name_sign w (Un [])) β n H F w' → Fin w [] (fun u Fs => u = .bool (Nam.sign r) ∧ Fs = []) (.bool b) w' := by
    rintro b rfl n H F β w' hs
    exact (hs.keepB (List.nil_sublist _)).fin [] ⟨rfl, rfl⟩
  refine BIf.dec (fun h0 => ?_) (fun h0 => ?_)
  · refine BIf.dec (fun h1 => ?_) (fun h1 => ?_)
    · have h1' : z ≤ 1114111 := h1
      refine BIf.dec (fun h2 => ?_) (fun h2 => ?_)
      · have h2' : z < 55296 := h2
        refine fin true ?_
        unfold Nam.sign
        rw [decide_eq_true (by omega : r ≤ 1114111), decide_eq_true (by omega : r < 55296)]; rfl
      · have h2' : ¬ z < 55296 := h2
        refine fin (decide ((57343 : Int) < z)) ?_
        unfold Nam.sign
        rw [decide_eq_true (by omega : r ≤ 1114111), decide_eq_false (by omega : ¬ r < 55296), Bool.true_and, Bool.false_or]
        exact decide_eq_decide.2 (by omega)
    · have h1' : ¬ z ≤ 1114111 := h1
      refine fin false ?_
      unfold Nam.sign
      rw [decide_eq_false (by omega : ¬ r ≤ 1114111)]; rfl
  · have h0' : ¬ (0 : Int) ≤ z := h0
    omega
def formV (f : Nam.Fm) : List Value := [.int .i64 (f.size : Int), byte f.mask, byte f.lead, .int .i32 (f.least : Int)]
def formCells : List Value := Nam.fms.flatMap formV
def Forms (g : Nat) (w : World) : Prop := Rd 16 (some ⟨g, 0, none⟩) 1 formCells w
theorem Forms.old {g : Nat} {W w : World} (h : Forms g W) (ho : (oldF W).p w) : Forms g w := Rd.old h ho
def runeI : Option Nat → Int
  | some r => (r : Int)
  | none => -1
theorem form_at : ∀ {i : Nat} {f : Nam.Fm}, Nam.fms[i]? = some f → ((formCells.map SL.v).drop (i * 4)).take 4 = (formV f).map SL.v
  | 0, f, h => by cases h; rfl
  | 1, f, h => by cases h; rfl
  | 2, f, h => by cases h; rfl
  | 3, f, h => by cases h; rfl
  | n + 4, f, h => by simp [Nam.fms] at h
theorem tailR_snoc (b : UInt8) : ∀ (l : List UInt8) (r : Nat), Nam.tailR (l ++ [b]) r = match Nam.tailR l r with
    | some q => if b.toNat / 64 = 2 then some (q * 64 + b.toNat % 64) else none
    | none => none
  | [], r => rfl
  | x :: t, r => by
    simp only [List.cons_append, Nam.tailR]
    split
    · exact tailR_snoc b t _
    · rfl
theorem form_size {f : Nam.Fm} (h : f ∈ Nam.fms) : 1 ≤ f.size ∧ f.size ≤ 4 ∧ f.least ≤ 65536 := by
  simp only [Nam.fms, List.mem_cons, List.not_mem_nil, or_false] at h
  rcases h with rfl | rfl | rfl | rfl <;> decide
theorem decode_c (w : World) (s : ByteArray) (b0 : UInt8) (t : List UInt8) (hs0 : s.data.toList = b0 :: t) (hsz : s.size ≤ maxLen) (hf : Forms 10 w) :
    Pu Tryz.prog n_name_decode #[.string s] w (.tuple #[.int .i32 (runeI (Nam.decL (b0 :: t)).1), .int .i64 ((Nam.decL (b0 :: t)).2 : Int)]) := by
  have g := good_name_decode w (Un [])
  have hlen : s.size = (b0 :: t).length := by rw [← hs0]; rfl
  have hml := maxLen_eq
  refine con_of_sx (cx := cx_name_decode w (Un [])) g b_name_decode rfl rfl (β := Va.z) [.c (.v (.string s))] 0 [] [oldF w] rfl rfl (old_sat rfl) ?_
  refine ⟨formCells, rfl, fun β w' hs => ?_, ?_⟩
  · intro j u hu
    obtain ⟨ad, q, hc⟩ := (Forms.old hf (hs.get 0 rfl)).2 (by decide)
    cases q
    exact hc j u hu
  have bad : Nam.decL (b0 :: t) = (none, 1) → ∀ {n : Nat} {H : List Bk} {F : List Fact} (β : Va) (w' : World), Sat (cx_name_decode w (Un [])) β n H F w' → Fin w [] (fun u Fs => u = .tuple #[.int .i32 (runeI (Nam.decL (b0 :: t)).1), .int .i64 ((Nam.decL (b0 :: t)).2 : Int)] ∧ Fs = []) (.tuple #[.int .i32 (-1), .int .i64 1]) w' := by
    intro h n H F β w' hs
    rw [h]
    exact (hs.keepB (List.nil_sublist _)).fin [] ⟨rfl, rfl⟩
  refine loop_rule 0 (fun i : Nat => [(0, .c (.v (.string s))), (8, .agg (formCells.map SL.v)), (9, .c (.v (.int .i64 (i : Int))))]) (fun _ => []) (fun _ => [oldF w])
    (fun i => i ≤ 4 ∧ ∀ f ∈ Nam.fms.take i, Nam.fits f (b0 :: t) = false) (fun i => 4 - i) 0 ⟨Nat.zero_le _, fun f h => by cases h⟩ (Ent.same ⟨rfl, rfl, rfl, trivial⟩ rfl) g ?_
  rintro i ⟨hi, hno⟩
  have next : ∀ {f : Nam.Fm}, Nam.fms[i]? = some f → Nam.fits f (b0 :: t) = false → ∀ f ∈ Nam.fms.take (i + 1), Nam.fits f (b0 :: t) = false := by
    intro f hfi hff f' hf'
    rw [List.take_add_one, hfi] at hf'
    rcases List.mem_append.1 hf' with q | q
    · exact hno f' q
    · obtain rfl : f' = f := by simpa using q
      exact hff
  refine BIf.dec (fun hlt => ?_) (fun hge => ?_)
  · have hlt0 : (i : Int) < 4 := hlt
    have hi4 : i < Nam.fms.length := by show i < 4; omega
    obtain ⟨f, hfi, hfm⟩ := at_lt hi4
    have hfs := form_size hfm
    refine ⟨i, (formV f).map SL.v, rfl, by omega, form_at hfi, ?_⟩
    have hS : ∀ {n : Nat} {F : List Fact}, Sub (cx_name_decode w (Un [])) n [⟨0, ty_name_form, (formV f).map SL.v⟩] F [⟨0, ty_name_form, (formV f).map SL.v⟩] [] := fun {n F} => Sub.of (List.Sublist.refl _) (List.nil_sublist _)
    have hb0 : s.data.toList[0]? = some b0 := by rw [hs0]; rfl
    refine draw_rule g p_name_decode_4 (by kernel_rfl) [⟨0, ty_name_form, (formV f).map SL.v⟩] [] hS ?_
    refine ⟨0, b0, rfl, hb0, ?_⟩
    refine ⟨_, and8 b0 f.mask, ?_⟩
    refine BIf.not (BIf.dec (fun hm => ?_) (fun hm => ?_))
    · have hm1 : ((b0 &&& f.mask).toNat : Int) = (f.lead.toNat : Int) := hm
      have hm2 : b0 &&& f.mask = f.lead := UInt8.toNat_inj.1 (by omega)
      refine BIf.dec (fun hsh => ?_) (fun hsh => ?_)
      · have hsh1 : (s.size : Int) < (f.size : Int) := hsh
        have hff : Nam.fits f (b0 :: t) = false := by
          simp only [Nam.fits, hm2, decide_true, Bool.true_and]
          exact decide_eq_false (by omega)
        refine ⟨((i + 1 : Nat) : Int), by rw [wrap_i64 (by omega) (by omega)]; rfl, ?_⟩
        exact ⟨i + 1, ⟨by omega, next hfi hff⟩, by omega, Ent.mk' ⟨rfl, rfl, rfl, trivial⟩ rfl (fun β w hs => (hs.keepB (List.nil_sublist _)).lower)⟩
      · have hsh1 : ¬ (s.size : Int) < (f.size : Int) := hsh
        have hfl : f.size ≤ (b0 :: t).length := by omega
        have hdec : Nam.decL (b0 :: t) = match Nam.tryF f (b0 :: t) with | some r => (some r, f.size) | none => (none, 1) := by
          unfold Nam.decL
          rw [Nam.find_form hfm hm2, if_pos hfl]
          try rfl
        refine draw_rule g p_name_decode_5 (by kernel_rfl) [⟨0, ty_name_form, (formV f).map SL.v⟩] [] hS ?_
        refine ⟨0, b0, rfl, hb0, ?_⟩
        refine ⟨_, andNot8 b0 f.mask, ?_⟩
        obtain ⟨r0, hr0⟩ : ∃ r0, (b0 &&& ~~~f.mask).toNat = r0 := ⟨_, rfl⟩
        have hr0l : r0 < 256 := by rw [← hr0]; exact UInt8.toNat_lt _
        refine ⟨(r0 : Int), by rw [hr0]; exact wrap_i32 (by omega) (by omega), ?_⟩
        have hbad : Nam.tryF f (b0 :: t) = none → Nam.decL (b0 :: t) = (none, 1) := fun h => by rw [hdec, h]
        refine loop_rule (ι := Nat × Nat) 1 (fun q => [(0, .c (.v (.string s))), (5, .c (.p 0 0)), (6, .c (.v (.int .i32 (q.2 : Int)))), (7, .c (.v (.int .i64 (q.1 : Int))))]) (fun _ => [⟨0, ty_name_form, (formV f).map SL.v⟩]) (fun _ => [oldF w])
          (fun q => 1 ≤ q.1 ∧ q.1 ≤ f.size ∧ Nam.tailR (t.take (q.1 - 1)) r0 = some q.2 ∧ q.2 < 256 * 64 ^ (q.1 - 1)) (fun q => f.size - q.1) (1, r0) ⟨Nat.le_refl _, hfs.1, rfl, by simpa using hr0l⟩ (Ent.same ⟨rfl, rfl, rfl, rfl, trivial⟩ rfl) g ?_
        rintro ⟨k, r⟩ ⟨hk1, hk2, htl, hrb⟩
        simp only at hk1 hk2 htl hrb
        simp only
        refine BIf.dec (fun hks => ?_) (fun hks => ?_)
        · have hks1 : (k : Int) < (f.size : Int) := hks
          have hkt : k - 1 < t.length := by simp only [List.length_cons] at hfl; omega
          obtain ⟨c, hc, _⟩ := at_lt hkt
          have hcs : s.data.toList[k]? = some c := by
            rw [hs0]
            obtain ⟨k', rfl⟩ : ∃ k', k = k' + 1 := ⟨k - 1, by omega⟩
            simpa using hc
          have hsn : t.take k = t.take (k - 1) ++ [c] := by
            have := List.take_add_one (l := t) (i := k - 1)
            rw [hc, Nat.sub_add_cancel hk1] at this
            exact this
          have hrb2 : r < 33554432 := by
            have : 64 ^ (k - 1) ≤ 64 ^ 2 := Nat.pow_le_pow_right (by decide) (by omega)
            omega
          refine ⟨k, c, rfl, hcs, ?_⟩
          refine ⟨_, andNot8 c 63, ?_⟩
          refine BIf.not (BIf.dec (fun hct => ?_) (fun hct => ?_))
          · have hcc : c.toNat / 64 = 2 := (cont_eq c).1 hct
            refine ⟨by decide, _, shl6_i32 hrb2, ?_⟩
            refine ⟨k, c, rfl, hcs, ?_⟩
            refine ⟨_, and8 c 63, ?_⟩
            refine ⟨((c.toNat % 64 : Nat) : Int), by rw [low_eq]; exact wrap_i32 (by omega) (by omega), ?_⟩
            refine ⟨_, or6_i32 hrb2 (Nat.mod_lt _ (by decide)), ?_⟩
            refine ⟨((k + 1 : Nat) : Int), by rw [wrap_i64 (by omega) (by omega)]; rfl, ?_⟩
            refine ⟨(k + 1, r * 64 + c.toNat % 64), ⟨by show 1 ≤ k + 1; omega, by show k + 1 ≤ f.size; omega, ?_, ?_⟩, by show f.size - (k + 1) < f.size - k; omega, Ent.same ⟨rfl, rfl, rfl, rfl, trivial⟩ rfl⟩
            · show Nam.tailR (t.take (k + 1 - 1)) r0 = some (r * 64 + c.toNat % 64)
              rw [Nat.add_sub_cancel, hsn, tailR_snoc, htl]
              simp only
              rw [if_pos hcc]
            · show r * 64 + c.toNat % 64 < 256 * 64 ^ (k + 1 - 1)
              obtain ⟨k', rfl⟩ : ∃ k', k = k' + 1 := ⟨k - 1, by omega⟩
              simp only [Nat.add_sub_cancel] at hrb ⊢
              rw [Nat.pow_succ]
              omega
          · have hcc : ¬ c.toNat / 64 = 2 := fun q => hct ((cont_eq c).2 q)
            exact bad (hbad (by
              simp only [Nam.tryF]
              rw [Nam.tailR_none]
              refine ⟨c, ?_, hcc⟩
              have h2 : c ∈ t.take k := by rw [hsn]; simp
              exact List.take_subset_take_left t (by omega) h2))
        · have hks1 : ¬ (k : Int) < (f.size : Int) := hks
          obtain rfl : k = f.size := by omega
          have hmid : Nam.tryF f (b0 :: t) = if f.least ≤ r ∧ Nam.sign r = true then some r else none := by
            simp only [Nam.tryF, hr0, htl]
          refine BIf.dec (fun hls => ?_) (fun hls => ?_)
          · have hls1 : (f.least : Int) ≤ (r : Int) := hls
            refine call_pu (fun β w' hs => sign_c w' (r : Int) r rfl) ?_
            cases hsg : Nam.sign r with
            | true =>
              rw [if_pos ⟨by omega, hsg⟩] at hmid
              rw [hmid] at hdec
              refine draw_rule g p_name_decode_12 (by kernel_rfl) [⟨0, ty_name_form, (formV f).map SL.v⟩] [] hS ?_
              intro β w' hs
              rw [hdec]
              exact (hs.keepB (List.nil_sublist _)).fin [] ⟨rfl, rfl⟩
            | false => exact bad (hbad (by rw [hmid, if_neg (fun q => by rw [hsg] at q; cases q.2)]))
          · have hls1 : ¬ (f.least : Int) ≤ (r : Int) := hls
            exact bad (hbad (by rw [hmid, if_neg (fun q => hls1 (by have := q.1; omega))]))
    · have hm1 : ¬ ((b0 &&& f.mask).toNat : Int) = (f.lead.toNat : Int) := hm
      have hff : Nam.fits f (b0 :: t) = false := by
        simp only [Nam.fits]
        rw [decide_eq_false (fun q => hm1 (by rw [q]))]
        rfl
      refine ⟨((i + 1 : Nat) : Int), by rw [wrap_i64 (by omega) (by omega)]; rfl, ?_⟩
      exact ⟨i + 1, ⟨by omega, next hfi hff⟩, by omega, Ent.mk' ⟨rfl, rfl, rfl, trivial⟩ rfl (fun β w hs => (hs.keepB (List.nil_sublist _)).lower)⟩
  · have hge0 : ¬ (i : Int) < 4 := hge
    have hi4 : i = 4 := by omega
    subst hi4
    refine bad ?_
    unfold Nam.decL
    rw [List.find?_eq_none.2 (fun f hf q => by rw [hno f hf] at q; cases q)]
abbrev Sp := Int × Int
def spanV (x : Sp) : List Value := [.int .i32 x.1, .int .i32 x.2]
def inSp (z : Int) (l : List Sp) : Bool := l.any fun p => decide (p.1 ≤ z) && decide (z ≤ p.2)
theorem within_c (w : World) (z : Int) (A : Option Addr) (l : List Sp) (c : Nat) (hr : Rd 2 A l.length (l.flatMap spanV) w) (hn : l.length ≤ 1000) :
    Pu Tryz.prog n_name_within #[.int .i32 z, .slice A l.length c] w (.bool (inSp z l)) := by
  have g := good_name_within w (Un [])
  refine con_of_sx (cx := cx_name_within w (Un [])) g b_name_within rfl rfl (β := Va.z) [.c (.v (.int .i32 z)), .c (.v (.slice A l.length c))] 0 [] [oldF w] rfl rfl (old_sat rfl) ?_
  refine loop_rule 0 (fun k : Nat => [(0, .c (.v (.int .i32 z))), (7, .c (.v (.slice A l.length c))), (8, .c (.v (.int .i64 l.length))), (9, .c (.v (.int .i64 (k : Int))))]) (fun _ => []) (fun _ => [oldF w])
    (fun k => k ≤ l.length ∧ inSp z (l.take k) = false) (fun k => l.length - k) 0 ⟨Nat.zero_le _, rfl⟩ (Ent.same ⟨rfl, rfl, rfl, rfl, trivial⟩ rfl) g ?_
  rintro k ⟨hk, hno⟩
  refine BIf.dec (fun hlt => ?_) (fun hge => ?_)
  · have hlt0 : (k : Int) < l.length := hlt
    have hkl : k < l.length := by omega
    obtain ⟨x, hx, hxm⟩ := at_lt hkl
    obtain ⟨ad, hA, _⟩ := hr.2 (by omega)
    have hsn : inSp z (l.take (k + 1)) = (decide (x.1 ≤ z) && decide (z ≤ x.2)) := by
      rw [List.take_add_one, hx]
      unfold inSp at hno ⊢
      rw [List.any_append, hno]
      simp
    have next : inSp z (l.take (k + 1)) = false → Ent (cx_name_within w (Un [])) 1 [(0, .c (.v (.int .i32 z))), (7, .c (.v (.slice A l.length c))), (8, .c (.v (.int .i64 l.length))), (9, .c (.v (.int .i64 ((k + 1 : Nat) : Int))))] [] [oldF w] 0 [(0, .c (.v (.int .i32 z))), (7, .c (.v (.slice A l.length c))), (8, .c (.v (.int .i64 l.length))), (9, .c (.v (.int .i64 ((k + 1 : Nat) : Int))))] [] [oldF w] := fun _ => Ent.mk' ⟨rfl, rfl, rfl, rfl, trivial⟩ rfl (fun β w hs => hs.lower)
    refine ⟨ad, k, hA, rfl, hkl, spanV x, rfl, fun β w' hs => ?_, ?_⟩
    · have h := Rd.old hr (hs.get 0 rfl)
      obtain ⟨hil, hie⟩ := List.getElem?_eq_some_iff.1 hx
      have h2 := Rd.elem (f := spanV) (fun _ => rfl) h hA hil
      rw [hie] at h2
      exact h2
    · refine BIf.dec (fun h1 => ?_) (fun h1 => ?_)
      · have h1' : x.1 ≤ z := h1
        refine BIf.dec (fun h2 => ?_) (fun h2 => ?_)
        · have h2' : z ≤ x.2 := h2
          intro β w' hs
          refine (hs.keepB (List.nil_sublist _)).fin [] ⟨?_, rfl⟩
          show Value.bool true = _
          congr 1
          refine (List.any_eq_true.2 ⟨x, hxm, ?_⟩).symm
          rw [decide_eq_true h1', decide_eq_true h2']
          rfl
        · have h2' : ¬ z ≤ x.2 := h2
          refine ⟨((k + 1 : Nat) : Int), by rw [wrap_i64 (by omega) (by omega)]; rfl, ?_⟩
          exact ⟨k + 1, ⟨hkl, by rw [hsn, decide_eq_false h2', Bool.and_false]⟩, by omega, Ent.mk' ⟨rfl, rfl, rfl, rfl, trivial⟩ rfl (fun β w hs => (hs.keepB (List.nil_sublist _)).lower)⟩
      · have h1' : ¬ x.1 ≤ z := h1
        refine ⟨((k + 1 : Nat) : Int), by rw [wrap_i64 (by omega) (by omega)]; rfl, ?_⟩
        exact ⟨k + 1, ⟨hkl, by rw [hsn, decide_eq_false h1', Bool.false_and]⟩, by omega, Ent.mk' ⟨rfl, rfl, rfl, rfl, trivial⟩ rfl (fun β w hs => (hs.keepB (List.nil_sublist _)).lower)⟩
  · have hge0 : ¬ (k : Int) < l.length := hge
    obtain rfl : k = l.length := by omega
    rw [List.take_length] at hno
    intro β w' hs
    refine hs.fin [] ⟨?_, rfl⟩
    rw [hno]
    rfl
abbrev Rn := Nat × Int
def runesAt (l : List UInt8) (i : Nat) : List Rn := if h : i < l.length then (i, runeI (Nam.decL (l.drop i)).1) :: runesAt l (i + max 1 (Nam.decL (l.drop i)).2) else []
termination_by l.length - i
decreasing_by omega
theorem runesAt_end {l : List UInt8} {i : Nat} (h : ¬ i < l.length) : runesAt l i = [] := by rw [runesAt, dif_neg h]
theorem drop_ne {l : List UInt8} {i : Nat} (h : i < l.length) : l.drop i ≠ [] := fun q => by
  have := congrArg List.length q
  rw [List.length_drop] at this
  simp at this
  omega
theorem runesAt_cons {l : List UInt8} {i : Nat} (h : i < l.length) : runesAt l i = (i, runeI (Nam.decL (l.drop i)).1) :: runesAt l (i + (Nam.decL (l.drop i)).2) := by
  have h1 := Nam.decL_size (drop_ne h)
  rw [runesAt, dif_pos h, Nat.max_eq_right h1.1]
theorem runesAt_vals (l : List UInt8) : ∀ (k i : Nat), l.length - i ≤ k → (runesAt l i).map (·.2) = (Nam.runes (l.drop i)).map runeI := by
  intro k
  induction k with
  | zero =>
    intro i h
    rw [runesAt_end (by omega), List.drop_eq_nil_of_le (by omega), Nam.runes_nil]
    rfl
  | succ k ih =>
    intro i h
    by_cases hi : i < l.length
    · have h1 := Nam.decL_size (drop_ne hi)
      rw [runesAt_cons hi, Nam.runes_cons (drop_ne hi), List.map_cons, List.map_cons, ih _ (by omega), List.drop_drop]
    · rw [runesAt_end hi, List.drop_eq_nil_of_le (by omega), Nam.runes_nil]
      rfl
def insR (t : List UInt8) (pre : List Rn) (x : Rn) (args : Array Value) (X : Fact) : Prop := args = #[.int .i64 (x.1 : Int), .int .i32 x.2] ∧ X = noF ∧ ∃ r, runesAt t 0 = pre ++ x :: r
def runesEnd (l : List UInt8) (J Jx : List Rn → Fact → Prop) (Fs : List Fact) : Prop :=
  ∃ f Fs', Fs = f :: Fs' ∧ ((∃ xs, J xs f ∧ xs = runesAt l 0 ∧ Fs' = []) ∨ (∃ pre, Jx pre f ∧ (∃ r, runesAt l 0 = pre ++ r) ∧ Fs' = []))
def formF : Fact := rdF 16 (some ⟨10, 0, none⟩) 1 formCells
theorem extract_drop (s : ByteArray) (i : Nat) : (s.extract i s.size).data.toList = s.data.toList.drop i := by
  rw [ByteArray.data_extract, Array.toList_extract, List.extract_eq_take_drop]
  rw [List.take_of_length_le]
  rw [List.length_drop]
  exact Nat.le_refl _
theorem runes_it (l : Nat) (w : World) (bx : Nat) (s : ByteArray) (f0 R : Fact) (J Jx : List Rn → Fact → Prop) (hJ0 : J [] f0) (hJo : ∀ pre f, J pre f → f.own = true) (hRo : R.own = false) (hY : Yc Tryz.prog l J Jx R (insR s.data.toList))
    (hl : s.size ≤ 1000000) (hm : Mem w (f0 :: R :: [bkF bx ty_string [.string s], formF])) :
    Con Tryz.prog n_name_Runes_1 #[.func (.yield l) #[] #[], .pointer (some ⟨bx, 0, none⟩)] w [f0, bkF bx ty_string [.string s]] (fun _ Fs => runesEnd s.data.toList J Jx Fs) := by
  have g := good_name_Runes_1 w (Un [f0, bkF bx ty_string [.string s]]) [bx]
  have hs0 : Sat (cx_name_Runes_1 w (Un [f0, bkF bx ty_string [.string s]]) [bx]) (Va.of fun _ => bx) 1 [] (f0 :: R :: [bkF bx ty_string [.string s], formF]) w := by
    refine hm.sat rfl (fun f hf ho k hk => ?_) ⟨Nat.le_refl 1, fun i hi => by obtain rfl : i = 0 := Nat.lt_one_iff.1 hi; rfl⟩
    simp only [List.mem_cons, List.not_mem_nil, or_false] at hf
    rcases hf with rfl | rfl | rfl | rfl
    · exact ⟨_, by simp, hk⟩
    · rw [hRo] at ho; cases ho
    · exact ⟨_, by simp, hk⟩
    · cases ho
  have hs1 := hs0.toBk 2 rfl 0 Nat.zero_lt_one rfl
  have hlen : s.data.toList.length = s.size := rfl
  have hml := maxLen_eq
  refine con_of_sx (cx := cx_name_Runes_1 w (Un [f0, bkF bx ty_string [.string s]]) [bx]) g b_name_Runes_1 rfl rfl (β := Va.of fun _ => bx) [.c (.v (.func (.yield l) #[] #[])), .c (.p 0 0)] 1 _ _ rfl rfl hs1 ?_
  refine loop_rule (ι := List Rn × Nat × Fact) 1 (fun i => [(0, .c (.v (.func (.yield l) #[] #[]))), (1, .c (.p 0 0)), (3, .c (.v (.int .i64 (i.2.1 : Int))))]) (fun _ => [⟨0, ty_string, [.v (.string s)]⟩]) (fun i => [i.2.2, R, formF])
    (fun i => J i.1 i.2.2 ∧ runesAt s.data.toList 0 = i.1 ++ runesAt s.data.toList i.2.1 ∧ i.2.1 ≤ s.size) (fun i => s.size - i.2.1) ([], 0, f0) ⟨hJ0, rfl, Nat.zero_le _⟩ (Ent.same ⟨rfl, rfl, rfl, trivial⟩ rfl) g ?_
  rintro ⟨pre, i, f⟩ ⟨hJ, hsc, hi⟩
  simp only at hJ hsc hi
  have hfo := hJo _ _ hJ
  simp only
  refine BIf.dec (fun hlt => ?_) (fun hge => ?_)
  · have hlt0 : (i : Int) < s.size := hlt
    have hil : i < s.data.toList.length := by omega
    refine ⟨s.size, i, rfl, rfl, Nat.le_refl _, hi, ?_⟩
    have hd := Nam.decL_size (drop_ne hil)
    rw [List.length_drop] at hd
    rw [runesAt_cons hil] at hsc
    obtain ⟨b0, t, hbt⟩ : ∃ b0 t, s.data.toList.drop i = b0 :: t := by
      cases h : s.data.toList.drop i with
      | nil => exact absurd h (drop_ne hil)
      | cons b t => exact ⟨b, t, rfl⟩
    obtain ⟨o, n, hon⟩ : ∃ o n, Nam.decL (s.data.toList.drop i) = (o, n) := ⟨_, _, rfl⟩
    rw [hon] at hd hsc
    simp only at hd hsc
    refine call_pu (v := .tuple #[.int .i32 (runeI o), .int .i64 (n : Int)]) (fun β w' hs => by
      have h := decode_c w' (s.extract i s.size) b0 t (by rw [extract_drop, hbt]) (by rw [ByteArray.size_extract]; omega) (hs.get 2 rfl)
      rw [← hbt, hon] at h
      exact h) ?_
    refine yield_ro (X := noF) (x := (i, runeI o)) hY 0 1 rfl hJ hfo rfl hRo (by decide) (fun β => ⟨rfl, rfl, _, hsc⟩) rfl (fun β w _ => ⟨trivial, fun k hk => hk.elim, fun k _ h => h.elim⟩) ?_ ?_
    · intro f2 hfo2 hJ2
      refine ⟨((i + n : Nat) : Int), by rw [wrap_i64 (by omega) (by omega)]; rfl, ?_⟩
      exact ⟨(pre ++ [(i, runeI o)], i + n, f2), ⟨hJ2, by show runesAt s.data.toList 0 = pre ++ [(i, runeI o)] ++ runesAt s.data.toList (i + n); rw [hsc]; simp, by show i + n ≤ s.size; omega⟩, by show s.size - (i + n) < s.size - i; omega, Ent.same ⟨rfl, rfl, rfl, trivial⟩ rfl⟩
    · intro f2 hfo2 hJ2 β w' hs
      exact (hs.keepB (List.nil_sublist _)).fin [0] ⟨f2, [], rfl, .inr ⟨_, hJ2, ⟨runesAt s.data.toList (i + n), by rw [hsc]; simp⟩, rfl⟩⟩ rfl rfl rfl ⟨hfo2, trivial⟩
  · have hge0 : ¬ (i : Int) < s.size := hge
    rw [runesAt_end (l := s.data.toList) (i := i) (by omega), List.append_nil] at hsc
    intro β w' hs
    exact (hs.keepB (List.nil_sublist _)).fin [0] ⟨f, [], rfl, .inl ⟨pre, hJ, hsc.symm, rfl⟩⟩ rfl rfl rfl ⟨hfo, trivial⟩
theorem runes_c (w : World) (s : ByteArray) : Con Tryz.prog n_name_Runes #[.string s] w [] (fun v Fs => ∃ bx, v = .func (.func n_name_Runes_1) #[] #[.pointer (some ⟨bx, 0, none⟩)] ∧ Fs = [bkF bx ty_string [.string s]]) := by
  refine con_of_sx (cx := cx_name_Runes w (Un [])) (good_name_Runes w (Un [])) b_name_Runes rfl rfl (β := Va.z) [.c (.v (.string s))] 0 [] [] rfl rfl (Sat.start rfl) ?_
  intro β w' hs
  exact hs.ofBk.fin [0] ⟨β 0, rfl, rfl⟩
def validB (l : List UInt8) : Bool := (Nam.runes l).all Option.isSome
theorem runeI_none {o : Option Nat} : runeI o = -1 ↔ o = none := by
  cases o with
  | none => simp [runeI]
  | some r =>
    simp only [runeI]
    constructor
    · intro h; omega
    · intro h; cases h
theorem valid_iff (l : List UInt8) : validB l = true ↔ ∀ x ∈ runesAt l 0, x.2 ≠ -1 := by
  have h := runesAt_vals l _ 0 (Nat.le_refl _)
  rw [List.drop_zero] at h
  unfold validB
  rw [List.all_eq_true]
  constructor
  · intro hv x hx q
    have : x.2 ∈ (runesAt l 0).map (·.2) := List.mem_map.2 ⟨x, hx, rfl⟩
    rw [h] at this
    obtain ⟨o, ho, hq⟩ := List.mem_map.1 this
    have h2 := hv o ho
    rw [q] at hq
    rw [runeI_none.1 hq] at h2
    cases h2
  · intro hv o ho
    cases o with
    | some r => rfl
    | none =>
      have : runeI none ∈ (Nam.runes l).map runeI := List.mem_map.2 ⟨none, ho, rfl⟩
      rw [← h] at this
      obtain ⟨x, hx, hq⟩ := List.mem_map.1 this
      exact absurd hq (hv x hx)
theorem valid_c (w0 : World) (s : ByteArray) (hl : s.size ≤ 1000000) (hf : Forms 10 w0) : Pu Tryz.prog n_name_Valid #[.string s] w0 (.bool (validB s.data.toList)) := by
  have g := good_name_Valid w0 (Un [])
  refine con_of_sx (cx := cx_name_Valid w0 (Un [])) g b_name_Valid rfl rfl (β := Va.z) [.c (.v (.string s))] 0 [] [formF] rfl rfl ((Sat.start rfl).rd (fun _ h => by cases h) hf) ?_
  refine call_con [] (fun β w hs => runes_c w s) ?_
  rintro v Fs ⟨bx, rfl, rfl⟩
  refine range_rule (α := Rn) (ι := Unit) (κ := Unit) g rfl (cv := [.pointer (some ⟨bx, 0, none⟩)]) rfl (by kernel_rfl) 1 (Nat.le_refl 1)
    (fun pre _ => ∀ x ∈ pre, x.2 ≠ -1) (fun _ => [⟨0, ty_bool, [.v (.bool false)]⟩]) (fun _ => []) (fun _ => trivial)
    (fun e pre _ => e = .ret ∧ ∃ x ∈ pre, x.2 = -1) (fun _ => [⟨0, ty_bool, [.v (.bool false)]⟩]) (fun _ => []) (fun _ => trivial)
    [bkF bx ty_string [.string s]] [formF] [] ⟨rfl, trivial⟩ (fun g h => by cases h) () (fun x h => by cases h) (fun β w hs => ⟨β, Agr.refl _ _, hs⟩) (insR s.data.toList)
    (fun xs Fs' => xs = runesAt s.data.toList 0 ∧ Fs' = []) (fun pre Fs' => (∃ r, runesAt s.data.toList 0 = pre ++ r) ∧ Fs' = [])
    (fun l w f0 R J Jx hJ0 hJo hRo hY hm => (runes_it l w bx s f0 R J Jx hJ0 hJo hRo hY hl hm).mono fun _ Fs h => h) ?_ ?_ ?_
  · rintro ⟨⟩ pre x args X W S l bs pn pn' hbs hpre ⟨rfl, rfl, _⟩
    refine ⟨_, rfl, ?_⟩
    refine BIf.dec (fun h3 => ?_) (fun h3 => ?_)
    · have h30 : x.2 = -1 := h3
      exact ⟨(), ⟨rfl, x, by simp, h30⟩, Ent.mk' trivial rfl (fun β w hs => (hs.perm []).lower (n' := 1))⟩
    · have h30 : ¬ x.2 = -1 := h3
      refine ⟨(), ?_, Ent.mk' trivial rfl (fun β w hs => (hs.perm []).lower (n' := 1))⟩
      intro y hy
      rcases List.mem_append.1 hy with hy | hy
      · exact hpre y hy
      · obtain rfl := List.mem_singleton.1 hy; exact h30
  · rintro xs ⟨⟩ Fs hpre ⟨rfl, rfl⟩
    intro β w' hs
    refine (hs.keepB (List.nil_sublist _)).fin [] ⟨?_, rfl⟩
    rw [(valid_iff _).2 hpre]
    rfl
  · rintro e pre ⟨⟩ Fs ⟨rfl, x, hx, hxe⟩ ⟨⟨r, hr⟩, rfl⟩
    intro β w' hs
    refine (hs.keepB (List.nil_sublist _)).fin [] ⟨?_, rfl⟩
    have : validB s.data.toList = false := by
      cases h : validB s.data.toList with
      | false => rfl
      | true => exact absurd hxe ((valid_iff _).1 h x (by rw [hr]; exact List.mem_append.2 (.inl hx)))
    rw [this]
    rfl
def blanksL : List Sp := [(0xa0, 0xa0), (0x1680, 0x1680), (0x2000, 0x200a), (0x202f, 0x202f), (0x205f, 0x205f), (0x3000, 0x3000)]
def nothingL : List Sp := [(0xad, 0xad), (0x200b, 0x200d), (0x2060, 0x2060), (0xfe00, 0xfe0f), (0xfeff, 0xfeff)]
def barredL : List Sp := [(0, 0x1f), (0x7f, 0x9f), (0x2028, 0x2029), (0x202a, 0x202e), (0x2066, 0x2069), (0xe000, 0xf8ff), (0xf0000, 0x10ffff), (0xfff9, 0xfffd), (0xfdd0, 0xfdef)]
def spansF (g : Nat) (l : List Sp) : Fact := rdF 2 (some ⟨g, 0, none⟩) l.length (l.flatMap spanV)
def prep1 (z : Int) : List Int := if inSp z blanksL = true then [32] else if inSp z nothingL = true then [] else [z]
def prepAt (l : List Rn) : List Int := l.flatMap fun x => prep1 x.2
def insPr (t : List UInt8) (pre : List Int) (z : Int) (args : Array Value) (X : Fact) : Prop := args = #[.int .i32 z] ∧ X = noF ∧ ∃ r, prepAt (runesAt t 0) = pre ++ z :: r
def prepEnd (t : List UInt8) (J Jx : List Int → Fact → Prop) (Fs : List Fact) : Prop :=
  ∃ f Fs', Fs = f :: Fs' ∧ ((∃ xs, J xs f ∧ xs = prepAt (runesAt t 0) ∧ Fs' = []) ∨ (∃ pre, Jx pre f ∧ (∃ r, prepAt (runesAt t 0) = pre ++ r) ∧ Fs' = []))
abbrev OF := { f : Fact // f.own = true }
theorem prep_it (l : Nat) (w : World) (bx : Nat) (s : ByteArray) (f0 R : Fact) (J Jx : List Int → Fact → Prop) (hJ0 : J [] f0) (hJo : ∀ pre f, J pre f → f.own = true) (hRo : R.own = false) (hY : Yc Tryz.prog l J Jx R (insPr s.data.toList))
    (hl : s.size ≤ 1000000) (hm : Mem w (f0 :: R :: [bkF bx ty_string [.string s], formF, spansF 8 blanksL, spansF 9 nothingL])) :
    Con Tryz.prog n_name_prepared_1 #[.func (.yield l) #[] #[], .pointer (some ⟨bx, 0, none⟩)] w [f0, bkF bx ty_string [.string s]] (fun _ Fs => prepEnd s.data.toList J Jx Fs) := by
  have g := good_name_prepared_1 w (Un [f0, bkF bx ty_string [.string s]]) [bx]
  have hf0 := hJo _ _ hJ0
  have hs0 : Sat (cx_name_prepared_1 w (Un [f0, bkF bx ty_string [.string s]]) [bx]) (Va.of fun _ => bx) 1 [] (f0 :: R :: [bkF bx ty_string [.string s], formF, spansF 8 blanksL, spansF 9 nothingL]) w := by
    refine hm.sat rfl (fun f hf ho k hk => ?_) ⟨Nat.le_refl 1, fun i hi => by obtain rfl : i = 0 := Nat.lt_one_iff.1 hi; rfl⟩
    simp only [List.mem_cons, List.not_mem_nil, or_false] at hf
    rcases hf with rfl | rfl | rfl | rfl | rfl | rfl
    · exact ⟨_, by simp, hk⟩
    · rw [hRo] at ho; cases ho
    · exact ⟨_, by simp, hk⟩
    · cases ho
    · cases ho
    · cases ho
  have hs1 := hs0.toBk 2 rfl 0 Nat.zero_lt_one rfl
  refine con_of_sx (cx := cx_name_prepared_1 w (Un [f0, bkF bx ty_string [.string s]]) [bx]) g b_name_prepared_1 rfl rfl (β := Va.of fun _ => bx) [.c (.v (.func (.yield l) #[] #[])), .c (.p 0 0)] 1 _ _ rfl rfl hs1 ?_
  refine call_con [] (fun β w hs => runes_c w s) ?_
  rintro v Fs ⟨bx2, rfl, rfl⟩
  refine range_rule (α := Rn) (ι := OF) (κ := OF) g rfl (cv := [.pointer (some ⟨bx2, 0, none⟩)]) rfl (by kernel_rfl) 2 (Nat.le_refl 2)
    (fun pre i => J (prepAt pre) i.1) (fun _ => [⟨1, 362, [.v (.func (.yield l) #[] #[])]⟩]) (fun i => [i.1]) (fun i => ⟨i.2, trivial⟩)
    (fun e pre i => e = .ret ∧ ∃ p, (∃ r, prepAt pre = p ++ r) ∧ Jx p i.1) (fun _ => [⟨1, 362, [.v (.func (.yield l) #[] #[])]⟩]) (fun i => [i.1]) (fun i => ⟨i.2, trivial⟩)
    [bkF bx2 ty_string [.string s]] [formF] [R, spansF 8 blanksL, spansF 9 nothingL] ⟨rfl, trivial⟩ (fun g h => by
      simp only [List.mem_cons, List.not_mem_nil, or_false] at h
      rcases h with rfl | rfl | rfl
      · exact hRo
      · rfl
      · rfl) ⟨f0, hf0⟩ hJ0 (fun β w hs => ⟨β, Agr.refl _ _, ?_⟩) (insR s.data.toList)
    (fun xs Fs' => xs = runesAt s.data.toList 0 ∧ Fs' = []) (fun pre Fs' => (∃ r, runesAt s.data.toList 0 = pre ++ r) ∧ Fs' = [])
    (fun l w f0 R J Jx hJ0 hJo hRo hY hm => (runes_it l w bx2 s f0 R J Jx hJ0 hJo hRo hY hl hm).mono fun _ Fs h => h) ?_ ?_ ?_
  · exact (hs.keepB (List.Sublist.cons_cons _ (List.nil_sublist _))).perm [0, 3, 1, 2, 4, 5]
  · rintro ⟨f, hfo⟩ pre x args X W S l' bs pn pn' hbs hJ ⟨rfl, rfl, r0, hxr⟩
    simp only at hJ
    refine ⟨_, rfl, ?_⟩
    obtain ⟨b1, hb1⟩ : ∃ b1, inSp x.2 blanksL = b1 := ⟨_, rfl⟩
    obtain ⟨b2, hb2⟩ : ∃ b2, inSp x.2 nothingL = b2 := ⟨_, rfl⟩
    refine ⟨6, 6, 0, 6, 6, _, rfl, rfl, rfl, Nat.le_refl _, Nat.le_refl _, Nat.zero_le _, rfl, rfl, rfl, ?_⟩
    refine call_pu (v := .bool b1) (fun β w' hs => by
      have h := within_c w' x.2 (some ⟨8, 0, none⟩) blanksL 6 (hs.get 3 rfl) (by decide)
      rw [hb1] at h
      exact h) ?_
    have hsn : prepAt (pre ++ [x]) = prepAt pre ++ prep1 x.2 := by simp [prepAt]
    cases b1 with
    | true =>
      have hz : prep1 x.2 = [32] := by unfold prep1; rw [if_pos hb1]
      refine yield_ro (X := noF) (x := 32) hY 1 2 rfl hJ hfo rfl hRo (by decide) (fun β => ⟨rfl, rfl, prepAt r0, by rw [hxr]; simp [prepAt, hz]⟩) rfl (fun β w _ => ⟨trivial, fun k hk => hk.elim, fun k _ h => h.elim⟩) ?_ ?_
      · intro f2 hfo2 hJ2
        exact ⟨⟨f2, hfo2⟩, by show J (prepAt (pre ++ [x])) f2; rw [hsn, hz]; exact hJ2, Ent.mk' trivial rfl (fun β w hs => (hs.perm [0]).lower (n' := 2))⟩
      · intro f2 hfo2 hJ2
        exact ⟨⟨f2, hfo2⟩, ⟨rfl, prepAt pre ++ [32], ⟨[], by rw [hsn, hz]; simp⟩, hJ2⟩, Ent.mk' trivial rfl (fun β w hs => (hs.perm [0]).lower (n' := 2))⟩
    | false =>
      refine ⟨5, 5, 0, 5, 5, _, rfl, rfl, rfl, Nat.le_refl _, Nat.le_refl _, Nat.zero_le _, rfl, rfl, rfl, ?_⟩
      refine call_pu (v := .bool b2) (fun β w' hs => by
        have h := within_c w' x.2 (some ⟨9, 0, none⟩) nothingL 5 (hs.get 4 rfl) (by decide)
        rw [hb2] at h
        exact h) ?_
      cases b2 with
      | true =>
        have hz : prep1 x.2 = [] := by unfold prep1; rw [if_neg (by rw [hb1]; decide), if_pos hb2]
        exact ⟨⟨f, hfo⟩, by show J (prepAt (pre ++ [x])) f; rw [hsn, hz, List.append_nil]; exact hJ, Ent.mk' trivial rfl (fun β w hs => (hs.perm [1]).lower (n' := 2))⟩
      | false =>
        have hz : prep1 x.2 = [x.2] := by unfold prep1; rw [if_neg (by rw [hb1]; decide), if_neg (by rw [hb2]; decide)]
        refine yield_ro (X := noF) (x := x.2) hY 1 2 rfl hJ hfo rfl hRo (by decide) (fun β => ⟨rfl, rfl, prepAt r0, by rw [hxr]; simp [prepAt, hz]⟩) rfl (fun β w _ => ⟨trivial, fun k hk => hk.elim, fun k _ h => h.elim⟩) ?_ ?_
        · intro f2 hfo2 hJ2
          exact ⟨⟨f2, hfo2⟩, by show J (prepAt (pre ++ [x])) f2; rw [hsn, hz]; exact hJ2, Ent.mk' trivial rfl (fun β w hs => (hs.perm [0]).lower (n' := 2))⟩
        · intro f2 hfo2 hJ2
          exact ⟨⟨f2, hfo2⟩, ⟨rfl, prepAt pre ++ [x.2], ⟨[], by rw [hsn, hz]; simp⟩, hJ2⟩, Ent.mk' trivial rfl (fun β w hs => (hs.perm [0]).lower (n' := 2))⟩
  · rintro xs ⟨f, hfo⟩ Fs hJ ⟨rfl, rfl⟩
    intro β w' hs
    exact (hs.keepB (List.nil_sublist _)).fin [0] ⟨f, [], rfl, .inl ⟨_, hJ, rfl, rfl⟩⟩ rfl rfl rfl ⟨hfo, trivial⟩
  · rintro e pre ⟨f, hfo⟩ Fs ⟨rfl, p, ⟨r, hp⟩, hJx⟩ ⟨⟨r2, hr⟩, rfl⟩
    intro β w' hs
    refine (hs.keepB (List.nil_sublist _)).fin [0] ⟨f, [], rfl, .inr ⟨p, hJx, ⟨r ++ prepAt r2, ?_⟩, rfl⟩⟩ rfl rfl rfl ⟨hfo, trivial⟩
    rw [hr, prepAt, List.flatMap_append, ← prepAt, hp, List.append_assoc]
    rfl
theorem prepared_c (w : World) (s : ByteArray) : Con Tryz.prog n_name_prepared #[.string s] w [] (fun v Fs => ∃ bx, v = .func (.func n_name_prepared_1) #[] #[.pointer (some ⟨bx, 0, none⟩)] ∧ Fs = [bkF bx ty_string [.string s]]) := by
  refine con_of_sx (cx := cx_name_prepared w (Un [])) (good_name_prepared w (Un [])) b_name_prepared rfl rfl (β := Va.z) [.c (.v (.string s))] 0 [] [] rfl rfl (Sat.start rfl) ?_
  intro β w' hs
  exact hs.ofBk.fin [0] ⟨β 0, rfl, rfl⟩
def form0 : Nam.Fm := ⟨1, 0x80, 0, 0⟩
def pickF (r : Nat) (f g : Nam.Fm) : Nam.Fm := if g.least ≤ r then g else f
def formOf (r : Nat) : Nam.Fm := Nam.fms.foldl (pickF r) form0
def encGo (f : Nam.Fm) (r : Nat) : Nat → List UInt8
  | 0 => []
  | k + 1 => (if k = f.size - 1 then f.lead ||| UInt8.ofNat (r / 2 ^ (6 * k)) else 128 ||| (UInt8.ofNat (r / 2 ^ (6 * k)) &&& 63)) :: encGo f r k
def encL (r : Nat) : List UInt8 := encGo (formOf r) r (formOf r).size
theorem encGo_len (f : Nam.Fm) (r : Nat) : ∀ k, (encGo f r k).length = k
  | 0 => rfl
  | k + 1 => by simp [encGo, encGo_len f r k]
theorem fold_mem (r : Nat) : ∀ (l : List Nam.Fm) (f : Nam.Fm), f ∈ Nam.fms → (∀ g ∈ l, g ∈ Nam.fms) → l.foldl (pickF r) f ∈ Nam.fms
  | [], _, hf, _ => hf
  | g :: l, f, hf, h => by
    rw [List.foldl_cons]
    refine fold_mem r l _ ?_ (fun x hx => h x (List.mem_cons_of_mem _ hx))
    unfold pickF
    split
    · exact h g List.mem_cons_self
    · exact hf
theorem form0_mem : form0 ∈ Nam.fms := List.mem_cons_self
structure EnS where
  k : Nat
  acc : List UInt8
  A : Option Addr
  c : Nat
theorem append_c (w : World) (A : Option Addr) (l : List UInt8) (c r : Nat) (z : Int) (hz : z = (r : Int)) (hr31 : r ≤ 1114111) (hsg : Nam.sign r = true) (hr : Bs w A l) (hn : l.length ≤ 1000000000) (hf : Forms 10 w) :
    Con Tryz.prog n_name_Append #[.slice A l.length c, .int .i32 z] w [] fun v Fs => ∃ A' c', v = .slice A' (l ++ encL r).length c' ∧ (l ++ encL r).length ≤ c' ∧ c' ≤ maxLen ∧ Fs = [browF ty_uint8 A' (l ++ encL r) c'] := by
  have g := good_name_Append w (Un [])
  have hml := maxLen_eq
  refine con_of_sx (cx := cx_name_Append w (Un [])) g b_name_Append rfl rfl (β := Va.z) [.c (.v (.slice A l.length c)), .c (.v (.int .i32 z))] 0 [] [oldF w] rfl rfl (old_sat rfl) ?_
  refine call_pu (v := .bool true) (fun β w' hs => by
    have h := sign_c w' z r hz
    rw [hsg] at h
    exact h) ?_
  refine call_con [] (fun β w' hs => clone_c w' A l c (Rd.old hr (hs.get 0 rfl)) (by omega)) ?_
  rintro v Fs ⟨A1, c1, rfl, h1, h1m, rfl⟩
  have hcell : ∀ w', (oldF w).p w' → ∀ j u, formCells[j]? = some u → w'.cell? ((⟨10, 0, none⟩ : Addr).add j) = some u := by
    intro w' ho j u hu
    obtain ⟨ad, q, hc⟩ := (Forms.old hf ho).2 (by decide)
    cases q
    exact hc j u hu
  refine ⟨0, rfl, by decide, ?_⟩
  refine ⟨formV form0, rfl, fun β w' hs => ?_, ?_⟩
  · intro j u hu
    have hj : j < 4 := (List.getElem?_eq_some_iff.1 hu).1
    refine hcell w' (hs.get 1 rfl) j u ?_
    have : formCells[j]? = (formV form0)[j]? := by
      match j, hj with
      | 0, _ => rfl
      | 1, _ => rfl
      | 2, _ => rfl
      | 3, _ => rfl
    rw [this, hu]
  refine ⟨formCells, rfl, fun β w' hs => hcell w' (hs.get 1 rfl), ?_⟩
  refine loop_rule (ι := Nat) 1 (fun i => [(1, .c (.v (.int .i32 z))), (5, .c (.v (.slice A1 l.length c1))), (6, .c (.p 0 0)), (18, .agg (formCells.map SL.v)), (19, .c (.v (.int .i64 (i : Int))))]) (fun i => [⟨0, ty_name_form, (formV ((Nam.fms.take i).foldl (pickF r) form0)).map SL.v⟩]) (fun _ => [browF ty_uint8 A1 l c1, oldF w])
    (fun i => i ≤ 4) (fun i => 4 - i) 0 (Nat.zero_le _) (Ent.same ⟨rfl, rfl, rfl, rfl, rfl, trivial⟩ rfl) g ?_
  intro i hi
  refine BIf.dec (fun hlt => ?_) (fun hge => ?_)
  · have hlt0 : (i : Int) < 4 := hlt
    have hi4 : i < Nam.fms.length := by show i < 4; omega
    obtain ⟨f, hfi, hfm⟩ := at_lt hi4
    have hfold : (Nam.fms.take (i + 1)).foldl (pickF r) form0 = pickF r ((Nam.fms.take i).foldl (pickF r) form0) f := by
      rw [List.take_add_one, hfi, List.foldl_append]
      rfl
    refine ⟨i, (formV f).map SL.v, rfl, by omega, form_at hfi, ?_⟩
    refine BIf.dec (fun hls => ?_) (fun hls => ?_)
    · have hls1 : (f.least : Int) ≤ z := hls
      rw [pickF, if_pos (by omega)] at hfold
      refine ⟨((i + 1 : Nat) : Int), by rw [wrap_i64 (by omega) (by omega)]; rfl, ?_⟩
      refine ⟨i + 1, by omega, by omega, ?_⟩
      rw [hfold]
      exact Ent.mk' ⟨rfl, rfl, rfl, rfl, rfl, trivial⟩ rfl (fun β w hs => (hs.keepB (List.sublist_cons_self _ _)).lower)
    · have hls1 : ¬ (f.least : Int) ≤ z := hls
      rw [pickF, if_neg (by omega)] at hfold
      refine ⟨((i + 1 : Nat) : Int), by rw [wrap_i64 (by omega) (by omega)]; rfl, ?_⟩
      refine ⟨i + 1, by omega, by omega, ?_⟩
      rw [hfold]
      exact Ent.mk' ⟨rfl, rfl, rfl, rfl, rfl, trivial⟩ rfl (fun β w hs => (hs.keepB (List.sublist_cons_self _ _)).lower)
  · have hge0 : ¬ (i : Int) < 4 := hge
    obtain rfl : i = 4 := by omega
    have hfe : (Nam.fms.take 4).foldl (pickF r) form0 = formOf r := rfl
    rw [hfe]
    have hfs := form_size (fold_mem r Nam.fms form0 form0_mem (fun _ h => h))
    change 1 ≤ (formOf r).size ∧ (formOf r).size ≤ 4 ∧ _ at hfs
    unfold encL
    generalize formOf r = f at hfs ⊢
    refine ⟨(f.size : Int) - 1, wrap_i64 (by omega) (by omega), ?_⟩
    refine loop_rule (ι := EnS) 1 (fun i => [(1, .c (.v (.int .i32 z))), (5, .c (.v (.slice i.A i.acc.length i.c))), (6, .c (.p 0 0)), (9, .c (.v (.int .i64 ((i.k : Int) - 1))))]) (fun _ => [⟨0, ty_name_form, (formV f).map SL.v⟩]) (fun i => [browF ty_uint8 i.A i.acc i.c, oldF w])
      (fun i => i.acc ++ encGo f r i.k = l ++ encGo f r f.size ∧ i.k ≤ f.size ∧ i.acc.length ≤ i.c ∧ i.c ≤ maxLen ∧ i.acc.length + i.k = l.length + f.size) (fun i => i.k) ⟨f.size, l, A1, c1⟩ ⟨rfl, Nat.le_refl _, h1, h1m, rfl⟩ (Ent.same ⟨rfl, rfl, rfl, rfl, trivial⟩ rfl) g ?_
    rintro ⟨k, acc, A2, c2⟩ ⟨hinv, hk, hac, hcm, hlen⟩
    simp only at hinv hk hac hcm hlen
    simp only
    refine BIf.dec (fun hp => ?_) (fun hp => ?_)
    · have hp0 : (0 : Int) ≤ (k : Int) - 1 := hp
      obtain ⟨k', rfl⟩ : ∃ k', k = k' + 1 := ⟨k - 1, by omega⟩
      refine ⟨((6 * k' : Nat) : Int), by rw [wrap_i64 (by omega) (by omega)]; omega, ?_⟩
      refine ⟨by omega, ((r / 2 ^ (6 * k') : Nat) : Int), ?_, ?_⟩
      · have hmin : min ((6 * k' : Nat) : Int).toNat IntKind.i32.bits = 6 * k' := by show min (6 * k') 32 = _; omega
        rw [hmin, hz]
        exact shr_nat r (6 * k')
      refine ⟨(f.size : Int) - 1, wrap_i64 (by omega) (by omega), ?_⟩
      refine BIf.dec (fun he => ?_) (fun he => ?_)
      · have he0 : ((k' + 1 : Nat) : Int) - 1 = (f.size : Int) - 1 := he
        have henc : encGo f r (k' + 1) = (f.lead ||| UInt8.ofNat (r / 2 ^ (6 * k'))) :: encGo f r k' := by rw [encGo, if_pos (by omega)]
        refine ⟨_, wrap_u8b _, ?_⟩
        refine ⟨_, or8 f.lead (UInt8.ofNat (r / 2 ^ (6 * k'))), ?_⟩
        intro b0
        refine ⟨1, acc.length, acc.length + 1, acc.map byte, [f.lead ||| UInt8.ofNat (r / 2 ^ (6 * k'))].map byte, (acc ++ [f.lead ||| UInt8.ofNat (r / 2 ^ (6 * k'))]).map byte, rfl, fun β w hs => row_rd (hs.get 0 rfl), bytes_one _, rfl, List.map_append.symm, by rw [maxLen_eq]; omega, by show (acc.length + 1) * 1 ≤ _; omega, ?_⟩
        intro A' c' q1 q2 _
        refine ⟨(k' : Int) - 1, by rw [wrap_i64 (by omega) (by omega)]; omega, ?_⟩
        have hle : (acc ++ [f.lead ||| UInt8.ofNat (r / 2 ^ (6 * k'))]).length = acc.length + 1 := by simp
        refine ⟨⟨k', acc ++ [f.lead ||| UInt8.ofNat (r / 2 ^ (6 * k'))], A', c'⟩, ⟨by rw [← hinv, henc]; simp, by show k' ≤ f.size; omega, by show (acc ++ [f.lead ||| UInt8.ofNat (r / 2 ^ (6 * k'))]).length ≤ c'; omega, q2, by show (acc ++ [f.lead ||| UInt8.ofNat (r / 2 ^ (6 * k'))]).length + k' = _; omega⟩, by show k' < k' + 1; omega, ?_⟩
        simp only [browF, hle]
        exact Ent.mk' ⟨rfl, rfl, rfl, rfl, trivial⟩ rfl (fun β w hs => hs.weaken (List.Sublist.refl _) (List.sublist_cons_self _ _))
      · have he0 : ¬ ((k' + 1 : Nat) : Int) - 1 = (f.size : Int) - 1 := he
        have henc : encGo f r (k' + 1) = (128 ||| (UInt8.ofNat (r / 2 ^ (6 * k')) &&& 63)) :: encGo f r k' := by rw [encGo, if_neg (by omega)]
        refine ⟨_, wrap_u8b _, ?_⟩
        refine ⟨_, and8 (UInt8.ofNat (r / 2 ^ (6 * k'))) 63, ?_⟩
        refine ⟨_, or8 128 (UInt8.ofNat (r / 2 ^ (6 * k')) &&& 63), ?_⟩
        intro b0
        refine ⟨1, acc.length, acc.length + 1, acc.map byte, [128 ||| (UInt8.ofNat (r / 2 ^ (6 * k')) &&& 63)].map byte, (acc ++ [128 ||| (UInt8.ofNat (r / 2 ^ (6 * k')) &&& 63)]).map byte, rfl, fun β w hs => row_rd (hs.get 0 rfl), bytes_one _, rfl, List.map_append.symm, by rw [maxLen_eq]; omega, by show (acc.length + 1) * 1 ≤ _; omega, ?_⟩
        intro A' c' q1 q2 _
        refine ⟨(k' : Int) - 1, by rw [wrap_i64 (by omega) (by omega)]; omega, ?_⟩
        have hle : (acc ++ [128 ||| (UInt8.ofNat (r / 2 ^ (6 * k')) &&& 63)]).length = acc.length + 1 := by simp
        refine ⟨⟨k', acc ++ [128 ||| (UInt8.ofNat (r / 2 ^ (6 * k')) &&& 63)], A', c'⟩, ⟨by rw [← hinv, henc]; simp, by show k' ≤ f.size; omega, by show (acc ++ [128 ||| (UInt8.ofNat (r / 2 ^ (6 * k')) &&& 63)]).length ≤ c'; omega, q2, by show (acc ++ [128 ||| (UInt8.ofNat (r / 2 ^ (6 * k')) &&& 63)]).length + k' = _; omega⟩, by show k' < k' + 1; omega, ?_⟩
        simp only [browF, hle]
        exact Ent.mk' ⟨rfl, rfl, rfl, rfl, trivial⟩ rfl (fun β w hs => hs.weaken (List.Sublist.refl _) (List.sublist_cons_self _ _))
    · have hp0 : ¬ (0 : Int) ≤ (k : Int) - 1 := hp
      obtain rfl : k = 0 := by omega
      simp only [encGo, List.append_nil] at hinv
      intro β w' hs
      refine (hs.keepB (List.nil_sublist _)).fin [0] ⟨A2, c2, by rw [← hinv]; rfl, by rw [← hinv]; exact hac, hcm, by rw [← hinv]; rfl⟩
end Go.Proofs.YteenjgfbbkdlhaaGreatDoor.Sx

namespace Go.Proofs.YteenjgfbbkdlhaaGreatDoor.Sx
open Go
theorem decL_sign {s : List UInt8} {r : Nat} (h : (Nam.decL s).1 = some r) : Nam.sign r = true := by
  unfold Nam.decL at h
  split at h
  · rename_i f hf
    split at h
    · rename_i q hq
      obtain rfl := Option.some.inj h
      unfold Nam.tryF at hq
      split at hq
      · cases hq
      · split at hq
        · split at hq
          · rename_i hh
            obtain rfl := Option.some.inj hq
            exact hh.2
          · cases hq
        · cases hq
    · cases h
  · cases h
theorem runes_sign {r : Nat} : ∀ (k : Nat) (l : List UInt8), l.length ≤ k → some r ∈ Nam.runes l → Nam.sign r = true := by
  intro k
  induction k with
  | zero =>
    intro l h hm
    obtain rfl : l = [] := List.length_eq_zero_iff.1 (by omega)
    rw [Nam.runes_nil] at hm
    cases hm
  | succ k ih =>
    intro l h hm
    by_cases hl : l = []
    · subst hl
      rw [Nam.runes_nil] at hm
      cases hm
    · have h1 := Nam.decL_size hl
      rw [Nam.runes_cons hl] at hm
      rcases List.mem_cons.1 hm with hm | hm
      · exact decL_sign hm.symm
      · exact ih _ (by rw [List.length_drop]; omega) hm
def prepO (l : List (Option Nat)) : List Int := l.flatMap fun o => prep1 (runeI o)
theorem prepAt_runes (l : List UInt8) : prepAt (runesAt l 0) = prepO (Nam.runes l) := by
  have h := runesAt_vals l _ 0 (Nat.le_refl _)
  rw [List.drop_zero] at h
  have e1 : prepAt (runesAt l 0) = ((runesAt l 0).map (·.2)).flatMap prep1 := by rw [prepAt, List.flatMap_map]
  rw [e1, h, List.flatMap_map]
  rfl
theorem sign_le {r : Nat} (h : Nam.sign r = true) : r ≤ 1114111 := by
  unfold Nam.sign at h
  simp only [Bool.and_eq_true, decide_eq_true_eq] at h
  exact h.1
theorem prep_sign {l : List UInt8} (hv : validB l = true) {z : Int} (hz : z ∈ prepAt (runesAt l 0)) : ∃ r : Nat, z = (r : Int) ∧ Nam.sign r = true ∧ r ≤ 1114111 := by
  rw [prepAt_runes] at hz
  obtain ⟨o, ho, hz⟩ := List.mem_flatMap.1 hz
  cases o with
  | none =>
    have := List.all_eq_true.1 hv none ho
    cases this
  | some r =>
    have hs := runes_sign l.length l (Nat.le_refl _) ho
    unfold prep1 at hz
    split at hz
    · obtain rfl := List.mem_singleton.1 hz
      exact ⟨32, rfl, by decide, by decide⟩
    · split at hz
      · cases hz
      · obtain rfl := List.mem_singleton.1 hz
        exact ⟨r, rfl, hs, sign_le hs⟩
def badZ (z : Int) : Bool := inSp z barredL || decide (bits .and .i32 z 65534 = 65534)
def encZ (z : Int) : List UInt8 := encL z.toNat
def prepF (l : List UInt8) : List UInt8 × Int :=
  if validB l = true then if (prepAt (runesAt l 0)).any badZ = true then ([], 5) else ((prepAt (runesAt l 0)).flatMap encZ, 0) else ([], 4)
end Go.Proofs.YteenjgfbbkdlhaaGreatDoor.Sx

namespace Go.Proofs.YteenjgfbbkdlhaaGreatDoor.Sx
open Go
attribute [local irreducible] Calls
def mkS (l : List UInt8) : ByteArray := ⟨l.toArray⟩
theorem encZ_len (z : Int) : (encZ z).length ≤ 4 := by
  unfold encZ encL
  rw [encGo_len]
  have := form_size (fold_mem z.toNat Nam.fms form0 form0_mem (fun _ h => h))
  exact this.2.1
theorem prep1_len (z : Int) : (prep1 z).length ≤ 1 := by
  unfold prep1
  split
  · exact Nat.le_refl _
  · split
    · exact Nat.zero_le _
    · exact Nat.le_refl _
theorem runesAt_len (l : List UInt8) : ∀ (k i : Nat), l.length - i ≤ k → (runesAt l i).length ≤ l.length - i := by
  intro k
  induction k with
  | zero => intro i h; rw [runesAt_end (by omega)]; exact Nat.zero_le _
  | succ k ih =>
    intro i h
    by_cases hi : i < l.length
    · have h1 := Nam.decL_size (drop_ne hi)
      rw [runesAt_cons hi, List.length_cons]
      have := ih (i + (Nam.decL (l.drop i)).2) (by omega)
      omega
    · rw [runesAt_end hi]; exact Nat.zero_le _
theorem flat_le {α β : Type} (f : α → List β) (n : Nat) (h : ∀ x, (f x).length ≤ n) : ∀ l : List α, (l.flatMap f).length ≤ n * l.length
  | [] => by simp
  | x :: r => by
    rw [List.flatMap_cons, List.length_append, List.length_cons]
    have h1 := h x
    have h2 := flat_le f n h r
    rw [Nat.mul_succ]
    omega
theorem prepAt_len (l : List UInt8) : (prepAt (runesAt l 0)).length ≤ l.length := by
  have h1 := flat_le (fun x : Rn => prep1 x.2) 1 (fun x => prep1_len x.2) (runesAt l 0)
  have h2 := runesAt_len l _ 0 (Nat.le_refl _)
  unfold prepAt
  omega
structure PrS8 where
  out : List UInt8
  A : Option Addr
  c : Nat
theorem prepare_c (w0 : World) (s : ByteArray) (hl : s.size ≤ 100000) (hf : Forms 10 w0) (h5 : (spansF 8 blanksL).p w0) (h6 : (spansF 9 nothingL).p w0) (h4 : (spansF 4 barredL).p w0) :
    Pu Tryz.prog n_name_Prepare #[.string s] w0 (.tuple #[.string (mkS (prepF s.data.toList).1), .int .i64 (prepF s.data.toList).2]) := by
  have g := good_name_Prepare w0 (Un [])
  have hlen : s.data.toList.length = s.size := rfl
  have own2 : ∀ {f1 f2 f3 f4 : Fact}, f1.own = false → f2.own = false → f3.own = false → f4.own = false → ∀ g ∈ [f1, f2, f3, f4], g.own = false := by
    intro f1 f2 f3 f4 e1 e2 e3 e4 g hg
    simp only [List.mem_cons, List.not_mem_nil, or_false] at hg
    rcases hg with rfl | rfl | rfl | rfl <;> assumption
  have st : Sat (cx_name_Prepare w0 (Un [])) Va.z 0 [] [formF, formF, spansF 8 blanksL, spansF 9 nothingL, spansF 4 barredL] w0 := by
    have s1 : Sat (cx_name_Prepare w0 (Un [])) Va.z 0 [] [spansF 4 barredL] w0 := (Sat.start rfl).rd (fun _ h => by cases h) h4
    have s2 : Sat (cx_name_Prepare w0 (Un [])) Va.z 0 [] [spansF 9 nothingL, spansF 4 barredL] w0 := s1.rd (fun g hg => own2 (f1 := spansF 4 barredL) (f2 := noF) (f3 := noF) (f4 := noF) rfl rfl rfl rfl g (by obtain rfl := List.mem_singleton.1 hg; simp)) h6
    have s3 : Sat (cx_name_Prepare w0 (Un [])) Va.z 0 [] [spansF 8 blanksL, spansF 9 nothingL, spansF 4 barredL] w0 := s2.rd (fun g hg => own2 (f1 := spansF 9 nothingL) (f2 := spansF 4 barredL) (f3 := noF) (f4 := noF) rfl rfl rfl rfl g (by simp only [List.mem_cons, List.not_mem_nil, or_false] at hg ⊢; rcases hg with h | h <;> simp [h])) h5
    have s4 : Sat (cx_name_Prepare w0 (Un [])) Va.z 0 [] [formF, spansF 8 blanksL, spansF 9 nothingL, spansF 4 barredL] w0 := s3.rd (fun g hg => own2 (f1 := spansF 8 blanksL) (f2 := spansF 9 nothingL) (f3 := spansF 4 barredL) (f4 := noF) rfl rfl rfl rfl g (by simp only [List.mem_cons, List.not_mem_nil, or_false] at hg ⊢; rcases hg with h | h | h <;> simp [h])) hf
    exact s4.rd (own2 rfl rfl rfl rfl) hf
  refine con_of_sx (cx := cx_name_Prepare w0 (Un [])) g b_name_Prepare rfl rfl (β := Va.z) [.c (.v (.string s))] 0 [] _ rfl rfl st ?_
  obtain ⟨bv, hv⟩ : ∃ bv, validB s.data.toList = bv := ⟨_, rfl⟩
  refine call_pu (v := .bool bv) (fun β w hs => by
    have h := valid_c w s (by omega) (hs.get 0 rfl)
    rw [hv] at h
    exact h) ?_
  cases bv with
  | false =>
    intro β w' hs
    refine (hs.keepB (List.nil_sublist _)).fin [] ⟨?_, rfl⟩
    unfold prepF
    rw [hv]
    rfl
  | true =>
    refine call_con [] (fun β w hs => prepared_c w s) ?_
    rintro v Fs ⟨bx, rfl, rfl⟩
    obtain ⟨T, hT⟩ : ∃ T, prepAt (runesAt s.data.toList 0) = T := ⟨_, rfl⟩
    have hTl : T.length ≤ 100000 := by
      have := prepAt_len s.data.toList
      rw [hT] at this
      omega
    have hpr : prepF s.data.toList = if T.any badZ = true then ([], 5) else (T.flatMap encZ, 0) := by unfold prepF; rw [if_pos hv, hT]
    refine range_rule (α := Int) (ι := PrS8) (κ := Unit) g rfl (cv := [.pointer (some ⟨bx, 0, none⟩)]) rfl (by kernel_rfl) 3 (Nat.le_refl 3)
      (fun pre i => pre.any badZ = false ∧ i.out = pre.flatMap encZ) (fun i => [⟨2, ty_sl_uint8, [.v (.slice i.A i.out.length i.c)]⟩, ⟨1, ty_api_Errno, [.v (.int .i64 0)]⟩, ⟨0, ty_string, [.v (.string (mkS []))]⟩]) (fun i => [browF ty_uint8 i.A i.out i.c]) (fun i => ⟨rfl, trivial⟩)
      (fun e pre _ => e = .ret ∧ pre.any badZ = true) (fun _ => [⟨1, ty_api_Errno, [.v (.int .i64 5)]⟩, ⟨0, ty_string, [.v (.string (mkS []))]⟩]) (fun _ => []) (fun _ => trivial)
      [bkF bx ty_string [.string s]] [formF, spansF 8 blanksL, spansF 9 nothingL] [formF, spansF 4 barredL] ⟨rfl, trivial⟩ (fun g h => by
        simp only [List.mem_cons, List.not_mem_nil, or_false] at h
        rcases h with rfl | rfl <;> rfl) ⟨[], none, 0⟩ ⟨rfl, rfl⟩ (fun β w hs => ⟨β, Agr.refl _ _, ?_⟩) (insPr s.data.toList)
      (fun xs Fs' => xs = T ∧ Fs' = []) (fun pre Fs' => (∃ r, T = pre ++ r) ∧ Fs' = [])
      (fun l w f0 R J Jx hJ0 hJo hRo hY hm => (prep_it l w bx s f0 R J Jx hJ0 hJo hRo hY (by omega) hm).mono fun _ Fs h => by rw [← hT]; exact h) ?_ ?_ ?_
    · exact (hs.nilRow ty_uint8 1).perm [1, 2, 4, 5, 0, 3, 6]
    · rintro ⟨out, A, c⟩ pre z args X W S l' bs pn pn' hbs ⟨hno, hout⟩ ⟨rfl, rfl, r0, hzr⟩
      simp only at hno hout
      rw [hT] at hzr
      refine ⟨_, rfl, ?_⟩
      obtain ⟨b1, hb1⟩ : ∃ b1, inSp z barredL = b1 := ⟨_, rfl⟩
      refine ⟨9, 9, 0, 9, 9, _, rfl, rfl, rfl, Nat.le_refl _, Nat.le_refl _, Nat.zero_le _, rfl, rfl, rfl, ?_⟩
      refine call_pu (v := .bool b1) (fun β w' hs => by
        have h := within_c w' z (some ⟨4, 0, none⟩) barredL 9 (hs.get 3 rfl) (by decide)
        rw [hb1] at h
        exact h) ?_
      cases b1 with
      | true =>
        have hbz : badZ z = true := by unfold badZ; rw [hb1]; rfl
        exact ⟨(), ⟨rfl, by rw [List.any_append, List.any_cons, hbz]; simp⟩, Ent.mk' trivial rfl (fun β w hs => ((hs.keepB (List.sublist_cons_self _ _)).perm []).lower (n' := 3))⟩
      | false =>
        obtain ⟨y, hy⟩ : ∃ y, bits .and .i32 z 65534 = y := ⟨_, rfl⟩
        refine ⟨y, hy, ?_⟩
        refine BIf.dec (fun h3 => ?_) (fun h3 => ?_)
        · have h30 : y = 65534 := h3
          have hbz : badZ z = true := by unfold badZ; rw [hb1, hy, decide_eq_true h30]; rfl
          exact ⟨(), ⟨rfl, by rw [List.any_append, List.any_cons, hbz]; simp⟩, Ent.mk' trivial rfl (fun β w hs => ((hs.keepB (List.sublist_cons_self _ _)).perm []).lower (n' := 3))⟩
        · have h30 : ¬ y = 65534 := h3
          have hbz : badZ z = false := by unfold badZ; rw [hb1, hy, decide_eq_false h30]; rfl
          obtain ⟨r, hz, hsg, hr31⟩ := prep_sign hv (z := z) (by rw [hT, hzr]; simp)
          have hol : out.length ≤ 400000 := by
            have h8 := flat_le encZ 4 encZ_len pre
            have h9 : pre.length ≤ T.length := by rw [hzr, List.length_append]; omega
            rw [hout]
            omega
          refine call_con [] (fun β w' hs => append_c w' A out c r z hz hr31 hsg (row_rd (hs.get 1 rfl)) (by omega) (hs.get 2 rfl)) ?_
          rintro v Fs ⟨A', c', rfl, q1, q2, rfl⟩
          exact ⟨⟨out ++ encL r, A', c'⟩, ⟨by rw [List.any_append, hno, List.any_cons, hbz]; rfl, by rw [hout, List.flatMap_append]; simp [encZ, hz]⟩, Ent.mk' trivial rfl (fun β w hs => (hs.perm [0]).lower (n' := 3))⟩
    · rintro xs ⟨out, A, c⟩ Fs ⟨hno, hout⟩ ⟨rfl, rfl⟩
      simp only at hno hout
      rw [if_neg (by rw [hno]; decide)] at hpr
      refine ⟨out, fun β w hs => row_rd (hs.get 0 rfl), ?_⟩
      intro β w' hs
      refine (hs.keepB (List.nil_sublist _)).fin [] ⟨?_, rfl⟩
      rw [hpr, ← hout]
      rfl
    · rintro e pre ⟨⟩ Fs ⟨rfl, hbad⟩ ⟨⟨r, hr⟩, rfl⟩
      rw [if_pos (by rw [hr, List.any_append, hbad]; rfl)] at hpr
      intro β w' hs
      refine (hs.keepB (List.nil_sublist _)).fin [] ⟨?_, rfl⟩
      rw [hpr]
      rfl
theorem mkSo (l : List UInt8) : (mkS l).data.toList = l := by simp [mkS]
theorem writeStr_c (w : World) (b : Nat) (p : Value) (A : Option Addr) (l : List UInt8) (c : Nat) (x : List UInt8) (hp : p = .pointer none ∨ p = selfV b) (hl : l.length ≤ 100000000) (hx : x.length ≤ 100000000) (hm : Mem w (bldF b p A l c)) :
    Con Tryz.prog n_strings_Builder_WriteString #[selfV b, .string (mkS x)] w (bldF b p A l c) fun v Fs => v = .tuple #[.int .i64 (x.length : Int), .nilIface] ∧ ∃ A' c', Fs = bldF b (selfV b) A' (l ++ x) c' := by
  have g := good_strings_Builder_WriteString w (Un (bldF b p A l c))
  refine con_of_sx (cx := cx_strings_Builder_WriteString w (Un (bldF b p A l c))) g b_strings_Builder_WriteString rfl rfl (β := Va.z) [.c (.v (selfV b)), .c (.v (.string (mkS x)))] 0 [] _ rfl rfl (hm.sat0 rfl (fun f hf _ k hk => ⟨f, hf, hk⟩)) ?_
  refine call_con [0] (fun β w' hs => copyCheck_c w' b p _ hp (hs.get 0 rfl)) ?_
  rintro v Fs ⟨rfl, rfl⟩
  refine ⟨.slice A l.length c, fun β w' hs => by
    have hb : w'.heap[b]? = some (.cells #[selfV b, .slice A l.length c] ty_strings_Builder (0, 0)) := hs.get 0 rfl
    show w'.cell? ⟨b, 1, none⟩ = _
    rw [cell_of_row w' b 1 _ _ _ hb]; rfl, ?_⟩
  refine ⟨1, l.length, x.length, l.length + x.length, l.map byte, x.map byte, (l ++ x).map byte, rfl, ⟨rfl, rfl, by rw [mkSo]⟩, rfl, by simp, by rw [maxLen_eq]; omega, by show (l.length + x.length) * 1 ≤ _; omega, ?_⟩
  intro A' c' h1 h2 h3
  refine ⟨_, fun β w' hs => hs.bkSet 0 (o := 1) (us := [.slice A' (l.length + x.length) c']) rfl (Nat.le_refl 2) (fun u hu => by obtain rfl := List.mem_singleton.1 hu; rfl), ?_⟩
  intro β w' hs
  have e : (l ++ x).length = l.length + x.length := by simp
  refine hs.fin [0, 1] ⟨rfl, A', c', ?_⟩
  show [bkF b ty_strings_Builder [selfV b, .slice A' (l.length + x.length) c'], rowF ty_uint8 1 (.slice A' (l.length + x.length) c') (l.length + x.length) ((l ++ x).map byte)] = _
  rw [← e]
  rfl
theorem text0_c (w : World) (b : Nat) (p : Value) (c : Nat) (hm : Mem w [bkF b ty_strings_Builder [p, .slice none 0 c]]) :
    Con Tryz.prog n_strings_Builder_String #[selfV b] w [bkF b ty_strings_Builder [p, .slice none 0 c]] fun v Fs => v = .string (mkS []) ∧ Fs = [] := by
  have g := good_strings_Builder_String w (Un [bkF b ty_strings_Builder [p, .slice none 0 c]])
  refine con_of_sx (cx := cx_strings_Builder_String w (Un [bkF b ty_strings_Builder [p, .slice none 0 c]])) g b_strings_Builder_String rfl rfl (β := Va.z) [.c (.v (selfV b))] 0 [] _ rfl rfl (hm.sat0 rfl (fun f hf _ k hk => ⟨f, hf, hk⟩)) ?_
  refine draw_rule g p_strings_Builder_String_1 (by kernel_rfl) [] [bkF b ty_strings_Builder [p, .slice none 0 c]] Sub.refl ?_
  have hcell : ∀ (cx : Cx) (n : Nat) (β : Va) (w' : World), Sat cx β n [] [bkF b ty_strings_Builder [p, .slice none 0 c]] w' → w'.cell? ⟨b, 1, none⟩ = some (.slice none 0 c) := fun cx n β w' hs => by
    have hb : w'.heap[b]? = some (.cells #[p, .slice none 0 c] ty_strings_Builder (0, 0)) := hs.get 0 rfl
    rw [cell_of_row w' b 1 _ _ _ hb]; rfl
  refine ⟨.slice none 0 c, hcell _ _, ?_⟩
  refine ⟨.slice none 0 c, hcell _ _, ?_⟩
  refine ⟨[], _, .c (.v (.pointer none)), fun β w' ty hs => ⟨w', ?_, hs⟩, trivial, Sub.refl, ?_⟩
  · have := Lib.run_unsafeSliceData_nil (P := Tryz.prog) (w := w') #[ty_sl_uint8] ty 0 c
    simp only [builtin, Sem.run_bind]
    erw [this]
    rfl
  refine ⟨[], [bkF b ty_strings_Builder [p, .slice none 0 c]], .c (.v (.string (mkS []))), fun β w' ty hs => ⟨w', ?_, hs⟩, trivial, Sub.refl, ?_⟩
  · have := Lib.run_unsafeString_none (P := Tryz.prog) (w := w') ty_ptr_uint8 3 ty none
    simp only [builtin, Sem.run_bind]
    erw [this]
    rfl
  intro β w' hs
  exact (hs.keepB (List.nil_sublist _)).fin [] ⟨rfl, rfl⟩
def sizF (l : List UInt8) (most : Nat) : List UInt8 × Int :=
  if (prepF l).2 = 0 then if (prepF l).1 = [] then ([], 2) else if most < (prepF l).1.length then ([], 3) else ((prepF l).1, 0) else ([], (prepF l).2)
theorem mkS_nil {p : List UInt8} : mkS p = mkS [] ↔ p = [] := by
  constructor
  · intro h
    have := congrArg (fun s : ByteArray => s.data.toList) h
    simpa [mkS] using this
  · rintro rfl; rfl
theorem sized_c (w : World) (s : ByteArray) (most : Nat) (hmost : most ≤ 1000000) (hl : s.size ≤ 100000) (hf : Forms 10 w) (h5 : (spansF 8 blanksL).p w) (h6 : (spansF 9 nothingL).p w) (h4 : (spansF 4 barredL).p w) :
    Pu Tryz.prog n_name_sized #[.string s, .int .i64 (most : Int)] w (.tuple #[.string (mkS (sizF s.data.toList most).1), .int .i64 (sizF s.data.toList most).2]) := by
  have g := good_name_sized w (Un [])
  refine con_of_sx (cx := cx_name_sized w (Un [])) g b_name_sized rfl rfl (β := Va.z) [.c (.v (.string s)), .c (.v (.int .i64 (most : Int)))] 0 [] [oldF w] rfl rfl (old_sat rfl) ?_
  obtain ⟨p, e, hpe⟩ : ∃ p e, prepF s.data.toList = (p, e) := ⟨_, _, rfl⟩
  have hz : sizF s.data.toList most = if e = 0 then if p = [] then ([], 2) else if most < p.length then ([], 3) else (p, 0) else ([], e) := by unfold sizF; rw [hpe]
  refine call_pu (v := .tuple #[.string (mkS p), .int .i64 e]) (fun β w' hs => by
    have h := prepare_c w' s hl (Forms.old hf (hs.get 0 rfl)) (Rd.old h5 (hs.get 0 rfl)) (Rd.old h6 (hs.get 0 rfl)) (Rd.old h4 (hs.get 0 rfl))
    rw [hpe] at h
    exact h) ?_
  have fin : ∀ (q : List UInt8) (d : Int), sizF s.data.toList most = (q, d) → ∀ {n : Nat} {H : List Bk} {F : List Fact} (β : Va) (w' : World), Sat (cx_name_sized w (Un [])) β n H F w' → Fin w [] (fun u Fs => u = .tuple #[.string (mkS (sizF s.data.toList most).1), .int .i64 (sizF s.data.toList most).2] ∧ Fs = []) (.tuple #[.string (mkS q), .int .i64 d]) w' := by
    intro q d h n H F β w' hs
    rw [h]
    exact (hs.keepB (List.nil_sublist _)).fin [] ⟨rfl, rfl⟩
  refine BIf.not (BIf.dec (fun he => ?_) (fun he => ?_))
  · have he0 : e = 0 := he
    rw [if_pos he0] at hz
    refine BIf.dec (p := mkS p = mkS []) (fun hp => ?_) (fun hp => ?_)
    · rw [if_pos (mkS_nil.1 hp)] at hz
      exact fin [] 2 hz
    · rw [if_neg (fun q => hp (mkS_nil.2 q))] at hz
      have hsz : (mkS p).size = p.length := by simp [mkS, ByteArray.size]
      refine BIf.dec (fun hm => ?_) (fun hm => ?_)
      · have hm0 : (most : Int) < ((mkS p).size : Int) := hm
        rw [hsz] at hm0
        rw [if_pos (by omega)] at hz
        exact fin [] 3 hz
      · have hm0 : ¬ (most : Int) < ((mkS p).size : Int) := hm
        rw [hsz] at hm0
        rw [if_neg (by omega)] at hz
        rw [he0]
        exact fin p 0 hz
  · have he0 : ¬ e = 0 := he
    rw [if_neg he0] at hz
    exact fin [] e hz
theorem name_c (w : World) (s : ByteArray) (hl : s.size ≤ 100000) (hf : Forms 10 w) (h5 : (spansF 8 blanksL).p w) (h6 : (spansF 9 nothingL).p w) (h4 : (spansF 4 barredL).p w) :
    Pu Tryz.prog n_name_Name #[.string s] w (.tuple #[.string (mkS (sizF s.data.toList 32).1), .int .i64 (sizF s.data.toList 32).2]) := by
  have g := good_name_Name w (Un [])
  refine con_of_sx (cx := cx_name_Name w (Un [])) g b_name_Name rfl rfl (β := Va.z) [.c (.v (.string s))] 0 [] [oldF w] rfl rfl (old_sat rfl) ?_
  refine call_pu (fun β w' hs => sized_c w' s 32 (by decide) hl (Forms.old hf (hs.get 0 rfl)) (Rd.old h5 (hs.get 0 rfl)) (Rd.old h6 (hs.get 0 rfl)) (Rd.old h4 (hs.get 0 rfl))) ?_
  intro β w' hs
  exact hs.fin [] ⟨rfl, rfl⟩
def okc (x : UInt8) : Bool := decide ((97 ≤ x.toNat ∧ x.toNat ≤ 122) ∨ (48 ≤ x.toNat ∧ x.toNat ≤ 57) ∨ x.toNat = 45 ∨ x.toNat = 95)
def plainF (l : List UInt8) : Bool := l.all okc && (decide (l ≠ []) && decide (l.length ≤ 32))
set_option maxHeartbeats 1000000 in
theorem plain_c (w : World) (s : ByteArray) (hl : s.size ≤ 100000) : Pu Tryz.prog n_name_Plain #[.string s] w (.bool (plainF s.data.toList)) := by
  have g := good_name_Plain w (Un [])
  have hlen : s.data.toList.length = s.size := rfl
  refine con_of_sx (cx := cx_name_Plain w (Un [])) g b_name_Plain rfl rfl (β := Va.z) [.c (.v (.string s))] 0 [] [] rfl rfl (Sat.start rfl) ?_
  intro b c hc _
  refine loop_rule 0 (fun k : Nat => [(0, .c (.v (.string s))), (6, .c (.v (.slice (some ⟨b, 0, none⟩) s.size c))), (7, .c (.v (.int .i64 s.size))), (8, .c (.v (.int .i64 (k : Int))))]) (fun _ => []) (fun _ => [rdoF 1 (some ⟨b, 0, none⟩) s.size (s.data.toList.map byte)])
    (fun k => k ≤ s.size ∧ (s.data.toList.take k).all okc = true) (fun k => s.size - k) 0 ⟨Nat.zero_le _, rfl⟩ (Ent.same ⟨rfl, rfl, rfl, rfl, trivial⟩ rfl) g ?_
  rintro k ⟨hk, hall⟩
  refine BIf.dec (fun hlt => ?_) (fun hge => ?_)
  · have hlt0 : (k : Int) < s.size := hlt
    have hkl : k < s.size := by omega
    obtain ⟨x, hx, hxm⟩ := at_lt (l := s.data.toList) (k := k) (by omega)
    obtain ⟨z, hz⟩ : ∃ z : Int, (x.toNat : Int) = z := ⟨_, rfl⟩
    have hsn : okc x = true → (s.data.toList.take (k + 1)).all okc = true := fun h => by rw [List.take_add_one, hx, List.all_append, hall]; simp [h]
    have bad : okc x = false → ∀ {n : Nat} {H : List Bk} {F : List Fact} (β : Va) (w' : World), Sat (cx_name_Plain w (Un [])) β n H F w' → Fin w [] (fun u Fs => u = .bool (plainF s.data.toList) ∧ Fs = []) (.bool false) w' := by
      intro h n H F β w' hs
      refine (hs.keepB (List.nil_sublist _)).fin [] ⟨?_, rfl⟩
      have : s.data.toList.all okc = false := by
        rw [List.all_eq_false]
        exact ⟨x, hxm, by rw [h]; decide⟩
      unfold plainF
      rw [this]
      rfl
    refine ⟨⟨b, 0, none⟩, k, rfl, rfl, hkl, .int .u8 z, fun β w' hs => by rw [← hz]; exact Rd.cell1 (u := byte x) (hs.get 0 rfl) (by rw [List.getElem?_map, hx]; rfl), ?_⟩
    conv => whnf
    generalize h1 : decide ((97 : Int) ≤ z) = b1
    cases b1 with
    | true =>
      conv => whnf
      generalize h2 : decide (z ≤ (122 : Int)) = b2
      cases b2 with
      | true =>
        refine ⟨((k + 1 : Nat) : Int), by rw [wrap_i64 (by omega) (by omega)]; rfl, ?_⟩
        exact ⟨k + 1, ⟨hkl, hsn (by simp only [decide_eq_true_eq, decide_eq_false_iff_not] at *; simp only [okc, decide_eq_true_eq]; omega)⟩, by omega, Ent.same ⟨rfl, rfl, rfl, rfl, trivial⟩ rfl⟩
      | false =>
        conv => whnf
        generalize h3 : decide ((48 : Int) ≤ z) = b3
        cases b3 with
        | true =>
          conv => whnf
          generalize h4 : decide (z ≤ (57 : Int)) = b4
          cases b4 with
          | true =>
            refine ⟨((k + 1 : Nat) : Int), by rw [wrap_i64 (by omega) (by omega)]; rfl, ?_⟩
            exact ⟨k + 1, ⟨hkl, hsn (by simp only [decide_eq_true_eq, decide_eq_false_iff_not] at *; simp only [okc, decide_eq_true_eq]; omega)⟩, by omega, Ent.same ⟨rfl, rfl, rfl, rfl, trivial⟩ rfl⟩
          | false =>
            conv => whnf
            generalize h5 : decide (z = (45 : Int)) = b5
            cases b5 with
            | true =>
              refine ⟨((k + 1 : Nat) : Int), by rw [wrap_i64 (by omega) (by omega)]; rfl, ?_⟩
              exact ⟨k + 1, ⟨hkl, hsn (by simp only [decide_eq_true_eq, decide_eq_false_iff_not] at *; simp only [okc, decide_eq_true_eq]; omega)⟩, by omega, Ent.same ⟨rfl, rfl, rfl, rfl, trivial⟩ rfl⟩
            | false =>
              conv => whnf
              generalize h6 : decide (z = (95 : Int)) = b6
              cases b6 with
              | true =>
                refine ⟨((k + 1 : Nat) : Int), by rw [wrap_i64 (by omega) (by omega)]; rfl, ?_⟩
                exact ⟨k + 1, ⟨hkl, hsn (by simp only [decide_eq_true_eq, decide_eq_false_iff_not] at *; simp only [okc, decide_eq_true_eq]; omega)⟩, by omega, Ent.same ⟨rfl, rfl, rfl, rfl, trivial⟩ rfl⟩
              | false =>
                exact bad (by simp only [decide_eq_true_eq, decide_eq_false_iff_not] at *; simp only [okc, decide_eq_false_iff_not]; omega)
        | false =>
          conv => whnf
          generalize h5 : decide (z = (45 : Int)) = b5
          cases b5 with
          | true =>
            refine ⟨((k + 1 : Nat) : Int), by rw [wrap_i64 (by omega) (by omega)]; rfl, ?_⟩
            exact ⟨k + 1, ⟨hkl, hsn (by simp only [decide_eq_true_eq, decide_eq_false_iff_not] at *; simp only [okc, decide_eq_true_eq]; omega)⟩, by omega, Ent.same ⟨rfl, rfl, rfl, rfl, trivial⟩ rfl⟩
          | false =>
            conv => whnf
            generalize h6 : decide (z = (95 : Int)) = b6
            cases b6 with
            | true =>
              refine ⟨((k + 1 : Nat) : Int), by rw [wrap_i64 (by omega) (by omega)]; rfl, ?_⟩
              exact ⟨k + 1, ⟨hkl, hsn (by simp only [decide_eq_true_eq, decide_eq_false_iff_not] at *; simp only [okc, decide_eq_true_eq]; omega)⟩, by omega, Ent.same ⟨rfl, rfl, rfl, rfl, trivial⟩ rfl⟩
            | false =>
              exact bad (by simp only [decide_eq_true_eq, decide_eq_false_iff_not] at *; simp only [okc, decide_eq_false_iff_not]; omega)
    | false =>
      conv => whnf
      generalize h3 : decide ((48 : Int) ≤ z) = b3
      cases b3 with
      | true =>
        conv => whnf
        generalize h4 : decide (z ≤ (57 : Int)) = b4
        cases b4 with
        | true =>
          refine ⟨((k + 1 : Nat) : Int), by rw [wrap_i64 (by omega) (by omega)]; rfl, ?_⟩
          exact ⟨k + 1, ⟨hkl, hsn (by simp only [decide_eq_true_eq, decide_eq_false_iff_not] at *; simp only [okc, decide_eq_true_eq]; omega)⟩, by omega, Ent.same ⟨rfl, rfl, rfl, rfl, trivial⟩ rfl⟩
        | false =>
          conv => whnf
          generalize h5 : decide (z = (45 : Int)) = b5
          cases b5 with
          | true =>
            refine ⟨((k + 1 : Nat) : Int), by rw [wrap_i64 (by omega) (by omega)]; rfl, ?_⟩
            exact ⟨k + 1, ⟨hkl, hsn (by simp only [decide_eq_true_eq, decide_eq_false_iff_not] at *; simp only [okc, decide_eq_true_eq]; omega)⟩, by omega, Ent.same ⟨rfl, rfl, rfl, rfl, trivial⟩ rfl⟩
          | false =>
            conv => whnf
            generalize h6 : decide (z = (95 : Int)) = b6
            cases b6 with
            | true =>
              refine ⟨((k + 1 : Nat) : Int), by rw [wrap_i64 (by omega) (by omega)]; rfl, ?_⟩
              exact ⟨k + 1, ⟨hkl, hsn (by simp only [decide_eq_true_eq, decide_eq_false_iff_not] at *; simp only [okc, decide_eq_true_eq]; omega)⟩, by omega, Ent.same ⟨rfl, rfl, rfl, rfl, trivial⟩ rfl⟩
            | false =>
              exact bad (by simp only [decide_eq_true_eq, decide_eq_false_iff_not] at *; simp only [okc, decide_eq_false_iff_not]; omega)
      | false =>
        conv => whnf
        generalize h5 : decide (z = (45 : Int)) = b5
        cases b5 with
        | true =>
          refine ⟨((k + 1 : Nat) : Int), by rw [wrap_i64 (by omega) (by omega)]; rfl, ?_⟩
          exact ⟨k + 1, ⟨hkl, hsn (by simp only [decide_eq_true_eq, decide_eq_false_iff_not] at *; simp only [okc, decide_eq_true_eq]; omega)⟩, by omega, Ent.same ⟨rfl, rfl, rfl, rfl, trivial⟩ rfl⟩
        | false =>
          conv => whnf
          generalize h6 : decide (z = (95 : Int)) = b6
          cases b6 with
          | true =>
            refine ⟨((k + 1 : Nat) : Int), by rw [wrap_i64 (by omega) (by omega)]; rfl, ?_⟩
            exact ⟨k + 1, ⟨hkl, hsn (by simp only [decide_eq_true_eq, decide_eq_false_iff_not] at *; simp only [okc, decide_eq_true_eq]; omega)⟩, by omega, Ent.same ⟨rfl, rfl, rfl, rfl, trivial⟩ rfl⟩
          | false =>
            exact bad (by simp only [decide_eq_true_eq, decide_eq_false_iff_not] at *; simp only [okc, decide_eq_false_iff_not]; omega)
  · have hge0 : ¬ (k : Int) < s.size := hge
    obtain rfl : k = s.size := by omega
    rw [← hlen, List.take_length] at hall
    have hpl : plainF s.data.toList = (decide (s.data.toList ≠ []) && decide (s.data.toList.length ≤ 32)) := by unfold plainF; rw [hall, Bool.true_and]
    refine BIf.not (BIf.dec (p := s = mkS []) (fun he => ?_) (fun he => ?_))
    · intro β w' hs
      refine (hs.keepB (List.nil_sublist _)).fin [] ⟨?_, rfl⟩
      rw [hpl, he]
      rfl
    · have hne : s.data.toList ≠ [] := fun q => he (by
        have : s = mkS s.data.toList := by cases s; rfl
        rw [this, q])
      intro β w' hs
      refine (hs.keepB (List.nil_sublist _)).fin [] ⟨?_, rfl⟩
      rw [hpl, decide_eq_true hne, Bool.true_and, hlen]
      show Value.bool (decide ((s.size : Int) ≤ 32)) = _
      congr 1
      exact decide_eq_decide.2 (by omega)
def nameA (s : ByteArray) : ByteArray × Int := (mkS (sizF s.data.toList 32).1, (sizF s.data.toList 32).2)
structure NamT (w : World) : Prop where
  f : Forms 10 w
  s5 : (spansF 8 blanksL).p w
  s6 : (spansF 9 nothingL).p w
  s4 : (spansF 4 barredL).p w
theorem NamT.old {W w : World} (h : NamT W) (ho : (oldF W).p w) : NamT w := ⟨Forms.old h.f ho, Rd.old h.s5 ho, Rd.old h.s6 ho, Rd.old h.s4 ho⟩
theorem NamT.sat {cx : Cx} {β : Va} {n : Nat} {H : List Bk} {F : List Fact} {w : World} (hs : Sat cx β n H F w) (j : Nat) {W : World} (hj : nth F j = some (oldF W)) (h : NamT W) : NamT w := h.old (hs.get j hj)
theorem nameA_c (w : World) (s : ByteArray) (hl : s.size ≤ 100000) (hn : NamT w) : Pu Tryz.prog n_name_Name #[.string s] w (.tuple #[.string (nameA s).1, .int .i64 (nameA s).2]) :=
  name_c w s hl hn.f hn.s5 hn.s6 hn.s4
def namF : Fact := readF [formF, spansF 8 blanksL, spansF 9 nothingL, spansF 4 barredL]
theorem namF_T {w : World} (h : namF.p w) : NamT w := ⟨h formF (by simp), h (spansF 8 blanksL) (by simp), h (spansF 9 nothingL) (by simp), h (spansF 4 barredL) (by simp)⟩
def saltedN (n : Nat) (it : Int) : Bool := decide (1 ≤ n) && (decide (n ≤ 32) && (decide (1 ≤ it) && decide (it ≤ 64)))
theorem csalted_c (w : World) (A : Option Addr) (n c : Nat) (it : Int) : Pu Tryz.prog n_cred_salted #[.slice A n c, .int .i64 it] w (.bool (saltedN n it)) := by
  have g := good_cred_salted w (Un [])
  refine con_of_sx (cx := cx_cred_salted w (Un [])) g b_cred_salted rfl rfl (β := Va.z) [.c (.v (.slice A n c)), .c (.v (.int .i64 it))] 0 [] [] rfl rfl (Sat.start rfl) ?_
  conv => whnf
  generalize h1 : decide ((1 : Int) ≤ (n : Int)) = b1
  have e1 : decide (1 ≤ n) = b1 := by rw [← h1]; exact decide_eq_decide.2 (by omega)
  cases b1 with
  | false =>
    intro β w' hs
    refine hs.fin [] ⟨?_, rfl⟩
    unfold saltedN
    rw [e1]
    rfl
  | true =>
    conv => whnf
    generalize h2 : decide ((n : Int) ≤ (32 : Int)) = b2
    have e2 : decide (n ≤ 32) = b2 := by rw [← h2]; exact decide_eq_decide.2 (by omega)
    cases b2 with
    | false =>
      intro β w' hs
      refine hs.fin [] ⟨?_, rfl⟩
      unfold saltedN
      rw [e1, e2]
      rfl
    | true =>
      conv => whnf
      generalize h3 : decide ((1 : Int) ≤ it) = b3
      cases b3 with
      | false =>
        intro β w' hs
        refine hs.fin [] ⟨?_, rfl⟩
        unfold saltedN
        rw [e1, e2, h3]
        rfl
      | true =>
        intro β w' hs
        refine hs.fin [] ⟨?_, rfl⟩
        unfold saltedN
        rw [e1, e2, h3]
        rfl
theorem all_step {p : UInt8 → Bool} {s : List UInt8} {k : Nat} {x : UInt8} (hx : s[k]? = some x) (h : (s.take k).all p = true) (hp : p x = true) : (s.take (k + 1)).all p = true := by
  rw [List.take_add_one, hx, List.all_append, h]
  simp [hp]
end Go.Proofs.YteenjgfbbkdlhaaGreatDoor.Sx

namespace Go.Proofs.YteenjgfbbkdlhaaGreatDoor.Sx
open Go
def plnC (x : UInt8) : Bool := decide (33 ≤ x.toNat) && (decide (x.toNat ≤ 126) && (decide (x.toNat ≠ 34) && decide (x.toNat ≠ 92)))
def insC (x : UInt8) : Bool := decide (32 ≤ x.toNat) && decide (x.toNat ≠ 127)
def addQ (c : UInt8) (q : List UInt8 × List UInt8) : List UInt8 × List UInt8 := (c :: q.1, q.2)
def quotS : Bool → List UInt8 → Option (List UInt8 × List UInt8)
  | _, [] => none
  | false, c :: r => if c.toNat = 34 then some ([], r) else if c.toNat = 92 then quotS true r else if insC c = true then (quotS false r).map (addQ c) else none
  | true, c :: r => if c.toNat = 34 ∨ c.toNat = 92 then (quotS false r).map (addQ c) else if c.toNat = 110 then (quotS false r).map (addQ 10) else none
theorem quotS_len : ∀ (b : Bool) (s : List UInt8) (q : List UInt8 × List UInt8), quotS b s = some q → q.1.length + q.2.length < s.length
  | _, [], _, h => by cases h
  | false, c :: r, q, h => by
    have ih := quotS_len false r
    have ih2 := quotS_len true r
    simp only [quotS] at h
    split at h
    · cases h; simp
    split at h
    · have := ih2 q h
      simp only [List.length_cons]
      omega
    split at h
    · obtain ⟨q', hq, rfl⟩ := Option.map_eq_some_iff.1 h
      have := ih q' hq
      simp only [addQ, List.length_cons]
      omega
    · cases h
  | true, c :: r, q, h => by
    have ih := quotS_len false r
    simp only [quotS] at h
    split at h
    · obtain ⟨q', hq, rfl⟩ := Option.map_eq_some_iff.1 h
      have := ih q' hq
      simp only [addQ, List.length_cons]
      omega
    split at h
    · obtain ⟨q', hq, rfl⟩ := Option.map_eq_some_iff.1 h
      have := ih q' hq
      simp only [addQ, List.length_cons]
      omega
    · cases h
def wordF : List UInt8 → Option (List UInt8 × List UInt8)
  | [] => none
  | c :: r => if c.toNat = 34 then quotS false r else if plnC c = true then some ((c :: r).takeWhile plnC, (c :: r).dropWhile plnC) else none
theorem take_drop_len (p : UInt8 → Bool) : ∀ s : List UInt8, (s.takeWhile p).length + (s.dropWhile p).length = s.length
  | [] => rfl
  | c :: r => by
    have := take_drop_len p r
    rw [List.takeWhile_cons, List.dropWhile_cons]
    cases p c
    · simp
    · simp only [if_true, List.length_cons]; omega
theorem wordF_len {s : List UInt8} {q : List UInt8 × List UInt8} (h : wordF s = some q) : q.1.length + q.2.length ≤ s.length ∧ q.2.length < s.length := by
  cases s with
  | nil => cases h
  | cons c r =>
    simp only [wordF] at h
    split at h
    · have := quotS_len false r q h
      simp only [List.length_cons]
      omega
    split at h
    · rename_i hc
      cases h
      have := take_drop_len plnC (c :: r)
      refine ⟨Nat.le_of_eq this, ?_⟩
      rw [List.takeWhile_cons, if_pos hc, List.length_cons] at this
      simp only
      omega
    · cases h
def wordsG : Nat → List UInt8 → List (List UInt8) × Bool
  | 0, _ => ([], false)
  | n + 1, s => match wordF s with
    | none => ([], false)
    | some (w, []) => ([w], true)
    | some (w, c :: r) => if c.toNat = 32 then (w :: (wordsG n r).1, (wordsG n r).2) else ([w], false)
theorem wordsG_fuel : ∀ (n m : Nat) (s : List UInt8), s.length < n → s.length < m → wordsG n s = wordsG m s
  | 0, _, _, h, _ => by omega
  | _, 0, _, _, h => by omega
  | n + 1, m + 1, s, hn, hm => by
    simp only [wordsG]
    cases h : wordF s with
    | none => rfl
    | some q =>
      obtain ⟨w, r⟩ := q
      have hl := wordF_len h
      cases r with
      | nil => rfl
      | cons c r =>
        simp only [List.length_cons] at hl
        show (if c.toNat = 32 then (w :: (wordsG n r).1, (wordsG n r).2) else ([w], false)) = (if c.toNat = 32 then (w :: (wordsG m r).1, (wordsG m r).2) else ([w], false))
        rw [wordsG_fuel n m r (by omega) (by omega)]
def wordsF (s : List UInt8) : List (List UInt8) × Bool := wordsG (s.length + 1) s
theorem wordsF_eq {n : Nat} {s : List UInt8} (h : s.length < n) : wordsG n s = wordsF s := wordsG_fuel _ _ _ h (Nat.lt_succ_self _)
theorem wordsF_step (s : List UInt8) : wordsF s = match wordF s with
    | none => ([], false)
    | some (w, []) => ([w], true)
    | some (w, c :: r) => if c.toNat = 32 then (w :: (wordsF r).1, (wordsF r).2) else ([w], false) := by
  unfold wordsF
  rw [wordsG]
  cases h : wordF s with
  | none => rfl
  | some q =>
    obtain ⟨w, r⟩ := q
    have hl := wordF_len h
    cases r with
    | nil => rfl
    | cons c r =>
      simp only [List.length_cons] at hl
      simp only
      rw [wordsF_eq (show r.length < s.length by omega)]
      rfl
theorem wordsG_len : ∀ (n : Nat) (s : List UInt8), (wordsG n s).1.length ≤ s.length ∧ ∀ w ∈ (wordsG n s).1, w.length ≤ s.length
  | 0, s => ⟨Nat.zero_le _, fun _ h => by cases h⟩
  | n + 1, s => by
    simp only [wordsG]
    cases h : wordF s with
    | none => exact ⟨Nat.zero_le _, fun _ h => by cases h⟩
    | some q =>
      obtain ⟨w, r⟩ := q
      have hl := wordF_len h
      simp only at hl
      have one : ∀ x ∈ [w], x.length ≤ s.length := fun x hx => by
        obtain rfl := List.mem_singleton.1 hx
        omega
      cases r with
      | nil => exact ⟨by simp only [List.length_singleton, List.length_nil] at hl ⊢; omega, one⟩
      | cons c r =>
        have ih := wordsG_len n r
        simp only [List.length_cons] at hl
        simp only
        split
        · refine ⟨by simp only [List.length_cons]; omega, fun x hx => ?_⟩
          rcases List.mem_cons.1 hx with rfl | hx
          · omega
          · have := ih.2 x hx; omega
        · exact ⟨by simp only [List.length_singleton]; omega, one⟩
theorem wordsF_len (s : List UInt8) : (wordsF s).1.length ≤ s.length ∧ ∀ w ∈ (wordsF s).1, w.length ≤ s.length := wordsG_len _ s
theorem wordsF_ne {s : List UInt8} (h : (wordsF s).2 = true) : (wordsF s).1 ≠ [] := by
  intro h0
  rw [wordsF_step] at h h0
  cases hw : wordF s with
  | none => rw [hw] at h; cases h
  | some q =>
    obtain ⟨w, r⟩ := q
    rw [hw] at h h0
    cases r with
    | nil => cases h0
    | cons c r =>
      simp only at h h0
      split at h0 <;> cases h0
end Go.Proofs.YteenjgfbbkdlhaaGreatDoor.Sx

namespace Go.Proofs.YteenjgfbbkdlhaaGreatDoor.Sx
open Go
attribute [local irreducible] Calls
theorem mkS_sub (l : List UInt8) (i j : Nat) : (mkS l).extract i j = mkS ((l.take j).drop i) := by
  apply ByteArray.ext
  simp [mkS, List.extract_eq_take_drop]
  rw [List.drop_take]
theorem mkS_len (l : List UInt8) : (mkS l).size = l.length := by simp [mkS, ByteArray.size]
theorem plnO_c (w : World) (x : UInt8) : Pu Tryz.prog n_order_plain #[byte x] w (.bool (plnC x)) := by
  have g := good_order_plain w (Un [])
  refine con_of_sx (cx := cx_order_plain w (Un [])) g b_order_plain rfl rfl (β := Va.z) [.c (.v (byte x))] 0 [] [] rfl rfl (Sat.start rfl) ?_
  have fin : ∀ b, plnC x = b → ∀ {n : Nat} {H : List Bk} {F : List Fact} (β : Va) (w' : World), Sat (cx_order_plain w (Un [])) β n H F w' → Fin w [] (fun u Fs => u = .bool (plnC x) ∧ Fs = []) (.bool b) w' := by
    intro b h n H F β w' hs
    rw [h]
    exact (hs.keepB (List.nil_sublist _)).fin [] ⟨rfl, rfl⟩
  refine BIf.dec (fun h1 => ?_) (fun h1 => ?_)
  · have q1 : (33 : Int) ≤ x.toNat := h1
    refine BIf.dec (fun h2 => ?_) (fun h2 => ?_)
    · have q2 : (x.toNat : Int) ≤ 126 := h2
      refine BIf.not (BIf.dec (fun h3 => ?_) (fun h3 => ?_))
      · have q3 : (x.toNat : Int) = 34 := h3
        exact fin false (by unfold plnC; rw [decide_eq_false (p := x.toNat ≠ 34) (by omega), Bool.false_and, Bool.and_false, Bool.and_false])
      · have q3 : ¬ (x.toNat : Int) = 34 := h3
        refine fin (!decide ((x.toNat : Int) = 92)) ?_
        unfold plnC
        rw [decide_eq_true (p := 33 ≤ x.toNat) (by omega), decide_eq_true (p := x.toNat ≤ 126) (by omega), decide_eq_true (p := x.toNat ≠ 34) (by omega), Bool.true_and, Bool.true_and, Bool.true_and, ← decide_not]
        exact decide_eq_decide.2 (by omega)
    · have q2 : ¬ (x.toNat : Int) ≤ 126 := h2
      exact fin false (by unfold plnC; rw [decide_eq_false (p := x.toNat ≤ 126) (by omega), Bool.false_and, Bool.and_false])
  · have q1 : ¬ (33 : Int) ≤ x.toNat := h1
    exact fin false (by unfold plnC; rw [decide_eq_false (p := 33 ≤ x.toNat) (by omega)]; rfl)
theorem insO_c (w : World) (x : UInt8) : Pu Tryz.prog n_order_inside #[byte x] w (.bool (insC x)) := by
  have g := good_order_inside w (Un [])
  refine con_of_sx (cx := cx_order_inside w (Un [])) g b_order_inside rfl rfl (β := Va.z) [.c (.v (byte x))] 0 [] [] rfl rfl (Sat.start rfl) ?_
  have fin : ∀ b, insC x = b → ∀ {n : Nat} {H : List Bk} {F : List Fact} (β : Va) (w' : World), Sat (cx_order_inside w (Un [])) β n H F w' → Fin w [] (fun u Fs => u = .bool (insC x) ∧ Fs = []) (.bool b) w' := by
    intro b h n H F β w' hs
    rw [h]
    exact (hs.keepB (List.nil_sublist _)).fin [] ⟨rfl, rfl⟩
  have yes : 32 ≤ x.toNat ∧ x.toNat ≠ 127 → insC x = true := fun h => by unfold insC; rw [decide_eq_true h.1, decide_eq_true h.2]; rfl
  have last : (x.toNat = 127 ∨ x.toNat < 32 ∨ 128 ≤ x.toNat) → insC x = decide ((128 : Int) ≤ x.toNat) := fun h => by
    by_cases h8 : 128 ≤ x.toNat
    · rw [yes (by omega), decide_eq_true (by omega)]
    · rw [decide_eq_false (by omega)]
      unfold insC
      rcases h with h | h | h
      · rw [decide_eq_false (p := x.toNat ≠ 127) (by omega), Bool.and_false]
      · rw [decide_eq_false (p := 32 ≤ x.toNat) (by omega)]; rfl
      · omega
  refine BIf.dec (fun h1 => ?_) (fun h1 => ?_)
  · have q1 : (x.toNat : Int) = 32 := h1
    exact fin true (yes (by omega))
  have q1 : ¬ (x.toNat : Int) = 32 := h1
  refine BIf.dec (fun h2 => ?_) (fun h2 => ?_)
  · have q2 : (33 : Int) ≤ x.toNat := h2
    refine BIf.dec (fun h3 => ?_) (fun h3 => ?_)
    · have q3 : (x.toNat : Int) ≤ 126 := h3
      exact fin true (yes (by omega))
    · have q3 : ¬ (x.toNat : Int) ≤ 126 := h3
      exact fin _ (last (by omega))
  · have q2 : ¬ (33 : Int) ≤ x.toNat := h2
    exact fin _ (last (by omega))
theorem tw_take (p : UInt8 → Bool) : ∀ (s : List UInt8) (k : Nat), k ≤ s.length → (s.take k).all p = true → (∀ x, s[k]? = some x → p x = false) → s.takeWhile p = s.take k ∧ s.dropWhile p = s.drop k
  | [], k, _, _, _ => by simp
  | c :: r, 0, _, _, h => by
    have := h c rfl
    simp [this]
  | c :: r, k + 1, hk, ha, h => by
    simp only [List.take_succ_cons, List.all_cons, Bool.and_eq_true] at ha
    have ih := tw_take p r k (by simpa using hk) ha.2 (fun x hx => h x (by simpa using hx))
    simp only [List.takeWhile_cons, List.dropWhile_cons, ha.1, if_true, List.take_succ_cons, List.drop_succ_cons]
    exact ⟨by rw [ih.1], ih.2⟩
theorem bareO_c (w : World) (s : List UInt8) (hl : s.length ≤ 100000) : Pu Tryz.prog n_order_bare #[.string (mkS s)] w (.tuple #[.string (mkS (s.takeWhile plnC)), .string (mkS (s.dropWhile plnC)), .bool (decide (s.takeWhile plnC ≠ []))]) := by
  have g := good_order_bare w (Un [])
  have hsz := mkS_len s
  refine con_of_sx (cx := cx_order_bare w (Un [])) g b_order_bare rfl rfl (β := Va.z) [.c (.v (.string (mkS s)))] 0 [] [] rfl rfl (Sat.start rfl) ?_
  refine tri_exit (κ := Nat) 0 (fun k => k ≤ s.length ∧ s.takeWhile plnC = s.take k ∧ s.dropWhile plnC = s.drop k) 0 (fun k => [(0, .c (.v (.string (mkS s)))), (5, .c (.v (.int .i64 (k : Int))))]) (fun _ => []) (fun _ => []) ?_ ?_
  · rintro k ⟨hk, h1, h2⟩
    rw [h1, h2]
    refine draw_rule g p_order_bare_4 (by kernel_rfl) [] [] Sub.refl ?_
    refine ⟨k, 0, rfl, rfl, by omega, Nat.zero_le _, ?_⟩
    refine ⟨(mkS s).size, k, rfl, rfl, Nat.le_refl _, by omega, ?_⟩
    intro β w' hs
    refine (hs.keepB (List.nil_sublist _)).fin [] ⟨?_, rfl⟩
    rw [mkS_sub, mkS_sub, List.drop_zero, hsz, List.take_length]
    have e : decide ((k : Int) > 0) = decide (s.take k ≠ []) := decide_eq_decide.2 (by
      rw [Ne, List.take_eq_nil_iff]
      constructor
      · intro q r
        rcases r with r | r
        · omega
        · rw [r] at hk; simp at hk; omega
      · intro q
        have : ¬ k = 0 := fun r => q (.inl r)
        omega)
    rw [← e]
    rfl
  refine loop_rule 0 (fun k : Nat => [(0, .c (.v (.string (mkS s)))), (5, .c (.v (.int .i64 (k : Int))))]) (fun _ => []) (fun _ => [])
    (fun k => k ≤ s.length ∧ (s.take k).all plnC = true) (fun k => s.length - k) 0 ⟨Nat.zero_le _, rfl⟩ (Ent.same ⟨rfl, rfl, trivial⟩ rfl) g ?_
  rintro k ⟨hk, hall⟩
  refine BIf.dec (fun hlt => ?_) (fun hge => ?_)
  · have hlt : k < s.length := by have h0 : (k : Int) < (mkS s).size := hlt; omega
    obtain ⟨x, hx, hxm⟩ := at_lt (l := s) (k := k) hlt
    refine ⟨k, x, rfl, hx, ?_⟩
    refine call_pu (fun β w' hs => plnO_c w' x) ?_
    cases hp : plnC x with
    | true =>
      refine ⟨((k + 1 : Nat) : Int), by rw [wrap_i64 (by omega) (by omega)]; rfl, ?_⟩
      exact ⟨k + 1, ⟨hlt, all_step hx hall hp⟩, by omega, Ent.same ⟨rfl, rfl, trivial⟩ rfl⟩
    | false =>
      exact EntX.of k ⟨hk, tw_take plnC s k hk hall (fun y hy => by rw [hx] at hy; obtain rfl := Option.some.inj hy; exact hp)⟩ (Ent.same ⟨rfl, rfl, trivial⟩ rfl)
  · have hkl : k = s.length := by have h0 : ¬ (k : Int) < (mkS s).size := hge; omega
    exact EntX.of k ⟨hk, tw_take plnC s k hk hall (fun y hy => by rw [hkl, List.getElem?_eq_none (Nat.le_refl _)] at hy; cases hy)⟩ (Ent.same ⟨rfl, rfl, trivial⟩ rfl)
def preQ (a : List UInt8) (q : List UInt8 × List UInt8) : List UInt8 × List UInt8 := (a ++ q.1, q.2)
theorem preQ_add (a : List UInt8) (x : UInt8) (o : Option (List UInt8 × List UInt8)) : (o.map (addQ x)).map (preQ a) = o.map (preQ (a ++ [x])) := by
  cases o <;> simp [preQ, addQ]
def quotV : Option (List UInt8 × List UInt8) → Value
  | none => .tuple #[.string (mkS []), .string (mkS []), .bool false]
  | some q => .tuple #[.string (mkS q.1), .string (mkS q.2), .bool true]
structure QuS where
  k : Nat
  p : Value
  A : Option Addr
  c : Nat
  a : List UInt8
set_option maxHeartbeats 1000000 in
theorem quotO_c (w : World) (s : List UInt8) (hl : s.length ≤ 100000) : Pu Tryz.prog n_order_quoted #[.string (mkS s)] w (quotV (quotS false s)) := by
  have g := good_order_quoted w (Un [])
  have hsz := mkS_len s
  have hml := maxLen_eq
  refine con_of_sx (cx := cx_order_quoted w (Un [])) g b_order_quoted rfl rfl (β := Va.z) [.c (.v (.string (mkS s)))] 0 [] [] rfl rfl (Sat.start rfl) ?_
  refine reify_rule g 0 (fun _ => [.pointer none, .slice none 0 0]) rfl rfl (fun _ => rfl) (fun b => ?_)
  have no : quotS false s = none → ∀ {n : Nat} {H : List Bk} {F : List Fact} (β : Va) (w' : World), Sat (cx_order_quoted w (Un [])) β n H F w' → Fin w [] (fun u Fs => u = quotV (quotS false s) ∧ Fs = []) (.tuple #[.string (mkS []), .string (mkS []), .bool false]) w' := by
    intro h n H F β w' hs
    rw [h]
    exact (hs.keepB (List.nil_sublist _)).fin [] ⟨rfl, rfl⟩
  refine loop_rule 1 (fun i : QuS => [(0, .c (.v (.string (mkS s)))), (6, .c (.v (.int .i64 i.k))), (5, .c (.v (selfV b)))]) (fun _ => []) (fun i => bldF b i.p i.A i.a i.c)
    (fun i => i.k ≤ s.length ∧ i.a.length ≤ i.k ∧ quotS false s = (quotS false (s.drop i.k)).map (preQ i.a) ∧ (i.p = .pointer none ∨ i.p = selfV b) ∧ (i.a = [] → i.A = none)) (fun i => s.length - i.k) ⟨0, .pointer none, none, 0, []⟩ ⟨Nat.zero_le _, Nat.le_refl _, by cases h : quotS false s <;> simp [h, preQ], .inl rfl, fun _ => rfl⟩ (Ent.mk' ⟨rfl, rfl, rfl, trivial⟩ rfl ?_) g ?_
  · intro β w' hs
    exact (hs.nilRow ty_uint8 1).perm [1, 0]
  rintro ⟨k, p, A1, c1, a⟩ ⟨hk, ha, hq, hp, hA0⟩
  simp only at hk ha hq hp hA0
  refine BIf.dec (fun hlt => ?_) (fun hge => ?_)
  · have hlt : k < s.length := by have h0 : (k : Int) < (mkS s).size := hlt; omega
    obtain ⟨x, hx, hxm⟩ := at_lt (l := s) (k := k) hlt
    have hdr : s.drop k = x :: s.drop (k + 1) := by
      rw [← List.getElem_cons_drop (h := hlt)]
      rw [List.getElem?_eq_getElem hlt] at hx
      rw [Option.some.inj hx]
    rw [hdr] at hq
    refine ⟨k, x, rfl, hx, ?_⟩
    refine BIf.dec (fun h34 => ?_) (fun h34 => ?_)
    · have q34 : x.toNat = 34 := by have h0 : (x.toNat : Int) = 34 := h34; omega
      have hq2 : quotS false s = some (a, s.drop (k + 1)) := by rw [hq, quotS, if_pos q34]; simp [preQ]
      rw [hq2]
      refine draw_rule g p_order_quoted_7 (by kernel_rfl) [] [] (Sub.of (List.nil_sublist _) (List.nil_sublist _)) ?_
      refine ⟨(((k + 1) : Nat) : Int), by rw [wrap_i64 (by omega) (by omega)]; rfl, ?_⟩
      refine ⟨(mkS s).size, k + 1, rfl, rfl, Nat.le_refl _, by omega, ?_⟩
      rw [mkS_sub, hsz, List.take_length]
      by_cases ha0 : a = []
      · subst ha0
        obtain rfl := hA0 rfl
        refine call_con [0] (fun β w' hs => text0_c w' b p c1 (hs.mem.take (js := [0]) rfl)) ?_
        rintro v Fs ⟨rfl, rfl⟩
        refine ⟨Sub.of (List.nil_sublist _) (List.nil_sublist _), ?_⟩
        intro β w' hs
        exact (hs.keepB (List.nil_sublist _)).fin [] ⟨rfl, rfl⟩
      · refine call_con [0, 1] (fun β w' hs => text_c w' b p A1 a c1 ha0 (hs.mem.take (js := [0, 1]) rfl)) ?_
        rintro v Fs ⟨rfl, rfl⟩
        refine ⟨Sub.of (List.nil_sublist _) (List.nil_sublist _), ?_⟩
        intro β w' hs
        exact (hs.keepB (List.nil_sublist _)).fin [] ⟨rfl, rfl⟩
    have q34 : ¬ x.toNat = 34 := fun h => h34 (by show (x.toNat : Int) = 34; omega)
    refine BIf.not (BIf.dec (fun h92 => ?_) (fun h92 => ?_))
    · have q92 : x.toNat = 92 := by have h0 : (x.toNat : Int) = 92 := h92; omega
      rw [quotS, if_neg q34, if_pos q92] at hq
      refine BIf.not (BIf.dec (fun _ => ?_) (fun h => absurd (show (↑x.toNat : Int) = 92 by omega) h))
      refine ⟨(((k + 1) : Nat) : Int), by rw [wrap_i64 (by omega) (by omega)]; rfl, ?_⟩
      refine BIf.dec (fun he => ?_) (fun he => ?_)
      · have e : k + 1 = s.length := by have h0 : ((k + 1 : Nat) : Int) = (mkS s).size := he; omega
        rw [e, List.drop_length] at hq
        exact no (by rw [hq]; rfl)
      have e : k + 1 < s.length := by have h0 : ¬ ((k + 1 : Nat) : Int) = (mkS s).size := he; omega
      obtain ⟨y, hy, hym⟩ := at_lt (l := s) (k := k + 1) e
      have hdr2 : s.drop (k + 1) = y :: s.drop (k + 2) := by
        rw [← List.getElem_cons_drop (h := e)]
        rw [List.getElem?_eq_getElem e] at hy
        rw [Option.some.inj hy]
      rw [hdr2] at hq
      refine ⟨(((k + 1) : Nat) : Int), by rw [wrap_i64 (by omega) (by omega)]; rfl, ?_⟩
      refine ⟨k + 1, y, rfl, hy, ?_⟩
      have go : ∀ (z : UInt8), quotS true (y :: s.drop (k + 2)) = (quotS false (s.drop (k + 2))).map (addQ z) → quotS false s = (quotS false (s.drop (k + 2))).map (preQ (a ++ [z])) := fun z h => by rw [hq, h, preQ_add]
      refine BIf.dec (fun h1 => ?_) (fun h1 => ?_)
      · have q1 : (y.toNat : Int) = 34 := h1
        refine BIf.dec (fun _ => ?_) (fun h => absurd h1 h)
        refine ⟨k + 1, y, rfl, hy, ?_⟩
        refine call_con [0, 1] (fun β w' hs => writeByte_c w' b p A1 a c1 y hp (by omega) (hs.mem.take (js := [0, 1]) rfl)) ?_
        rintro v Fs ⟨rfl, A2, c2, rfl⟩
        refine ⟨(((k + 2) : Nat) : Int), by rw [wrap_i64 (by omega) (by omega)]; rfl, ?_⟩
        exact ⟨⟨k + 2, selfV b, A2, c2, a ++ [y]⟩, ⟨e, by simp only [List.length_append, List.length_singleton]; omega, go y (by rw [quotS, if_pos (by omega)]), .inr rfl, fun h => by simp at h⟩, by show s.length - (k + 2) < s.length - k; omega, Ent.mk' ⟨rfl, rfl, rfl, trivial⟩ rfl (fun β w' hs => hs)⟩
      have q1 : ¬ (y.toNat : Int) = 34 := h1
      refine BIf.dec (fun h2 => ?_) (fun h2 => ?_)
      · have q2 : (y.toNat : Int) = 92 := h2
        refine ⟨k + 1, y, rfl, hy, ?_⟩
        refine call_con [0, 1] (fun β w' hs => writeByte_c w' b p A1 a c1 y hp (by omega) (hs.mem.take (js := [0, 1]) rfl)) ?_
        rintro v Fs ⟨rfl, A2, c2, rfl⟩
        refine ⟨(((k + 2) : Nat) : Int), by rw [wrap_i64 (by omega) (by omega)]; rfl, ?_⟩
        exact ⟨⟨k + 2, selfV b, A2, c2, a ++ [y]⟩, ⟨e, by simp only [List.length_append, List.length_singleton]; omega, go y (by rw [quotS, if_pos (by omega)]), .inr rfl, fun h => by simp at h⟩, by show s.length - (k + 2) < s.length - k; omega, Ent.mk' ⟨rfl, rfl, rfl, trivial⟩ rfl (fun β w' hs => hs)⟩
      have q2 : ¬ (y.toNat : Int) = 92 := h2
      refine BIf.dec (fun h3 => ?_) (fun h3 => ?_)
      · have q3 : (y.toNat : Int) = 110 := h3
        refine call_con [0, 1] (fun β w' hs => writeByte_c w' b p A1 a c1 10 hp (by omega) (hs.mem.take (js := [0, 1]) rfl)) ?_
        rintro v Fs ⟨rfl, A2, c2, rfl⟩
        refine ⟨(((k + 2) : Nat) : Int), by rw [wrap_i64 (by omega) (by omega)]; rfl, ?_⟩
        exact ⟨⟨k + 2, selfV b, A2, c2, a ++ [10]⟩, ⟨e, by simp only [List.length_append, List.length_singleton]; omega, go 10 (by rw [quotS, if_neg (by omega), if_pos (by omega)]), .inr rfl, fun h => by simp at h⟩, by show s.length - (k + 2) < s.length - k; omega, Ent.mk' ⟨rfl, rfl, rfl, trivial⟩ rfl (fun β w' hs => hs)⟩
      · have q3 : ¬ (y.toNat : Int) = 110 := h3
        exact no (by rw [hq, quotS, if_neg (by omega), if_neg (by omega)]; rfl)
    have q92 : ¬ x.toNat = 92 := fun h => h92 (by show (x.toNat : Int) = 92; omega)
    rw [quotS, if_neg q34, if_neg q92] at hq
    refine call_pu (fun β w' hs => insO_c w' x) ?_
    cases hin : insC x with
    | true =>
      rw [if_pos hin, preQ_add] at hq
      refine call_con [0, 1] (fun β w' hs => writeByte_c w' b p A1 a c1 x hp (by omega) (hs.mem.take (js := [0, 1]) rfl)) ?_
      rintro v Fs ⟨rfl, A2, c2, rfl⟩
      refine ⟨(((k + 1) : Nat) : Int), by rw [wrap_i64 (by omega) (by omega)]; rfl, ?_⟩
      exact ⟨⟨k + 1, selfV b, A2, c2, a ++ [x]⟩, ⟨hlt, by simp only [List.length_append, List.length_singleton]; omega, hq, .inr rfl, fun h => by simp at h⟩, by show s.length - (k + 1) < s.length - k; omega, Ent.mk' ⟨rfl, rfl, rfl, trivial⟩ rfl (fun β w' hs => hs)⟩
    | false =>
      refine BIf.not (BIf.dec (fun h => absurd h (show ¬ ((↑x.toNat : Int) = 92) by omega)) (fun _ => ?_))
      exact no (by rw [hq, if_neg (by rw [hin]; decide)]; rfl)
  · have hkl : k = s.length := by have h0 : ¬ (k : Int) < (mkS s).size := hge; omega
    subst hkl
    rw [List.drop_length] at hq
    exact no (by rw [hq]; rfl)
abbrev WE := List UInt8 × Bool
def toldW (q : List (List UInt8) × Bool) : List WE := q.1.map (fun w => (w, true)) ++ if q.2 = true then [] else [([], false)]
def insWd (L : List WE) (pre : List WE) (x : WE) (args : Array Value) (X : Fact) : Prop := args = #[.string (mkS x.1), .bool x.2] ∧ X = noF ∧ L[pre.length]? = some x
def wdEnd (L : List WE) (J Jx : List WE → Fact → Prop) (Fs : List Fact) : Prop :=
  ∃ f Fs', Fs = f :: Fs' ∧ ((∃ xs, J xs f ∧ xs = L ∧ Fs' = []) ∨ (∃ pre, Jx pre f ∧ Fs' = []))
theorem hasQ_c (w : World) (s : ByteArray) (b : Bool) (h : _root_.Go.Lib.hasPrefix s.data.toList [34] = b) : Pu Tryz.prog n_strings_HasPrefix #[.string s, .string ⟨#[34]⟩] w (.bool b) := by
  refine pu_of (Calls.mono (Tryz.strings_HasPrefix s ⟨#[34]⟩ w) ?_)
  rintro e w' ⟨rfl, rfl⟩
  exact ⟨_, rfl, congrArg Value.bool h, Chg.refl _ _⟩
theorem wordF_q {t : List UInt8} (h : _root_.Go.Lib.hasPrefix t [34] = true) : ∃ r, t = 34 :: r ∧ wordF t = quotS false r := by
  cases t with
  | nil => cases h
  | cons c r =>
    have hc : 34 = c := by simpa [_root_.Go.Lib.hasPrefix] using h
    subst hc
    exact ⟨r, rfl, rfl⟩
theorem wordF_b {t : List UInt8} (h : _root_.Go.Lib.hasPrefix t [34] = false) : wordF t = if t.takeWhile plnC = [] then none else some (t.takeWhile plnC, t.dropWhile plnC) := by
  cases t with
  | nil => rfl
  | cons c r =>
    have hc : ¬ c.toNat = 34 := fun q => by
      have : c = 34 := UInt8.toNat_inj.1 q
      subst this
      simp [_root_.Go.Lib.hasPrefix] at h
    rw [wordF, if_neg hc]
    cases hp : plnC c with
    | true => rw [if_pos rfl, if_neg (by simp [hp])]
    | false => rw [if_neg (by decide), if_pos (by simp [hp])]
theorem words_it (l : Nat) (w : World) (bx : Nat) (s : List UInt8) (hs : s.length ≤ 100000) (f0 R : Fact) (J Jx : List WE → Fact → Prop) (hJ0 : J [] f0) (hJo : ∀ pre f, J pre f → f.own = true) (hRo : R.own = false) (hY : Yc Tryz.prog l J Jx R (insWd (toldW (wordsF s))))
    (hm : Mem w (f0 :: R :: [bkF bx ty_string [.string (mkS s)]])) :
    Con Tryz.prog n_order_Words_1 #[.func (.yield l) #[] #[], .pointer (some ⟨bx, 0, none⟩)] w [f0, bkF bx ty_string [.string (mkS s)]] (fun _ Fs => wdEnd (toldW (wordsF s)) J Jx Fs) := by
  have g := good_order_Words_1 w (Un [f0, bkF bx ty_string [.string (mkS s)]]) [bx]
  have hs0 : Sat (cx_order_Words_1 w (Un [f0, bkF bx ty_string [.string (mkS s)]]) [bx]) (Va.of fun _ => bx) 1 [] (f0 :: R :: [bkF bx ty_string [.string (mkS s)]]) w := by
    refine hm.sat rfl (fun f hf ho k hk => ?_) ⟨Nat.le_refl 1, fun i hi => by obtain rfl : i = 0 := Nat.lt_one_iff.1 hi; rfl⟩
    simp only [List.mem_cons, List.not_mem_nil, or_false] at hf
    rcases hf with rfl | rfl | rfl
    · exact ⟨_, by simp, hk⟩
    · rw [hRo] at ho; cases ho
    · exact ⟨bkF bx ty_string [.string (mkS s)], by simp, hk⟩
  have hs1 := hs0.toBk 2 rfl 0 Nat.zero_lt_one rfl
  refine con_of_sx (cx := cx_order_Words_1 w (Un [f0, bkF bx ty_string [.string (mkS s)]]) [bx]) g b_order_Words_1 rfl rfl (β := Va.of fun _ => bx) [.c (.v (.func (.yield l) #[] #[])), .c (.p 0 0)] 1 _ _ rfl rfl hs1 ?_
  refine loop_rule (ι := List WE × Fact × List UInt8) 1 (fun _ => [(0, .c (.v (.func (.yield l) #[] #[]))), (1, .c (.p 0 0))]) (fun i => [⟨0, ty_string, [.v (.string (mkS i.2.2))]⟩]) (fun i => [i.2.1, R])
    (fun i => J i.1 i.2.1 ∧ toldW (wordsF s) = i.1 ++ toldW (wordsF i.2.2) ∧ i.2.2.length ≤ s.length) (fun i => i.2.2.length) ([], f0, s) ⟨hJ0, rfl, Nat.le_refl _⟩ (Ent.mk' ⟨rfl, rfl, trivial⟩ rfl (fun β w' hs => hs)) g ?_
  rintro ⟨pre, f, t⟩ ⟨hJ, hpre, hi⟩
  simp only at hJ hpre hi
  have hfo := hJo _ _ hJ
  have hst := wordsF_step t
  -- the last told: there is no other word
  have last : toldW (wordsF t) = [([], false)] → (toldW (wordsF s))[pre.length]? = some ([], false) := fun h => by rw [hpre, h]; simp
  simp only
  refine call_pu (v := .bool (_root_.Go.Lib.hasPrefix t [34])) (fun β w' hs' => hasQ_c w' (mkS t) _ rfl) ?_
  cases hp : _root_.Go.Lib.hasPrefix t [34] with
  | true =>
    obtain ⟨r, rfl, hw⟩ := wordF_q hp
    have hsz := mkS_len (34 :: r)
    simp only [List.length_cons] at hsz hi
    refine ⟨(mkS (34 :: r)).size, 1, rfl, rfl, Nat.le_refl _, by omega, ?_⟩
    have e1 : (mkS (34 :: r)).extract 1 (mkS (34 :: r)).size = mkS r := by rw [mkS_sub, hsz, List.take_of_length_le (by simp)]; rfl
    rw [e1]
    refine call_pu (fun β w' hs' => quotO_c w' r (by omega)) ?_
    cases hq : quotS false r with
    | none =>
      have hwn : wordF (34 :: r) = none := hw.trans hq
      rw [hwn] at hst
      refine yield_ro (X := noF) (x := ([], false)) hY 0 1 rfl hJ hfo rfl hRo (by decide) (fun β => ⟨rfl, rfl, last (by rw [hst]; rfl)⟩) rfl (fun β w _ => ⟨trivial, fun k hk => hk.elim, fun k _ h => h.elim⟩) ?_ ?_
      · intro f2 hfo2 hJ2
        intro β w' hs
        exact (hs.keepB (List.nil_sublist _)).fin [0] ⟨f2, _, rfl, .inl ⟨_, hJ2, by rw [hpre, hst]; rfl, rfl⟩⟩ rfl rfl rfl ⟨hfo2, trivial⟩
      · intro f2 hfo2 hJ2
        intro β w' hs
        exact (hs.keepB (List.nil_sublist _)).fin [0] ⟨f2, _, rfl, .inr ⟨_, hJ2, rfl⟩⟩ rfl rfl rfl ⟨hfo2, trivial⟩
    | some q =>
      obtain ⟨a, b⟩ := q
      have hwn : wordF (34 :: r) = some (a, b) := hw.trans hq
      rw [hwn] at hst
      have hwl := wordF_len hwn
      simp only at hwl
      have hx : (toldW (wordsF s))[pre.length]? = some (a, true) := by
        rw [hpre, hst]
        cases b with
        | nil => simp [toldW]
        | cons c r2 => simp only; split <;> simp [toldW]
      refine yield_ro (X := noF) (x := (a, true)) hY 0 1 rfl hJ hfo rfl hRo (by decide) (fun β => ⟨rfl, rfl, hx⟩) rfl (fun β w _ => ⟨trivial, fun k hk => hk.elim, fun k _ h => h.elim⟩) ?_ ?_
      · intro f2 hfo2 hJ2
        refine BIf.dec (p := mkS b = mkS []) (fun hb => ?_) (fun hb => ?_)
        · have hb0 := mkS_nil.1 hb
          subst hb0
          intro β w' hs
          exact (hs.keepB (List.nil_sublist _)).fin [0] ⟨f2, _, rfl, .inl ⟨_, hJ2, by rw [hpre, hst]; rfl, rfl⟩⟩ rfl rfl rfl ⟨hfo2, trivial⟩
        cases b with
        | nil => exact absurd rfl hb
        | cons c r2 =>
          refine ⟨0, c, rfl, rfl, ?_⟩
          simp only at hst
          refine BIf.not (BIf.dec (fun h32 => ?_) (fun h32 => ?_))
          · have q32 : c.toNat = 32 := by have h0 : (c.toNat : Int) = 32 := h32; omega
            rw [if_pos q32] at hst
            have hsz2 := mkS_len (c :: r2)
            simp only [List.length_cons] at hsz2 hwl
            refine ⟨(mkS (c :: r2)).size, 1, rfl, rfl, Nat.le_refl _, by omega, ?_⟩
            have e1 : (mkS (c :: r2)).extract 1 (mkS (c :: r2)).size = mkS r2 := by rw [mkS_sub, hsz2, List.take_of_length_le (by simp)]; rfl
            rw [e1]
            exact ⟨(pre ++ [(a, true)], f2, r2), ⟨hJ2, by show toldW (wordsF s) = (pre ++ [(a, true)]) ++ toldW (wordsF r2); rw [hpre, hst, List.append_assoc]; rfl, by show r2.length ≤ s.length; omega⟩, by show r2.length < (34 :: r).length; simp only [List.length_cons]; omega, Ent.mk' ⟨rfl, rfl, trivial⟩ rfl (fun β w' hs => hs)⟩
          · have q32 : ¬ c.toNat = 32 := fun h => h32 (by show (c.toNat : Int) = 32; omega)
            rw [if_neg q32] at hst
            have hx2 : (toldW (wordsF s))[(pre ++ [(a, true)]).length]? = some ([], false) := by rw [hpre, hst]; simp [toldW]
            refine yield_ro (X := noF) (x := ([], false)) hY 0 1 rfl hJ2 hfo2 rfl hRo (by decide) (fun β => ⟨rfl, rfl, hx2⟩) rfl (fun β w _ => ⟨trivial, fun k hk => hk.elim, fun k _ h => h.elim⟩) ?_ ?_
            · intro f3 hfo3 hJ3
              intro β w' hs
              exact (hs.keepB (List.nil_sublist _)).fin [0] ⟨f3, _, rfl, .inl ⟨_, hJ3, by rw [hpre, hst]; simp [toldW], rfl⟩⟩ rfl rfl rfl ⟨hfo3, trivial⟩
            · intro f3 hfo3 hJ3
              intro β w' hs
              exact (hs.keepB (List.nil_sublist _)).fin [0] ⟨f3, _, rfl, .inr ⟨_, hJ3, rfl⟩⟩ rfl rfl rfl ⟨hfo3, trivial⟩
      · intro f2 hfo2 hJ2
        intro β w' hs
        exact (hs.keepB (List.nil_sublist _)).fin [0] ⟨f2, _, rfl, .inr ⟨_, hJ2, rfl⟩⟩ rfl rfl rfl ⟨hfo2, trivial⟩
  | false =>
    refine call_pu (fun β w' hs' => bareO_c w' t (by omega)) ?_
    have hw := wordF_b hp
    refine BIf.not (BIf.dec (fun h0 => ?_) (fun h0 => ?_))
    · have hwn : wordF t = some (t.takeWhile plnC, t.dropWhile plnC) := by rw [hw, if_neg h0]
      generalize t.takeWhile plnC = a at *
      generalize t.dropWhile plnC = b at *
      rw [hwn] at hst
      have hwl := wordF_len hwn
      simp only at hwl
      have hx : (toldW (wordsF s))[pre.length]? = some (a, true) := by
        rw [hpre, hst]
        cases b with
        | nil => simp [toldW]
        | cons c r2 => simp only; split <;> simp [toldW]
      refine yield_ro (X := noF) (x := (a, true)) hY 0 1 rfl hJ hfo rfl hRo (by decide) (fun β => ⟨rfl, rfl, hx⟩) rfl (fun β w _ => ⟨trivial, fun k hk => hk.elim, fun k _ h => h.elim⟩) ?_ ?_
      · intro f2 hfo2 hJ2
        refine BIf.dec (p := mkS b = mkS []) (fun hb => ?_) (fun hb => ?_)
        · have hb0 := mkS_nil.1 hb
          subst hb0
          intro β w' hs
          exact (hs.keepB (List.nil_sublist _)).fin [0] ⟨f2, _, rfl, .inl ⟨_, hJ2, by rw [hpre, hst]; rfl, rfl⟩⟩ rfl rfl rfl ⟨hfo2, trivial⟩
        cases b with
        | nil => exact absurd rfl hb
        | cons c r2 =>
          refine ⟨0, c, rfl, rfl, ?_⟩
          simp only at hst
          refine BIf.not (BIf.dec (fun h32 => ?_) (fun h32 => ?_))
          · have q32 : c.toNat = 32 := by have h0 : (c.toNat : Int) = 32 := h32; omega
            rw [if_pos q32] at hst
            have hsz2 := mkS_len (c :: r2)
            simp only [List.length_cons] at hsz2 hwl
            refine ⟨(mkS (c :: r2)).size, 1, rfl, rfl, Nat.le_refl _, by omega, ?_⟩
            have e1 : (mkS (c :: r2)).extract 1 (mkS (c :: r2)).size = mkS r2 := by rw [mkS_sub, hsz2, List.take_of_length_le (by simp)]; rfl
            rw [e1]
            exact ⟨(pre ++ [(a, true)], f2, r2), ⟨hJ2, by show toldW (wordsF s) = (pre ++ [(a, true)]) ++ toldW (wordsF r2); rw [hpre, hst, List.append_assoc]; rfl, by show r2.length ≤ s.length; omega⟩, by show r2.length < t.length; omega, Ent.mk' ⟨rfl, rfl, trivial⟩ rfl (fun β w' hs => hs)⟩
          · have q32 : ¬ c.toNat = 32 := fun h => h32 (by show (c.toNat : Int) = 32; omega)
            rw [if_neg q32] at hst
            have hx2 : (toldW (wordsF s))[(pre ++ [(a, true)]).length]? = some ([], false) := by rw [hpre, hst]; simp [toldW]
            refine yield_ro (X := noF) (x := ([], false)) hY 0 1 rfl hJ2 hfo2 rfl hRo (by decide) (fun β => ⟨rfl, rfl, hx2⟩) rfl (fun β w _ => ⟨trivial, fun k hk => hk.elim, fun k _ h => h.elim⟩) ?_ ?_
            · intro f3 hfo3 hJ3
              intro β w' hs
              exact (hs.keepB (List.nil_sublist _)).fin [0] ⟨f3, _, rfl, .inl ⟨_, hJ3, by rw [hpre, hst]; simp [toldW], rfl⟩⟩ rfl rfl rfl ⟨hfo3, trivial⟩
            · intro f3 hfo3 hJ3
              intro β w' hs
              exact (hs.keepB (List.nil_sublist _)).fin [0] ⟨f3, _, rfl, .inr ⟨_, hJ3, rfl⟩⟩ rfl rfl rfl ⟨hfo3, trivial⟩
      · intro f2 hfo2 hJ2
        intro β w' hs
        exact (hs.keepB (List.nil_sublist _)).fin [0] ⟨f2, _, rfl, .inr ⟨_, hJ2, rfl⟩⟩ rfl rfl rfl ⟨hfo2, trivial⟩
    · have hwn : wordF t = none := by rw [hw, if_pos (Classical.not_not.1 h0)]
      rw [hwn] at hst
      refine yield_ro (X := noF) (x := ([], false)) hY 0 1 rfl hJ hfo rfl hRo (by decide) (fun β => ⟨rfl, rfl, last (by rw [hst]; rfl)⟩) rfl (fun β w _ => ⟨trivial, fun k hk => hk.elim, fun k _ h => h.elim⟩) ?_ ?_
      · intro f2 hfo2 hJ2
        intro β w' hs
        exact (hs.keepB (List.nil_sublist _)).fin [0] ⟨f2, _, rfl, .inl ⟨_, hJ2, by rw [hpre, hst]; rfl, rfl⟩⟩ rfl rfl rfl ⟨hfo2, trivial⟩
      · intro f2 hfo2 hJ2
        intro β w' hs
        exact (hs.keepB (List.nil_sublist _)).fin [0] ⟨f2, _, rfl, .inr ⟨_, hJ2, rfl⟩⟩ rfl rfl rfl ⟨hfo2, trivial⟩
theorem orWords_c (w : World) (t : ByteArray) : Con Tryz.prog n_order_Words #[.string t] w [] (fun v Fs => ∃ bx, v = .func (.func n_order_Words_1) #[] #[.pointer (some ⟨bx, 0, none⟩)] ∧ Fs = [bkF bx ty_string [.string t]]) := by
  refine con_of_sx (cx := cx_order_Words w (Un [])) (good_order_Words w (Un [])) b_order_Words rfl rfl (β := Va.z) [.c (.v (.string t))] 0 [] [] rfl rfl (Sat.start rfl) ?_
  intro β w' hs
  exact hs.ofBk.fin [0] ⟨β 0, rfl, rfl⟩
def vbs : List (List UInt8 × Nat) := [([99, 111, 117, 110, 116], 0), ([103, 114, 97, 110, 116], 3), ([107, 101, 121, 45, 114, 101, 116, 105, 114, 101], 1), ([107, 101, 121, 45, 114, 111, 116, 97, 116, 101], 0), ([112, 111, 108, 105, 99, 121], 1), ([114, 101, 115, 116, 111, 114, 101], 2), ([114, 101, 118, 111, 107, 101], 2),
  ([115, 104, 111, 119, 45, 107, 101, 121, 115], 0), ([115, 104, 111, 119, 45, 112, 111, 108, 105, 99, 121], 0), ([115, 104, 111, 119, 45, 117, 115, 101, 114], 2), ([115, 111, 117, 114, 99, 101, 45, 99, 108, 101, 97, 114], 1), ([115, 119, 101, 101, 112], 0), ([116, 101, 110, 97, 110, 116, 45, 97, 100, 100], 1), ([116, 101, 110, 97, 110, 116, 45, 100, 114, 111, 112], 1),
  ([116, 105, 99, 107, 101, 116, 45, 114, 101, 118, 111, 107, 101], 1), ([117, 110, 103, 114, 97, 110, 116], 3), ([117, 115, 101, 114, 45, 97, 100, 100], 5), ([117, 115, 101, 114, 45, 100, 114, 111, 112], 2), ([117, 115, 101, 114, 45, 112, 97, 115, 115], 5)]
def vbV (v : List UInt8 × Nat) : List Value := [.string (mkS v.1), .int .i64 (v.2 : Int)]
def verbCells : List Value := vbs.flatMap vbV
theorem verb_at : ∀ (l : List (List UInt8 × Nat)) (i : Nat) (x : List UInt8 × Nat), l[i]? = some x → (((l.flatMap vbV).map SL.v).drop (i * 2)).take 2 = (vbV x).map SL.v
  | [], i, x, h => by simp at h
  | y :: r, 0, x, h => by cases h; rfl
  | y :: r, i + 1, x, h => by
    have := verb_at r i x (by simpa using h)
    rw [Nat.succ_mul]
    exact this
def verbF (g : Nat) : Fact := rdF 38 (some ⟨g, 0, none⟩) 1 verbCells
def cntE (v : List UInt8) (n : Nat) : Int := match vbs.find? (fun q => q.1 == v) with
  | some q => if q.2 = n then 0 else 1
  | none => 6
abbrev VE := List UInt8 × Nat
def insVb (pre : List VE) (x : VE) (args : Array Value) (X : Fact) : Prop := args = #[.string (mkS x.1), .int .i64 (x.2 : Int)] ∧ X = noF ∧ vbs[pre.length]? = some x
def vbEnd (J Jx : List VE → Fact → Prop) (Fs : List Fact) : Prop :=
  ∃ f Fs', Fs = f :: Fs' ∧ ((∃ xs, J xs f ∧ xs = vbs ∧ Fs' = []) ∨ (∃ pre, Jx pre f ∧ Fs' = []))
theorem verbs_it (l : Nat) (w : World) (f0 R : Fact) (J Jx : List VE → Fact → Prop) (hJ0 : J [] f0) (hJo : ∀ pre f, J pre f → f.own = true) (hRo : R.own = false) (hY : Yc Tryz.prog l J Jx R insVb)
    (hm : Mem w (f0 :: R :: [verbF 0])) :
    Con Tryz.prog n_order_Verbs_1 #[.func (.yield l) #[] #[]] w [f0] (fun _ Fs => vbEnd J Jx Fs) := by
  have g := good_order_Verbs_1 w (Un [f0])
  have hs0 : Sat (cx_order_Verbs_1 w (Un [f0])) Va.z 0 [] (f0 :: R :: [verbF 0]) w := by
    refine hm.sat0 rfl (fun f hf ho k hk => ?_)
    simp only [List.mem_cons, List.not_mem_nil, or_false] at hf
    rcases hf with rfl | rfl | rfl
    · exact ⟨_, by simp, hk⟩
    · rw [hRo] at ho; cases ho
    · cases ho
  refine con_of_sx (cx := cx_order_Verbs_1 w (Un [f0])) g b_order_Verbs_1 rfl rfl (β := Va.z) [.c (.v (.func (.yield l) #[] #[]))] 0 [] _ rfl rfl hs0 ?_
  refine ⟨verbCells, rfl, fun β w' hs => ?_, ?_⟩
  · intro j u hu
    obtain ⟨ad, q, hc⟩ := ((hs.get 2 rfl : (verbF 0).p w')).2 (by decide)
    cases q
    exact hc j u hu
  refine loop_rule (ι := List VE × Fact) 0 (fun i => [(0, .c (.v (.func (.yield l) #[] #[]))), (4, .agg (verbCells.map SL.v)), (5, .c (.v (.int .i64 (i.1.length : Int))))]) (fun _ => []) (fun i => [i.2, R, verbF 0])
    (fun i => J i.1 i.2 ∧ i.1.length ≤ 19 ∧ i.1 = vbs.take i.1.length) (fun i => 19 - i.1.length) ([], f0) ⟨hJ0, Nat.zero_le _, rfl⟩ (Ent.mk' ⟨rfl, rfl, rfl, trivial⟩ rfl (fun β w' hs => hs)) g ?_
  rintro ⟨pre, f⟩ ⟨hJ, hl, hpre⟩
  simp only at hJ hl hpre
  have hfo := hJo _ _ hJ
  simp only
  refine BIf.dec (fun hlt => ?_) (fun hge => ?_)
  · have hlt : pre.length < 19 := by have h0 : (pre.length : Int) < 19 := hlt; omega
    obtain ⟨x, hx, _⟩ := at_lt (l := vbs) (k := pre.length) hlt
    refine ⟨pre.length, (vbV x).map SL.v, rfl, hlt, verb_at vbs _ x hx, ?_⟩
    refine yield_ro (X := noF) (x := x) hY 0 1 rfl hJ hfo rfl hRo (by decide) (fun β => ⟨rfl, rfl, hx⟩) rfl (fun β w _ => ⟨trivial, fun k hk => hk.elim, fun k _ h => h.elim⟩) ?_ ?_
    · intro f2 hfo2 hJ2
      refine ⟨((pre.length + 1 : Nat) : Int), by rw [wrap_i64 (by omega) (by omega)]; rfl, ?_⟩
      have e : (pre ++ [x]).length = pre.length + 1 := by rw [List.length_append]; rfl
      refine ⟨(pre ++ [x], f2), ⟨hJ2, by show (pre ++ [x]).length ≤ 19; omega, by show pre ++ [x] = vbs.take (pre ++ [x]).length; rw [e, List.take_add_one, hx, ← hpre]; rfl⟩, by show 19 - (pre ++ [x]).length < 19 - pre.length; omega, ?_⟩
      simp only [e]
      exact Ent.mk' ⟨rfl, rfl, rfl, trivial⟩ rfl (fun β w' hs => (hs.keepB (List.nil_sublist _)).lower)
    · intro f2 hfo2 hJ2
      intro β w' hs
      exact (hs.keepB (List.nil_sublist _)).fin [0] ⟨f2, _, rfl, .inr ⟨_, hJ2, rfl⟩⟩ rfl rfl rfl ⟨hfo2, trivial⟩
  · have hp19 : pre.length = 19 := by have h0 : ¬ (pre.length : Int) < 19 := hge; omega
    have hpv : pre = vbs := by rw [hpre, hp19]; rfl
    intro β w' hs
    exact (hs.keepB (List.nil_sublist _)).fin [0] ⟨f, _, rfl, .inl ⟨pre, hJ, hpv, rfl⟩⟩ rfl rfl rfl ⟨hfo, trivial⟩
theorem orVerbs_c (w : World) : Pu Tryz.prog n_order_Verbs #[] w (.func (.func n_order_Verbs_1) #[] #[]) := by
  refine con_of_sx (cx := cx_order_Verbs w (Un [])) (good_order_Verbs w (Un [])) b_order_Verbs rfl rfl (β := Va.z) [] 0 [] [] rfl rfl (Sat.start rfl) ?_
  intro β w' hs
  exact hs.fin [] ⟨rfl, rfl⟩
theorem find_first {p : VE → Bool} {l pre : List VE} {x : VE} (hp : pre = l.take pre.length) (hx : l[pre.length]? = some x) (hn : ∀ y ∈ pre, p y = false) (h : p x = true) : l.find? p = some x := by
  obtain ⟨hlt, hx'⟩ := List.getElem?_eq_some_iff.1 hx
  have e : l = pre ++ x :: l.drop (pre.length + 1) := by
    have h1 := List.take_append_drop pre.length l
    rw [← hp, ← List.getElem_cons_drop (h := hlt), hx'] at h1
    exact h1.symm
  rw [e, List.find?_append, List.find?_eq_none.2 (fun y hy => by rw [hn y hy]; decide), Option.none_or, List.find?_cons, h]
theorem counted_c (w : World) (v : List UInt8) (A : Option Addr) (n c : Nat) (hm : Mem w [verbF 0]) : Pu Tryz.prog n_order_Command_counted #[.agg #[.string (mkS v), .slice A n c]] w (.int .i64 (cntE v n)) := by
  have g := good_order_Command_counted w (Un [])
  have hne : ∀ {x : VE}, ¬ mkS x.1 = mkS v → (x.1 == v) = false := fun h => by
    simp only [beq_eq_false_iff_ne]
    exact fun q => h (by rw [q])
  refine con_go (cx := cx_order_Command_counted w (Un [])) g b_order_Command_counted [.agg [.v (.string (mkS v)), .v (.slice A n c)]] [verbF 0] hm ?_
  refine call_pu (fun β w' hs => orVerbs_c w') ?_
  refine range_rule (α := VE) (ι := Unit) (κ := Unit) g rfl (cv := []) rfl (by kernel_rfl) 2 (Nat.le_refl 2)
    (fun pre _ => pre = vbs.take pre.length ∧ ∀ y ∈ pre, (y.1 == v) = false) (fun _ => [⟨1, ty_api_Errno, [.v (.int .i64 0)]⟩, ⟨0, ty_order_Command, [.v (.string (mkS v)), .v (.slice A n c)]⟩]) (fun _ => []) (fun _ => trivial)
    (fun e pre _ => e = .ret) (fun _ => [⟨1, ty_api_Errno, [.v (.int .i64 (cntE v n))]⟩, ⟨0, ty_order_Command, [.v (.string (mkS v)), .v (.slice A n c)]⟩]) (fun _ => []) (fun _ => trivial)
    [] [verbF 0] [] trivial (fun g h => by cases h) () ⟨rfl, fun y h => by cases h⟩ (fun β w hs => ⟨β, Agr.refl _ _, hs⟩) insVb
    (fun xs Fs' => xs = vbs ∧ Fs' = []) (fun pre Fs' => Fs' = [])
    (fun l w f0 R J Jx hJ0 hJo hRo hY hm => (verbs_it l w f0 R J Jx hJ0 hJo hRo hY hm).mono fun _ Fs h => h) ?_ ?_ ?_
  · rintro ⟨⟩ pre x args X W S l bs pn pn' hbs ⟨hpre, hno⟩ ⟨rfl, rfl, hx⟩
    refine ⟨_, rfl, ?_⟩
    refine BIf.not (BIf.dec (fun he => ?_) (fun he => ?_))
    · have hxv : x.1 = v := by
        have h := congrArg (fun s : ByteArray => s.data.toList) he
        simpa [mkS] using h
      have hf : vbs.find? (fun q => q.1 == v) = some x := find_first hpre hx hno (by rw [hxv]; exact beq_self_eq_true v)
      have hc : cntE v n = if x.2 = n then 0 else 1 := by unfold cntE; rw [hf]
      refine BIf.not (BIf.dec (fun hn => ?_) (fun hn => ?_))
      · have hn0 : x.2 = n := by have h0 : (x.2 : Int) = n := hn; omega
        rw [if_pos hn0] at hc
        rw [hc]
        exact ⟨(), rfl, Ent.mk' trivial rfl (fun β w hs => (hs.perm []).lower (n' := 2))⟩
      · have hn0 : ¬ x.2 = n := fun h => hn (by show (x.2 : Int) = n; omega)
        rw [if_neg hn0] at hc
        rw [hc]
        exact ⟨(), rfl, Ent.mk' trivial rfl (fun β w hs => (hs.perm []).lower (n' := 2))⟩
    · refine ⟨(), ⟨by rw [List.length_append]; show pre ++ [x] = vbs.take (pre.length + 1); rw [List.take_add_one, hx, ← hpre]; rfl, fun y hy => ?_⟩, Ent.mk' trivial rfl (fun β w hs => (hs.perm []).lower (n' := 2))⟩
      rcases List.mem_append.1 hy with hy | hy
      · exact hno y hy
      · obtain rfl := List.mem_singleton.1 hy
        exact hne he
  · rintro xs ⟨⟩ Fs ⟨hpre, hno⟩ ⟨rfl, rfl⟩
    have e : cntE v n = 6 := by
      unfold cntE
      rw [List.find?_eq_none.2 (fun y hy => by rw [hno y hy]; decide)]
    intro β w' hs
    refine (hs.keepB (List.nil_sublist _)).fin [] ⟨?_, rfl⟩
    rw [e]
    rfl
  · rintro e pre ⟨⟩ Fs rfl rfl
    intro β w' hs
    exact (hs.keepB (List.nil_sublist _)).fin [] ⟨rfl, rfl⟩
def tx (l : List (List UInt8)) : List Value := l.map fun s => .string (mkS s)
def txF (A : Option Addr) (l : List (List UInt8)) (c : Nat) : Fact := rowF ty_string 1 (.slice A l.length c) l.length (tx l)
theorem tx_one (l : List (List UInt8)) : ∀ u ∈ tx l, ∃ s, u = .string s := by
  intro u hu
  obtain ⟨s, _, rfl⟩ := List.mem_map.1 hu
  exact ⟨_, rfl⟩
def parF (s : List UInt8) : List UInt8 × List (List UInt8) × Int :=
  if 4096 < s.length then ([], [], 3) else match wordsF s with
    | (v :: a, true) => if cntE v a.length = 0 then (v, a, 0) else ([], [], cntE v a.length)
    | _ => ([], [], 4)
def parOut (s : List UInt8) (v : Value) (Fs : List Fact) : Prop :=
  (∃ A0 c0 v0 a, 4096 ≥ s.length ∧ wordsF s = (v0 :: a, true) ∧ cntE v0 a.length = 0 ∧ parF s = (v0, a, 0) ∧ v = .tuple #[.agg #[.string (mkS v0), .slice (cutA A0 c0 1 1) a.length (c0 - 1)], .int .i64 0] ∧ a.length + 1 ≤ c0 ∧ Fs = [txF A0 (v0 :: a) c0]) ∨
  (∃ e : Int, parF s = ([], [], e) ∧ e ≠ 0 ∧ 0 ≤ e ∧ e ≤ 6 ∧ v = .tuple #[.agg #[.string (mkS []), .slice none 0 0], .int .i64 e] ∧ Fs = [])
theorem cntE_le (v : List UInt8) (n : Nat) : 0 ≤ cntE v n ∧ cntE v n ≤ 6 := by
  unfold cntE
  split
  · split <;> decide
  · decide
theorem toldW_len (s : List UInt8) : (toldW (wordsF s)).length ≤ s.length + 1 := by
  have := (wordsF_len s).1
  unfold toldW
  split <;> simp <;> omega
theorem told_pre {s : List UInt8} {ws : List (List UInt8)} {x : WE} (h : (toldW (wordsF s))[ws.length]? = some x) : x.2 = false → (wordsF s).2 = false := by
  intro hx
  cases hb : (wordsF s).2 with
  | false => rfl
  | true =>
    unfold toldW at h
    rw [hb, if_pos rfl, List.append_nil, List.getElem?_map] at h
    cases hg : (wordsF s).1[ws.length]? with
    | none => rw [hg] at h; cases h
    | some y => rw [hg] at h; cases h; cases hx
theorem told_all {q : List (List UInt8) × Bool} {ws : List (List UInt8)} (h : ws.map (fun w => (w, true)) = toldW q) : q = (ws, true) := by
  obtain ⟨l, b⟩ := q
  unfold toldW at h
  cases b with
  | false =>
    have : (([], false) : WE) ∈ ws.map (fun w => (w, true)) := by rw [h]; simp
    obtain ⟨y, _, hy⟩ := List.mem_map.1 this
    cases hy
  | true =>
    rw [if_pos rfl, List.append_nil] at h
    have : l = ws := by
      have h2 := congrArg (List.map Prod.fst) h
      simpa [Function.comp_def] using h2.symm
    rw [this]
theorem parse_c (w : World) (s : List UInt8) (hs : s.length ≤ 100000) (hm : Mem w [verbF 0]) : Con Tryz.prog n_order_Parse #[.string (mkS s)] w [] (parOut s) := by
  have g := good_order_Parse w (Un [])
  have hsz := mkS_len s
  have hml := maxLen_eq
  have htl := toldW_len s
  refine con_go (cx := cx_order_Parse w (Un [])) g b_order_Parse [.c (.v (.string (mkS s)))] [verbF 0] hm ?_
  refine BIf.dec (fun hlt => ?_) (fun hge => ?_)
  · have hlt : 4096 < s.length := by have h0 : (4096 : Int) < (mkS s).size := hlt; omega
    intro β w' hs
    exact (hs.keepB (List.nil_sublist _)).fin [] (.inr ⟨3, if_pos hlt, by decide, by decide, by decide, rfl, rfl⟩)
  have hle : ¬ 4096 < s.length := by have h0 : ¬ (4096 : Int) < (mkS s).size := hge; omega
  refine call_con [] (fun β w' hs' => orWords_c w' (mkS s)) ?_
  rintro v Fs ⟨bx, rfl, rfl⟩
  refine range_rule (α := WE) (ι := Option Addr × Nat × List (List UInt8)) (κ := Option Addr × Nat × List (List UInt8)) g rfl (cv := [.pointer (some ⟨bx, 0, none⟩)]) rfl (by kernel_rfl) 3 (Nat.le_refl 3)
    (fun pre i => pre = i.2.2.map (fun w => (w, true)) ∧ i.2.2.length ≤ i.2.1 ∧ (0 < i.2.2.length → ∃ ad, i.1 = some ad)) (fun i => [⟨2, ty_sl_string, [.v (.slice i.1 i.2.2.length i.2.1)]⟩, ⟨1, ty_api_Errno, [.v (.int .i64 0)]⟩, ⟨0, ty_order_Command, [.v (.string (mkS [])), .v (.slice none 0 0)]⟩]) (fun i => [txF i.1 i.2.2 i.2.1]) (fun i => ⟨rfl, trivial⟩)
    (fun e pre _ => e = .ret ∧ (wordsF s).2 = false) (fun i => [⟨2, ty_sl_string, [.v (.slice i.1 i.2.2.length i.2.1)]⟩, ⟨1, ty_api_Errno, [.v (.int .i64 4)]⟩, ⟨0, ty_order_Command, [.v (.string (mkS [])), .v (.slice none 0 0)]⟩]) (fun i => [txF i.1 i.2.2 i.2.1]) (fun i => ⟨rfl, trivial⟩)
    [bkF bx ty_string [.string (mkS s)]] [] [verbF 0] ⟨rfl, trivial⟩ (fun g h => by obtain rfl := List.mem_singleton.1 h; rfl) (none, 0, []) ⟨rfl, Nat.le_refl _, fun h => absurd h (Nat.lt_irrefl 0)⟩ (fun β w hs => ⟨β, Agr.refl _ _, (hs.nilRow ty_string 1).perm [1, 0, 2]⟩) (insWd (toldW (wordsF s)))
    (fun xs Fs' => xs = toldW (wordsF s) ∧ Fs' = []) (fun pre Fs' => Fs' = [])
    (fun l w f0 R J Jx hJ0 hJo hRo hY hm => (words_it l w bx s hs f0 R J Jx hJ0 hJo hRo hY hm).mono fun _ Fs h => h) ?_ ?_ ?_
  · rintro ⟨A, c, ws⟩ pre ⟨x, xb⟩ args X W S l bs pn pn' hbs ⟨hpre, hwc, hwA⟩ ⟨rfl, rfl, hx⟩
    simp only at hpre hwc hwA hx
    subst hpre
    rw [List.length_map] at hx
    have hlt := (List.getElem?_eq_some_iff.1 hx).1
    refine ⟨_, rfl, ?_⟩
    cases xb with
    | false =>
      exact ⟨(A, c, ws), ⟨rfl, told_pre hx rfl⟩, Ent.mk' trivial rfl (fun β w hs => (hs.perm [1]).lower (n' := 3))⟩
    | true =>
      intro b1
      refine ⟨2, ws.length, ws.length + 1, tx ws, [.string (mkS x)], tx (ws ++ [x]), rfl, fun β w' hs => row_rd (hs.get 0 rfl), (fun u hu => by obtain rfl := List.mem_singleton.1 hu; rfl), rfl, by simp [tx], by omega, by show (ws.length + 1) * 16 ≤ _; omega, ?_⟩
      intro A2 c2 p2 _ h2
      have e1 : (ws ++ [x]).length = ws.length + 1 := by simp
      obtain ⟨ad2, rfl⟩ : ∃ ad, A2 = some ad := by
        cases A2 with
        | none => exact absurd (h2 rfl).2 (by decide)
        | some ad => exact ⟨ad, rfl⟩
      exact ⟨(some ad2, c2, ws ++ [x]), ⟨by simp, by show (ws ++ [x]).length ≤ c2; omega, fun _ => ⟨_, rfl⟩⟩, Ent.mk' trivial rfl (fun β w hs => by
        show Sat _ _ _ [⟨2, ty_sl_string, [.v (.slice (some ad2) (ws ++ [x]).length c2)]⟩, ⟨1, ty_api_Errno, [.v (.int .i64 0)]⟩, ⟨0, ty_order_Command, [.v (.string (mkS [])), .v (.slice none 0 0)]⟩] [rowF ty_string 1 (.slice (some ad2) (ws ++ [x]).length c2) (ws ++ [x]).length (tx (ws ++ [x]))] _
        rw [e1]
        exact (hs.perm [2]).lower (n' := 3))⟩
  · rintro xs ⟨A, c, ws⟩ Fs ⟨hpre, hwc, hwA⟩ ⟨rfl, rfl⟩
    simp only at hpre hwc hwA
    have hq := told_all hpre.symm
    cases ws with
    | nil => exact absurd rfl (by have := wordsF_ne (s := s) (by rw [hq]); rw [hq] at this; exact this)
    | cons v0 a =>
      simp only [List.length_cons] at hwc
      obtain ⟨ad, rfl⟩ := hwA (Nat.succ_pos _)
      refine draw_rule g p_order_Parse_10 (by kernel_rfl) [⟨2, ty_sl_string, [.v (.slice (some ad) (v0 :: a).length c)]⟩] [txF (some ad) (v0 :: a) c] (Sub.of (((List.nil_sublist _).cons_cons _)) (((List.nil_sublist _).cons_cons _))) ?_
      refine ⟨ad, 0, rfl, rfl, Nat.succ_pos _, ?_⟩
      refine ⟨.string (mkS v0), fun β w' hs => Rd.cell1 (row_rd (hs.get 0 rfl)) rfl, ?_⟩
      refine ⟨c, a.length + 1, 1, a.length, c - 1, _, rfl, rfl, rfl, Nat.le_refl _, hwc, by omega, by omega, rfl, rfl, ?_⟩
      refine ⟨Sub.of (((List.nil_sublist _).cons_cons _).cons _) ((List.nil_sublist _).cons_cons _), ?_⟩
      refine ⟨Sub.of (((List.nil_sublist _).cons_cons _).cons _) ((List.nil_sublist _).cons_cons _), ?_⟩
      refine call_pu (fun β w' hs => counted_c w' v0 (cutA (some ad) c 1 1) a.length (c - 1) (hs.mem.take (js := [1]) rfl)) ?_
      obtain ⟨e, he⟩ : ∃ e, cntE v0 a.length = e := ⟨_, rfl⟩
      have hce := cntE_le v0 a.length
      rw [he] at hce
      have hp : parF s = if e = 0 then (v0, a, 0) else ([], [], e) := by
        unfold parF
        rw [if_neg hle, hq]
        simp only [he]
      rw [he]
      refine BIf.not (BIf.dec (fun h0 => ?_) (fun h0 => ?_))
      · have h0 : e = 0 := h0
        subst h0
        intro β w' hs
        exact (hs.keepB (List.nil_sublist _)).fin [0] (.inl ⟨some ad, c, v0, a, by omega, hq, he, hp, rfl, hwc, rfl⟩) rfl rfl rfl ⟨rfl, trivial⟩
      · have h0 : ¬ e = 0 := h0
        rw [if_neg h0] at hp
        intro β w' hs
        exact (hs.keepB (List.nil_sublist _)).fin [] (.inr ⟨e, hp, h0, hce.1, hce.2, rfl, rfl⟩)
  · rintro e pre ⟨A, c, ws⟩ Fs ⟨rfl, hb⟩ rfl
    have hp : parF s = ([], [], 4) := by
      unfold parF
      rw [if_neg hle]
      generalize wordsF s = q at hb
      obtain ⟨l, b⟩ := q
      simp only at hb
      subst hb
      cases l <;> rfl
    intro β w' hs
    exact (hs.keepB (List.nil_sublist _)).fin [] (.inr ⟨4, hp, by decide, by decide, by decide, rfl, rfl⟩)
end Go.Proofs.YteenjgfbbkdlhaaGreatDoor.Sx

namespace Go.Proofs.YteenjgfbbkdlhaaGreatDoor.Sx
open Go Sha
attribute [local irreducible] Calls
theorem chg_of {w w' : World} (h : RowKit.Below w.heap.size w w') : Chg None_ w w' := ⟨h.os, h.tape, h.output, h.size, fun k hk _ => h.block k hk⟩
def joinB (xs : List ByteArray) (sep : ByteArray) : ByteArray := ⟨(Lib.join (xs.map (·.data.toList)) sep.data.toList).toArray⟩
theorem join_c (w : World) (b c : Nat) (xs : List ByteArray) (sep : ByteArray) (hP : Rd 1 (some ⟨b, 0, none⟩) xs.length (xs.map Value.string) w) (hb : b < w.heap.size) (hN : xs.length ≤ 1000) (hcap : xs.length ≤ c) (hlen : (Lib.join (xs.map (·.data.toList)) sep.data.toList).length ≤ 140737488355328) :
    Pu Tryz.prog n_strings_Join #[.slice (some ⟨b, 0, none⟩) xs.length c, .string sep] w (.string (joinB xs sep)) := by
  refine pu_of (Calls.mono (Tryz.strings_Join b 0 c xs sep w (fun j x hx => ?_) hb (by omega) hcap hlen) ?_)
  · have hj : j < xs.length := (List.getElem?_eq_some_iff.1 hx).1
    obtain ⟨ad, h1, h2⟩ := hP.2 (by omega)
    obtain rfl := Option.some.inj h1
    have := h2 j (.string x) (by rw [List.getElem?_map, hx]; rfl)
    rw [add_none] at this
    exact this
  · rintro e w' ⟨rfl, hw⟩
    exact ⟨_, rfl, rfl, chg_of hw⟩
end Go.Proofs.YteenjgfbbkdlhaaGreatDoor.Sx

namespace Go.Proofs.YteenjgfbbkdlhaaGreatDoor.Sx
open Go
def escC (c : UInt8) : Option (List UInt8) := if c.toNat = 10 then some [92, 110] else if c.toNat = 34 ∨ c.toNat = 92 then some [92, c] else if insC c = true then some [c] else none
def escS : List UInt8 → Option (List UInt8)
  | [] => some []
  | c :: r => (escC c).bind fun a => (escS r).map (a ++ ·)
def wrtS (w : List UInt8) : Option (List UInt8) := if w ≠ [] ∧ w.all plnC = true then some w else (escS w).map fun e => 34 :: (e ++ [34])
def wrtL : List (List UInt8) → Option (List (List UInt8))
  | [] => some []
  | a :: r => (wrtS a).bind fun u => (wrtL r).map (u :: ·)
def catW (us : List (List UInt8)) : List UInt8 := us.flatMap fun u => 32 :: u
def texF (v : List UInt8) (a : List (List UInt8)) : List UInt8 × Int :=
  if cntE v a.length = 0 then match wrtL a with
    | none => ([], 4)
    | some us => if 4096 < (v ++ catW us).length then ([], 3) else (v ++ catW us, 0)
  else ([], cntE v a.length)
theorem texF_bad {v : List UInt8} {a : List (List UInt8)} (h : ¬ cntE v a.length = 0) : texF v a = ([], cntE v a.length) := by rw [texF, if_neg h]
theorem texF_none {v : List UInt8} {a : List (List UInt8)} (h : cntE v a.length = 0) (hw : wrtL a = none) : texF v a = ([], 4) := by rw [texF, if_pos h, hw]
theorem texF_some {v : List UInt8} {a us : List (List UInt8)} (h : cntE v a.length = 0) (hw : wrtL a = some us) : texF v a = if 4096 < (v ++ catW us).length then ([], 3) else (v ++ catW us, 0) := by rw [texF, if_pos h, hw]
theorem escC_len {c : UInt8} {a : List UInt8} (h : escC c = some a) : a.length ≤ 2 := by
  unfold escC at h
  split at h
  · cases h; decide
  split at h
  · cases h; simp
  split at h
  · cases h; simp
  · cases h
theorem escS_len : ∀ {w e : List UInt8}, escS w = some e → e.length ≤ 2 * w.length
  | [], e, h => by cases h; exact Nat.le_refl 0
  | c :: r, e, h => by
    obtain ⟨a, ha, h⟩ := Option.bind_eq_some_iff.1 h
    obtain ⟨b, hb, rfl⟩ := Option.map_eq_some_iff.1 h
    have h1 := escC_len ha
    have h2 := escS_len hb
    simp only [List.length_append, List.length_cons]
    omega
theorem wrtS_len {w u : List UInt8} (h : wrtS w = some u) : u.length ≤ 2 * w.length + 2 := by
  unfold wrtS at h
  split at h
  · cases h; omega
  · obtain ⟨e, he, rfl⟩ := Option.map_eq_some_iff.1 h
    have := escS_len he
    simp only [List.length_cons, List.length_append, List.length_nil]
    omega
theorem quot_esc (t : List UInt8) : ∀ {w e : List UInt8}, escS w = some e → quotS false (e ++ 34 :: t) = some (w, t)
  | [], e, h => by cases h; rfl
  | c :: r, e, h => by
    obtain ⟨a, ha, h⟩ := Option.bind_eq_some_iff.1 h
    obtain ⟨b, hb, rfl⟩ := Option.map_eq_some_iff.1 h
    have ih := quot_esc t hb
    unfold escC at ha
    split at ha
    · rename_i h10
      cases ha
      have hc : c = 10 := UInt8.toNat_inj.1 h10
      subst hc
      show quotS false (92 :: 110 :: (b ++ 34 :: t)) = _
      rw [quotS, if_neg (by decide), if_pos (by decide), quotS, if_neg (by decide), if_pos (by decide), ih]
      rfl
    split at ha
    · rename_i hq
      cases ha
      show quotS false (92 :: c :: (b ++ 34 :: t)) = _
      rw [quotS, if_neg (by decide), if_pos (by decide), quotS, if_pos hq, ih]
      rfl
    split at ha
    · rename_i hq hi
      cases ha
      show quotS false (c :: (b ++ 34 :: t)) = _
      rw [quotS, if_neg (fun q => hq (.inl q)), if_neg (fun q => hq (.inr q)), if_pos hi, ih]
      rfl
    · cases ha
def TlOk (t : List UInt8) : Prop := t = [] ∨ ∃ r, t = 32 :: r
theorem tw_all {p : UInt8 → Bool} : ∀ {w t : List UInt8}, w.all p = true → (∀ x r, t = x :: r → p x = false) → (w ++ t).takeWhile p = w ∧ (w ++ t).dropWhile p = t
  | [], [], _, _ => ⟨rfl, rfl⟩
  | [], x :: r, _, h => by
    have := h x r rfl
    simp [this]
  | c :: r, t, hw, h => by
    simp only [List.all_cons, Bool.and_eq_true] at hw
    have ih := tw_all (t := t) hw.2 h
    simp only [List.cons_append, List.takeWhile_cons, List.dropWhile_cons, hw.1, if_true]
    exact ⟨by rw [ih.1], ih.2⟩
theorem word_bare {w t : List UInt8} (h0 : w ≠ []) (hw : w.all plnC = true) (ht : TlOk t) : wordF (w ++ t) = some (w, t) := by
  have htw := tw_all (t := t) hw (fun x r hx => by
    rcases ht with rfl | ⟨r', rfl⟩
    · cases hx
    · cases hx; rfl)
  cases w with
  | nil => exact absurd rfl h0
  | cons c r =>
    have hc : plnC c = true := by simp only [List.all_cons, Bool.and_eq_true] at hw; exact hw.1
    have h34 : ¬ c.toNat = 34 := fun q => by
      have : c = 34 := UInt8.toNat_inj.1 q
      subst this
      exact absurd hc (by decide)
    rw [List.cons_append] at htw ⊢
    rw [wordF, if_neg h34, if_pos hc, htw.1, htw.2]
theorem word_wrt {w u t : List UInt8} (h : wrtS w = some u) (ht : TlOk t) : wordF (u ++ t) = some (w, t) := by
  unfold wrtS at h
  split at h
  · rename_i hw
    cases h
    exact word_bare hw.1 hw.2 ht
  · obtain ⟨e, he, rfl⟩ := Option.map_eq_some_iff.1 h
    show wordF (34 :: ((e ++ [34]) ++ t)) = _
    rw [wordF, if_pos (by decide), List.append_assoc]
    exact quot_esc t he
theorem words_cat : ∀ {a us : List (List UInt8)}, wrtL a = some us → ∀ {u w : List UInt8}, (∀ t, TlOk t → wordF (u ++ t) = some (w, t)) → wordsF (u ++ catW us) = (w :: a, true)
  | [], us, h, u, w, hu => by
    cases h
    rw [wordsF_step]
    show (match wordF (u ++ []) with | none => _ | some (w, []) => _ | some (w, c :: r) => _) = _
    rw [hu [] (.inl rfl)]
  | x :: r, us, h, u, w, hu => by
    obtain ⟨y, hy, h⟩ := Option.bind_eq_some_iff.1 h
    obtain ⟨b, hb, rfl⟩ := Option.map_eq_some_iff.1 h
    have ih := words_cat hb (fun t ht => word_wrt hy ht)
    have e : catW (y :: b) = 32 :: (y ++ catW b) := rfl
    rw [wordsF_step, e, hu _ (.inr ⟨_, rfl⟩)]
    simp only
    rw [if_pos (by decide), ih]
theorem vbs_bare : ∀ q ∈ vbs, q.1 ≠ [] ∧ q.1.all plnC = true := by decide +kernel
theorem cnt_bare {v : List UInt8} {n : Nat} (h : cntE v n = 0) : v ≠ [] ∧ v.all plnC = true ∧ v.length ≤ 13 := by
  unfold cntE at h
  cases hf : vbs.find? (fun q => q.1 == v) with
  | none => rw [hf] at h; cases h
  | some q =>
    have h1 := List.mem_of_find?_eq_some hf
    have h2 : q.1 = v := by simpa using List.find?_some hf
    have h3 := vbs_bare q h1
    have h4 : ∀ q ∈ vbs, q.1.length ≤ 13 := by decide +kernel
    rw [← h2]
    exact ⟨h3.1, h3.2, h4 q h1⟩
theorem par_tex {v : List UInt8} {a : List (List UInt8)} {s : List UInt8} (h : texF v a = (s, 0)) : parF s = (v, a, 0) := by
  unfold texF at h
  split at h
  · rename_i h0
    cases hw : wrtL a with
    | none => rw [hw] at h; cases h
    | some us =>
      rw [hw] at h
      simp only at h
      split at h
      · cases h
      · rename_i hl
        injection h with h _
        subst h
        have hb := cnt_bare h0
        have hws := words_cat hw (u := v) (w := v) (fun t ht => word_bare hb.1 hb.2.1 ht)
        unfold parF
        rw [if_neg hl, hws]
        simp only [h0, if_true]
  · rename_i h0
    injection h with _ h
    exact absurd h h0
theorem join_cat (v : List UInt8) (us : List (List UInt8)) : Lib.join (v :: us) [32] = v ++ catW us := by
  rw [Lib.join_cons]
  unfold Lib.joinTail catW
  rw [List.flatMap_def]
  rfl
end Go.Proofs.YteenjgfbbkdlhaaGreatDoor.Sx

namespace Go.Proofs.YteenjgfbbkdlhaaGreatDoor.Sx
open Go
attribute [local irreducible] Calls
theorem mkS_app (a b : List UInt8) : mkS a ++ mkS b = mkS (a ++ b) := by
  have h : (mkS a ++ mkS b).data.toList = (mkS (a ++ b)).data.toList := by simp [mkS]
  have e : ∀ s : ByteArray, s = ⟨s.data.toList.toArray⟩ := fun s => by cases s; simp
  rw [e (mkS a ++ mkS b), h, ← e]
set_option maxRecDepth 4000 in
theorem rBare_c (w : World) (x : UInt8) : Pu Tryz.prog n_ostiaryref24_bare #[byte x] w (.bool (plnC x)) := by
  have g := good_ostiaryref24_bare w (Un [])
  refine con_of_sx (cx := cx_ostiaryref24_bare w (Un [])) g b_ostiaryref24_bare rfl rfl (β := Va.z) [.c (.v (byte x))] 0 [] [] rfl rfl (Sat.start rfl) ?_
  have fin : ∀ b, plnC x = b → ∀ {n : Nat} {H : List Bk} {F : List Fact} (β : Va) (w' : World), Sat (cx_ostiaryref24_bare w (Un [])) β n H F w' → Fin w [] (fun u Fs => u = .bool (plnC x) ∧ Fs = []) (.bool b) w' := by
    intro b h n H F β w' hs
    rw [h]
    exact (hs.keepB (List.nil_sublist _)).fin [] ⟨rfl, rfl⟩
  refine BIf.dec (fun h1 => ?_) (fun h1 => ?_)
  · have q1 : (32 : Int) < x.toNat := h1
    --sx
    refine BIf.dec (p := (x.toNat : Int) < 127) (fun h2 => ?_) (fun h2 => ?_)
    · have q2 : (x.toNat : Int) < 127 := h2
      refine BIf.not (BIf.dec (fun h3 => ?_) (fun h3 => ?_))
      · have q3 : (x.toNat : Int) = 34 := h3
        exact fin false (by unfold plnC; rw [decide_eq_false (p := x.toNat ≠ 34) (by omega), Bool.false_and, Bool.and_false, Bool.and_false])
      · have q3 : ¬ (x.toNat : Int) = 34 := h3
        refine fin (!decide ((x.toNat : Int) = 92)) ?_
        unfold plnC
        rw [decide_eq_true (p := 33 ≤ x.toNat) (by omega), decide_eq_true (p := x.toNat ≤ 126) (by omega), decide_eq_true (p := x.toNat ≠ 34) (by omega), Bool.true_and, Bool.true_and, Bool.true_and, ← decide_not]
        exact decide_eq_decide.2 (by omega)
    · have q2 : ¬ (x.toNat : Int) < 127 := h2
      exact fin false (by unfold plnC; rw [decide_eq_false (p := x.toNat ≤ 126) (by omega), Bool.false_and, Bool.and_false])
  · have q1 : ¬ (32 : Int) < x.toNat := h1
    exact fin false (by unfold plnC; rw [decide_eq_false (p := 33 ≤ x.toNat) (by omega)]; rfl)
theorem drop_at {α : Type} {s : List α} {k : Nat} {x : α} (hlt : k < s.length) (hx : s[k]? = some x) : s.drop k = x :: s.drop (k + 1) := by
  rw [← List.getElem_cons_drop (h := hlt)]
  rw [List.getElem?_eq_getElem hlt] at hx
  rw [Option.some.inj hx]
theorem sub_one {s : List UInt8} {k : Nat} {x : UInt8} (hlt : k < s.length) (hx : s[k]? = some x) : (mkS s).extract k (k + 1) = mkS [x] := by
  rw [mkS_sub]
  congr 1
  rw [List.take_add_one, hx, List.drop_append_of_le_length (by rw [List.length_take]; omega), List.drop_eq_nil_of_le (by rw [List.length_take]; omega)]
  rfl
theorem esc_step {w out e : List UInt8} {k : Nat} {x : UInt8} (hlt : k < w.length) (hx : w[k]? = some x) (hq : escS w = (escS (w.drop k)).map (out ++ ·)) (he : escC x = some e) : escS w = (escS (w.drop (k + 1))).map ((out ++ e) ++ ·) := by
  rw [hq, drop_at hlt hx, escS, he]
  cases escS (w.drop (k + 1)) <;> simp
theorem esc_bad {w out : List UInt8} {k : Nat} {x : UInt8} (hlt : k < w.length) (hx : w[k]? = some x) (hq : escS w = (escS (w.drop k)).map (out ++ ·)) (he : escC x = none) : escS w = none := by
  rw [hq, drop_at hlt hx, escS, he]
  rfl
theorem ne_nil_b (s : List UInt8) : (!decide (mkS s = (⟨#[]⟩ : ByteArray))) = decide (s ≠ []) := by
  cases s with
  | nil => rfl
  | cons c r =>
    rw [decide_eq_false (fun h => by have h := congrArg ByteArray.size h; rw [mkS_len] at h; simp [ByteArray.size] at h), decide_eq_true (by simp)]
    rfl
theorem esc_none {x : UInt8} (h10 : ¬ x.toNat = 10) (_h34 : ¬ x.toNat = 34) (_h92 : ¬ x.toNat = 92) (hi : x.toNat < 32 ∨ x.toNat = 127) : escC x = none ∧ plnC x = false := by
  have hin : insC x = false := by
    unfold insC
    rcases hi with h | h
    · rw [decide_eq_false (p := 32 ≤ x.toNat) (by omega), Bool.false_and]
    · rw [decide_eq_false (p := x.toNat ≠ 127) (by omega), Bool.and_false]
  refine ⟨by rw [escC, if_neg h10, if_neg (by omega), if_neg (by rw [hin]; decide)], ?_⟩
  unfold plnC
  rcases hi with h | h
  · rw [decide_eq_false (p := 33 ≤ x.toNat) (by omega), Bool.false_and]
  · rw [decide_eq_false (p := x.toNat ≤ 126) (by omega), Bool.false_and, Bool.and_false]
theorem esc_in {x : UInt8} (h10 : ¬ x.toNat = 10) (h34 : ¬ x.toNat = 34) (h92 : ¬ x.toNat = 92) (hi : ¬ (x.toNat < 32 ∨ x.toNat = 127)) : escC x = some [x] := by
  rw [escC, if_neg h10, if_neg (by omega), if_pos]
  unfold insC
  rw [decide_eq_true (p := 32 ≤ x.toNat) (by omega), decide_eq_true (p := x.toNat ≠ 127) (by omega)]
  rfl
theorem esc_sl {x : UInt8} (h10 : ¬ x.toNat = 10) (h : x.toNat = 34 ∨ x.toNat = 92) : escC x = some [92, x] := by
  rw [escC, if_neg h10, if_pos h]
theorem esc_nl {x : UInt8} (h10 : x.toNat = 10) : escC x = some [92, 110] := by
  rw [escC, if_pos h10]
def plnW (w : List UInt8) : Bool := decide (w ≠ []) && w.all plnC
theorem wrtS_eq (w : List UInt8) : wrtS w = if plnW w = true then some w else (escS w).map fun e => 34 :: (e ++ [34]) := by
  unfold wrtS plnW
  by_cases h : w ≠ [] ∧ w.all plnC = true
  · rw [if_pos h, if_pos (by rw [decide_eq_true h.1, h.2]; rfl)]
  · rw [if_neg h, if_neg (fun q => h (by simpa using q))]
theorem pln_bad {w : List UInt8} {x : UInt8} (hx : x ∈ w) (hp : plnC x = false) : plnW w = false := by
  unfold plnW
  rw [List.all_eq_false.2 ⟨x, hx, by rw [hp]; decide⟩, Bool.and_false]
theorem wrt_bad {w : List UInt8} {x : UInt8} (hx : x ∈ w) (hp : plnC x = false) (he : escS w = none) : wrtS w = none := by
  rw [wrtS_eq, pln_bad hx hp, if_neg (by decide), he]
  rfl
theorem all_snoc {w : List UInt8} {k : Nat} {x : UInt8} (hx : w[k]? = some x) : (w.take (k + 1)).all plnC = ((w.take k).all plnC && plnC x) := by
  rw [List.take_add_one, hx, List.all_append]
  simp
def wrtV : Option (List UInt8) → Value
  | none => .tuple #[.string (mkS []), .bool false]
  | some u => .tuple #[.string (mkS u), .bool true]
structure WrS where
  k : Nat
  pl : Bool
  out : List UInt8
set_option maxHeartbeats 1000000 in
theorem refWord_c (w : World) (s : List UInt8) (hl : s.length ≤ 100000) : Pu Tryz.prog n_ostiaryref24_Word #[.string (mkS s)] w (wrtV (wrtS s)) := by
  have g := good_ostiaryref24_Word w (Un [])
  have hsz := mkS_len s
  have hml := maxLen_eq
  refine con_of_sx (cx := cx_ostiaryref24_Word w (Un [])) g b_ostiaryref24_Word rfl rfl (β := Va.z) [.c (.v (.string (mkS s)))] 0 [] [] rfl rfl (Sat.start rfl) ?_
  have no : ∀ {x : UInt8}, x ∈ s → plnC x = false → escS s = none → ∀ {n : Nat} {H : List Bk} {F : List Fact} (β : Va) (w' : World), Sat (cx_ostiaryref24_Word w (Un [])) β n H F w' → Fin w [] (fun u Fs => u = wrtV (wrtS s) ∧ Fs = []) (.tuple #[.string (mkS []), .bool false]) w' := by
    intro x hx hp he n H F β w' hs
    rw [wrt_bad hx hp he]
    exact (hs.keepB (List.nil_sublist _)).fin [] ⟨rfl, rfl⟩
  refine loop_rule 0 (fun j : WrS => [(0, .c (.v (.string (mkS s)))), (4, .c (.v (.bool j.pl))), (5, .c (.v (.string (mkS (34 :: j.out))))), (6, .c (.v (.int .i64 (j.k : Int))))]) (fun _ => []) (fun _ => [])
    (fun j => j.k ≤ s.length ∧ j.pl = (decide (s ≠ []) && (s.take j.k).all plnC) ∧ escS s = (escS (s.drop j.k)).map (j.out ++ ·) ∧ j.out.length ≤ 2 * j.k) (fun j => s.length - j.k) ⟨0, decide (s ≠ []), []⟩ ⟨Nat.zero_le _, by simp, by cases h : escS s <;> simp [h], Nat.zero_le _⟩ (Ent.same ⟨rfl, congrArg (fun b => some (SV.c (SL.v (Value.bool b)))) (ne_nil_b s), rfl, rfl, trivial⟩ rfl) g ?_
  rintro ⟨k, pl, out⟩ ⟨hk, hpl, hq, ho⟩
  simp only at hk hpl hq ho
  refine BIf.dec (fun hlt0 => ?_) (fun hge => ?_)
  · have hlt : k < s.length := by have h0 : (k : Int) < (mkS s).size := hlt0; omega
    clear hlt0
    obtain ⟨x, hx, hxm⟩ := at_lt (l := s) (k := k) hlt
    have hal := all_snoc (w := s) hx
    refine ⟨k, x, rfl, hx, ?_⟩
    cases pl with
    | true =>
      refine call_pu (fun β w' hs => rBare_c w' x) ?_
      have hpn : plnC x = (decide (s ≠ []) && (s.take (k + 1)).all plnC) := by rw [hal, ← Bool.and_assoc, ← hpl, Bool.true_and]
      refine BIf.dec (fun h10 => ?_) (fun h10 => ?_)
      · have q10 : x.toNat = 10 := by have h0 : (x.toNat : Int) = 10 := h10; omega
        refine ⟨by rw [mkS_len]; show (34 :: out).length + 2 ≤ maxLen; rw [List.length_cons]; omega, ?_⟩
        rw [show mkS (34 :: out) ++ ⟨#[92, 110]⟩ = mkS (34 :: (out ++ [92, 110])) from mkS_app (34 :: out) [92, 110]]
        refine ⟨(((k + 1) : Nat) : Int), by rw [wrap_i64 (by first | omega | (dsimp only; omega)) (by first | omega | (dsimp only; omega))]; rfl, ?_⟩
        exact ⟨⟨k + 1, (plnC x), out ++ [92, 110]⟩, ⟨hlt, hpn, esc_step hlt hx hq (esc_nl q10), by show (out ++ [92, 110]).length ≤ 2 * (k + 1); rw [List.length_append]; show out.length + 2 ≤ _; omega⟩, by show s.length - (k + 1) < s.length - k; omega, Ent.same ⟨rfl, rfl, rfl, rfl, trivial⟩ rfl⟩
      have n10 : ¬ x.toNat = 10 := fun h => h10 (by show (x.toNat : Int) = 10; omega)
      refine BIf.dec (fun h34 => ?_) (fun h34 => ?_)
      · have q34 : x.toNat = 34 := by have h0 : (x.toNat : Int) = 34 := h34; omega
        refine ⟨(((k + 1) : Nat) : Int), by rw [wrap_i64 (by first | omega | (dsimp only; omega)) (by first | omega | (dsimp only; omega))]; rfl, ?_⟩
        refine ⟨k + 1, k, rfl, rfl, by omega, by omega, ?_⟩
        rw [sub_one hlt hx]
        refine ⟨by rw [mkS_len]; show 1 + 1 ≤ maxLen; omega, ?_⟩
        rw [show (⟨#[92]⟩ : ByteArray) ++ mkS [x] = mkS [92, x] from mkS_app [92] [x]]
        refine ⟨by rw [mkS_len, mkS_len]; show (34 :: out).length + 2 ≤ maxLen; rw [List.length_cons]; omega, ?_⟩
        rw [show mkS (34 :: out) ++ mkS [92, x] = mkS (34 :: (out ++ [92, x])) from mkS_app (34 :: out) [92, x]]
        refine ⟨(((k + 1) : Nat) : Int), by rw [wrap_i64 (by first | omega | (dsimp only; omega)) (by first | omega | (dsimp only; omega))]; rfl, ?_⟩
        exact ⟨⟨k + 1, (plnC x), out ++ [92, x]⟩, ⟨hlt, hpn, esc_step hlt hx hq (esc_sl n10 (.inl q34)), by show (out ++ [92, x]).length ≤ 2 * (k + 1); rw [List.length_append]; show out.length + 2 ≤ _; omega⟩, by show s.length - (k + 1) < s.length - k; omega, Ent.same ⟨rfl, rfl, rfl, rfl, trivial⟩ rfl⟩
      have n34 : ¬ x.toNat = 34 := fun h => h34 (by show (x.toNat : Int) = 34; omega)
      refine BIf.dec (fun h92 => ?_) (fun h92 => ?_)
      · have q92 : x.toNat = 92 := by have h0 : (x.toNat : Int) = 92 := h92; omega
        refine ⟨(((k + 1) : Nat) : Int), by rw [wrap_i64 (by first | omega | (dsimp only; omega)) (by first | omega | (dsimp only; omega))]; rfl, ?_⟩
        refine ⟨k + 1, k, rfl, rfl, by omega, by omega, ?_⟩
        rw [sub_one hlt hx]
        refine ⟨by rw [mkS_len]; show 1 + 1 ≤ maxLen; omega, ?_⟩
        rw [show (⟨#[92]⟩ : ByteArray) ++ mkS [x] = mkS [92, x] from mkS_app [92] [x]]
        refine ⟨by rw [mkS_len, mkS_len]; show (34 :: out).length + 2 ≤ maxLen; rw [List.length_cons]; omega, ?_⟩
        rw [show mkS (34 :: out) ++ mkS [92, x] = mkS (34 :: (out ++ [92, x])) from mkS_app (34 :: out) [92, x]]
        refine ⟨(((k + 1) : Nat) : Int), by rw [wrap_i64 (by first | omega | (dsimp only; omega)) (by first | omega | (dsimp only; omega))]; rfl, ?_⟩
        exact ⟨⟨k + 1, (plnC x), out ++ [92, x]⟩, ⟨hlt, hpn, esc_step hlt hx hq (esc_sl n10 (.inr q92)), by show (out ++ [92, x]).length ≤ 2 * (k + 1); rw [List.length_append]; show out.length + 2 ≤ _; omega⟩, by show s.length - (k + 1) < s.length - k; omega, Ent.same ⟨rfl, rfl, rfl, rfl, trivial⟩ rfl⟩
      have n92 : ¬ x.toNat = 92 := fun h => h92 (by show (x.toNat : Int) = 92; omega)
      refine BIf.dec (fun h32 => ?_) (fun h32 => ?_)
      · have q : (x.toNat : Int) < 32 := h32
        have hn := esc_none n10 n34 n92 (.inl (by omega))
        exact no hxm hn.2 (esc_bad hlt hx hq hn.1)
      refine BIf.dec (fun h127 => ?_) (fun h127 => ?_)
      · have q : (x.toNat : Int) = 127 := h127
        have hn := esc_none n10 n34 n92 (.inr (by omega))
        exact no hxm hn.2 (esc_bad hlt hx hq hn.1)
      have hi : ¬ (x.toNat < 32 ∨ x.toNat = 127) := fun h => h.elim (fun h => h32 (by show (x.toNat : Int) < 32; omega)) (fun h => h127 (by show (x.toNat : Int) = 127; omega))
      refine ⟨(((k + 1) : Nat) : Int), by rw [wrap_i64 (by first | omega | (dsimp only; omega)) (by first | omega | (dsimp only; omega))]; rfl, ?_⟩
      refine ⟨k + 1, k, rfl, rfl, by omega, by omega, ?_⟩
      rw [sub_one hlt hx]
      refine ⟨by rw [mkS_len, mkS_len]; show (34 :: out).length + 1 ≤ maxLen; rw [List.length_cons]; omega, ?_⟩
      rw [show mkS (34 :: out) ++ mkS [x] = mkS (34 :: (out ++ [x])) from mkS_app (34 :: out) [x]]
      refine ⟨(((k + 1) : Nat) : Int), by rw [wrap_i64 (by first | omega | (dsimp only; omega)) (by first | omega | (dsimp only; omega))]; rfl, ?_⟩
      exact ⟨⟨k + 1, (plnC x), out ++ [x]⟩, ⟨hlt, hpn, esc_step hlt hx hq (esc_in n10 n34 n92 hi), by show (out ++ [x]).length ≤ 2 * (k + 1); rw [List.length_append]; show out.length + 1 ≤ _; omega⟩, by show s.length - (k + 1) < s.length - k; omega, Ent.same ⟨rfl, rfl, rfl, rfl, trivial⟩ rfl⟩
    | false =>
      have hpn : false = (decide (s ≠ []) && (s.take (k + 1)).all plnC) := by rw [hal, ← Bool.and_assoc, ← hpl, Bool.false_and]
      refine BIf.dec (fun h10 => ?_) (fun h10 => ?_)
      · have q10 : x.toNat = 10 := by have h0 : (x.toNat : Int) = 10 := h10; omega
        refine ⟨by rw [mkS_len]; show (34 :: out).length + 2 ≤ maxLen; rw [List.length_cons]; omega, ?_⟩
        rw [show mkS (34 :: out) ++ ⟨#[92, 110]⟩ = mkS (34 :: (out ++ [92, 110])) from mkS_app (34 :: out) [92, 110]]
        refine ⟨(((k + 1) : Nat) : Int), by rw [wrap_i64 (by first | omega | (dsimp only; omega)) (by first | omega | (dsimp only; omega))]; rfl, ?_⟩
        exact ⟨⟨k + 1, false, out ++ [92, 110]⟩, ⟨hlt, hpn, esc_step hlt hx hq (esc_nl q10), by show (out ++ [92, 110]).length ≤ 2 * (k + 1); rw [List.length_append]; show out.length + 2 ≤ _; omega⟩, by show s.length - (k + 1) < s.length - k; omega, Ent.same ⟨rfl, rfl, rfl, rfl, trivial⟩ rfl⟩
      have n10 : ¬ x.toNat = 10 := fun h => h10 (by show (x.toNat : Int) = 10; omega)
      refine BIf.dec (fun h34 => ?_) (fun h34 => ?_)
      · have q34 : x.toNat = 34 := by have h0 : (x.toNat : Int) = 34 := h34; omega
        refine ⟨(((k + 1) : Nat) : Int), by rw [wrap_i64 (by first | omega | (dsimp only; omega)) (by first | omega | (dsimp only; omega))]; rfl, ?_⟩
        refine ⟨k + 1, k, rfl, rfl, by omega, by omega, ?_⟩
        rw [sub_one hlt hx]
        refine ⟨by rw [mkS_len]; show 1 + 1 ≤ maxLen; omega, ?_⟩
        rw [show (⟨#[92]⟩ : ByteArray) ++ mkS [x] = mkS [92, x] from mkS_app [92] [x]]
        refine ⟨by rw [mkS_len, mkS_len]; show (34 :: out).length + 2 ≤ maxLen; rw [List.length_cons]; omega, ?_⟩
        rw [show mkS (34 :: out) ++ mkS [92, x] = mkS (34 :: (out ++ [92, x])) from mkS_app (34 :: out) [92, x]]
        refine ⟨(((k + 1) : Nat) : Int), by rw [wrap_i64 (by first | omega | (dsimp only; omega)) (by first | omega | (dsimp only; omega))]; rfl, ?_⟩
        exact ⟨⟨k + 1, false, out ++ [92, x]⟩, ⟨hlt, hpn, esc_step hlt hx hq (esc_sl n10 (.inl q34)), by show (out ++ [92, x]).length ≤ 2 * (k + 1); rw [List.length_append]; show out.length + 2 ≤ _; omega⟩, by show s.length - (k + 1) < s.length - k; omega, Ent.same ⟨rfl, rfl, rfl, rfl, trivial⟩ rfl⟩
      have n34 : ¬ x.toNat = 34 := fun h => h34 (by show (x.toNat : Int) = 34; omega)
      refine BIf.dec (fun h92 => ?_) (fun h92 => ?_)
      · have q92 : x.toNat = 92 := by have h0 : (x.toNat : Int) = 92 := h92; omega
        refine ⟨(((k + 1) : Nat) : Int), by rw [wrap_i64 (by first | omega | (dsimp only; omega)) (by first | omega | (dsimp only; omega))]; rfl, ?_⟩
        refine ⟨k + 1, k, rfl, rfl, by omega, by omega, ?_⟩
        rw [sub_one hlt hx]
        refine ⟨by rw [mkS_len]; show 1 + 1 ≤ maxLen; omega, ?_⟩
        rw [show (⟨#[92]⟩ : ByteArray) ++ mkS [x] = mkS [92, x] from mkS_app [92] [x]]
        refine ⟨by rw [mkS_len, mkS_len]; show (34 :: out).length + 2 ≤ maxLen; rw [List.length_cons]; omega, ?_⟩
        rw [show mkS (34 :: out) ++ mkS [92, x] = mkS (34 :: (out ++ [92, x])) from mkS_app (34 :: out) [92, x]]
        refine ⟨(((k + 1) : Nat) : Int), by rw [wrap_i64 (by first | omega | (dsimp only; omega)) (by first | omega | (dsimp only; omega))]; rfl, ?_⟩
        exact ⟨⟨k + 1, false, out ++ [92, x]⟩, ⟨hlt, hpn, esc_step hlt hx hq (esc_sl n10 (.inr q92)), by show (out ++ [92, x]).length ≤ 2 * (k + 1); rw [List.length_append]; show out.length + 2 ≤ _; omega⟩, by show s.length - (k + 1) < s.length - k; omega, Ent.same ⟨rfl, rfl, rfl, rfl, trivial⟩ rfl⟩
      have n92 : ¬ x.toNat = 92 := fun h => h92 (by show (x.toNat : Int) = 92; omega)
      refine BIf.dec (fun h32 => ?_) (fun h32 => ?_)
      · have q : (x.toNat : Int) < 32 := h32
        have hn := esc_none n10 n34 n92 (.inl (by omega))
        exact no hxm hn.2 (esc_bad hlt hx hq hn.1)
      refine BIf.dec (fun h127 => ?_) (fun h127 => ?_)
      · have q : (x.toNat : Int) = 127 := h127
        have hn := esc_none n10 n34 n92 (.inr (by omega))
        exact no hxm hn.2 (esc_bad hlt hx hq hn.1)
      have hi : ¬ (x.toNat < 32 ∨ x.toNat = 127) := fun h => h.elim (fun h => h32 (by show (x.toNat : Int) < 32; omega)) (fun h => h127 (by show (x.toNat : Int) = 127; omega))
      refine ⟨(((k + 1) : Nat) : Int), by rw [wrap_i64 (by first | omega | (dsimp only; omega)) (by first | omega | (dsimp only; omega))]; rfl, ?_⟩
      refine ⟨k + 1, k, rfl, rfl, by omega, by omega, ?_⟩
      rw [sub_one hlt hx]
      refine ⟨by rw [mkS_len, mkS_len]; show (34 :: out).length + 1 ≤ maxLen; rw [List.length_cons]; omega, ?_⟩
      rw [show mkS (34 :: out) ++ mkS [x] = mkS (34 :: (out ++ [x])) from mkS_app (34 :: out) [x]]
      refine ⟨(((k + 1) : Nat) : Int), by rw [wrap_i64 (by first | omega | (dsimp only; omega)) (by first | omega | (dsimp only; omega))]; rfl, ?_⟩
      exact ⟨⟨k + 1, false, out ++ [x]⟩, ⟨hlt, hpn, esc_step hlt hx hq (esc_in n10 n34 n92 hi), by show (out ++ [x]).length ≤ 2 * (k + 1); rw [List.length_append]; show out.length + 1 ≤ _; omega⟩, by show s.length - (k + 1) < s.length - k; omega, Ent.same ⟨rfl, rfl, rfl, rfl, trivial⟩ rfl⟩
  · have e : k = s.length := by have h0 : ¬ (k : Int) < (mkS s).size := hge; omega
    rw [e, List.drop_length] at hq
    have hq : escS s = some out := by rw [hq]; simp [escS]
    rw [e, List.take_length] at hpl
    cases pl with
    | true =>
      intro β w' hs
      refine (hs.keepB (List.nil_sublist _)).fin [] ⟨?_, rfl⟩
      rw [wrtS_eq, plnW, ← hpl]
      rfl
    | false =>
      refine ⟨by rw [mkS_len]; show (34 :: out).length + 1 ≤ maxLen; rw [List.length_cons]; omega, ?_⟩
      intro β w' hs
      refine (hs.keepB (List.nil_sublist _)).fin [] ⟨?_, rfl⟩
      rw [wrtS_eq, plnW, ← hpl, if_neg (by decide), hq]
      rw [show mkS (34 :: out) ++ ⟨#[34]⟩ = mkS (34 :: (out ++ [34])) from mkS_app (34 :: out) [34]]
      rfl
theorem tabN_c (w : World) (n : Int) (h1 : 1 ≤ n) (h2 : n ≤ 4096) : Con Tryz.prog n_table_New_nonce_Entry #[.int .i64 n] w [] fun v Fs => ∃ b, v = .tuple #[.pointer (some ⟨b, 0, none⟩), .int .i64 0] ∧ Fs = [] := by
  have g := good_table_New_nonce_Entry w (Un [])
  refine con_of_sx (cx := cx_table_New_nonce_Entry w (Un [])) g b_table_New_nonce_Entry rfl rfl (β := Va.z) [.c (.v (.int .i64 n))] 0 [] [] rfl rfl (Sat.start rfl) ?_
  refine BIf.dec (fun h => absurd (show n < 1 from h) (by omega)) (fun _ => ?_)
  refine BIf.dec (fun h => absurd (show n > 4096 from h) (by omega)) (fun _ => ?_)
  intro b1 β w' hs
  exact hs.fin [] ⟨β 0, rfl, rfl⟩
theorem tabG_c (w : World) (n : Int) (h1 : 1 ≤ n) (h2 : n ≤ 4096) : Con Tryz.prog n_table_New_guard_Entry #[.int .i64 n] w [] fun v Fs => ∃ b, v = .tuple #[.pointer (some ⟨b, 0, none⟩), .int .i64 0] ∧ Fs = [] := by
  have g := good_table_New_guard_Entry w (Un [])
  refine con_of_sx (cx := cx_table_New_guard_Entry w (Un [])) g b_table_New_guard_Entry rfl rfl (β := Va.z) [.c (.v (.int .i64 n))] 0 [] [] rfl rfl (Sat.start rfl) ?_
  refine BIf.dec (fun h => absurd (show n < 1 from h) (by omega)) (fun _ => ?_)
  refine BIf.dec (fun h => absurd (show n > 4096 from h) (by omega)) (fun _ => ?_)
  intro b1 β w' hs
  exact hs.fin [] ⟨β 0, rfl, rfl⟩
theorem nonNew_c (w : World) (n : Int) (h1 : 1 ≤ n) (h2 : n ≤ 64) : Con Tryz.prog n_nonce_New #[.agg #[.int .i64 n, .int .u64 100]] w [] fun v Fs => ∃ b, v = .tuple #[.pointer (some ⟨b, 0, none⟩), .int .i64 0] ∧ Fs = [] := by
  have g := good_nonce_New w (Un [])
  refine con_of_sx (cx := cx_nonce_New w (Un [])) g b_nonce_New rfl rfl (β := Va.z) [.agg [.v (.int .i64 n), .v (.int .u64 100)]] 0 [] [] rfl rfl (Sat.start rfl) ?_
  refine BIf.dec (fun h => absurd (show n < 1 from h) (by omega)) (fun _ => ?_)
  refine BIf.dec (fun h => absurd (show n > 64 from h) (by omega)) (fun _ => ?_)
  refine call_con [] (fun β w' hs => tabN_c w' n h1 (by omega)) ?_
  rintro v Fs ⟨b, rfl, rfl⟩
  intro β w' hs
  exact hs.fin [] ⟨β 1, rfl, rfl⟩
theorem ticks_c (w : World) (A : Option Addr) (c : Nat) (hr : Rd 1 A 3 [.int .u64 2, .int .u64 100, .int .u64 50] w) : Pu Tryz.prog n_guard_ticks #[.slice A 3 c] w (.bool true) := by
  have g := good_guard_ticks w (Un [])
  refine con_of_sx (cx := cx_guard_ticks w (Un [])) g b_guard_ticks rfl rfl (β := Va.z) [.c (.v (.slice A 3 c))] 0 [] [oldF w] rfl rfl (old_sat rfl) ?_
  obtain ⟨ad, hA, _⟩ := hr.2 (by decide)
  refine loop_rule 0 (fun k : Nat => [(5, .c (.v (.slice A 3 c))), (6, .c (.v (.int .i64 3))), (7, .c (.v (.int .i64 (k : Int))))]) (fun _ => []) (fun _ => [oldF w]) (fun k => k ≤ 3) (fun k => 3 - k) 0 (Nat.zero_le _) (Ent.same ⟨rfl, rfl, rfl, trivial⟩ rfl) g ?_
  intro k hk
  refine BIf.dec (fun hlt => ?_) (fun hge => ?_)
  · have hlt0 : (k : Int) < 3 := hlt
    have hx : ∃ z : Nat, ([.int .u64 2, .int .u64 100, .int .u64 50] : List Value)[k]? = some (.int .u64 (z : Int)) ∧ 1 ≤ z ∧ z ≤ 100 := by
      have : k = 0 ∨ k = 1 ∨ k = 2 := by omega
      rcases this with rfl | rfl | rfl
      · exact ⟨2, rfl, by decide, by decide⟩
      · exact ⟨100, rfl, by decide, by decide⟩
      · exact ⟨50, rfl, by decide, by decide⟩
    obtain ⟨z, hz, hz1, hz2⟩ := hx
    refine ⟨ad, k, hA, rfl, by omega, .int .u64 (z : Int), fun β w' hs => Rd.cell1 (by have h := Rd.old hr (hs.get 0 rfl); rw [hA] at h; exact h) hz, ?_⟩
    refine BIf.dec (fun h => absurd (show (z : Int) < 1 from h) (by omega)) (fun _ => ?_)
    refine BIf.dec (fun h => absurd (show (z : Int) > 1099511627776 from h) (by omega)) (fun _ => ?_)
    refine ⟨((k + 1 : Nat) : Int), by rw [wrap_i64 (by omega) (by omega)]; rfl, ?_⟩
    exact ⟨k + 1, by omega, by omega, Ent.same ⟨rfl, rfl, rfl, trivial⟩ rfl⟩
  · intro β w' hs
    exact (hs.keepB (List.nil_sublist _)).fin [] ⟨rfl, rfl⟩
theorem grdNew_c (w : World) (n : Int) (h1 : 1 ≤ n) (h2 : n ≤ 64) : Con Tryz.prog n_guard_New #[.agg #[.int .i64 n, .int .u64 2, .int .u64 100, .int .u64 50]] w [] fun v Fs => ∃ b, v = .tuple #[.pointer (some ⟨b, 0, none⟩), .int .i64 0] ∧ Fs = [] := by
  have g := good_guard_New w (Un [])
  refine con_of_sx (cx := cx_guard_New w (Un [])) g b_guard_New rfl rfl (β := Va.z) [.agg [.v (.int .i64 n), .v (.int .u64 2), .v (.int .u64 100), .v (.int .u64 50)]] 0 [] [] rfl rfl (Sat.start rfl) ?_
  refine BIf.dec (fun h => absurd (show n < 1 from h) (by omega)) (fun _ => ?_)
  refine BIf.dec (fun h => absurd (show n > 64 from h) (by omega)) (fun _ => ?_)
  intro b1
  refine call_pu (fun β w' hs => ticks_c w' (some ⟨b1, 0, none⟩) 3 (row_rd (hs.get 0 rfl))) ?_
  refine call_con [] (fun β w' hs => tabG_c w' n h1 (by omega)) ?_
  rintro v Fs ⟨b, rfl, rfl⟩
  intro β w' hs
  exact hs.fin [] ⟨β 1, rfl, rfl⟩
end Go.Proofs.YteenjgfbbkdlhaaGreatDoor.Sx
