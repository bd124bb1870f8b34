/- Texts joined: Shelf, Bld, Bk2, Sha1, Sha2, Sha3, Sha4, Sha5, Sha6, Sha7, Sha8, Sha9, Pd1, Pd2, Pd4, Pd5, Box1, Box2, Join, Bk3, Bk4, Bk5, Srt, Bk6, Bk7, Bk8, Bk9, Xor, Trn. -/
import Derived.Test.YthkjfepbmnabkaaDoorMBH3
import Derived.Shelf.Strings.Builder1
import Derived.Shelf.Strings.Builder2
import Derived.Shelf.Strings.OnBuilder
import Derived.Shelf.Small.Bits
import Derived.Shelf.Small.Wraps
import Derived.Shelf.Strconv.Itoa0
import Derived.Shelf.Sort.Plain
import Derived.Shelf.Slices.Turned
import Derived.Ground.Names2Prog
import Derived.Shelf.Slices.ReverseS
import Derived.Shelf.Slices.Clone
import Derived.Shelf.Slices.SearchI
import Derived.Shelf.Slices.Cells
import Derived.Shelf.Bytes.SlSearch0
import Derived.Ground.SlbCloneProg
import Derived.Shelf.Bytes.SlClone
import Derived.Ground.SlbNamesProg
import Derived.Shelf.Bytes.SlJoin
import Derived.Ground.SlgnProg
import Derived.Shelf.SlicesE.Clone
import Derived.Shelf.Bytes.SlEqualAll
import Derived.Shelf.Bytes.Small
import Derived.Test.YthkjfepbmnabkaaDoorProg
import Derived.Test.YthkjfepbmnabkaaDoorMBH2
import Derived.Sort.OwnSortedInts
/-
  DERIVED: THE SHELF's CONTRACTS AT THIS DUMP, IN PLAIN WORDS (tools/lay-plain.mjs out of 'TrydShelf.lean', which tools/lay-shelf.mjs wrote): THE SAME DECLARATIONS UNDER THE SAME NAMES: 'import', 'namespace', 'open', 'def', 'theorem' AND NOTHING ELSE: no command of the shelf's: FOR A HAND-IN. Each laying: the table of numbers ('.._ren') and one theorem, a field a fact of the dump's own or the kernel's comparison; each contract: ONE APPLICATION.
-/
namespace Go.Proofs
open Go.Shelf
def Tryd.lays169_ren : Go.Shelf.Ren := ⟨fun | 169 => 87 | n => n, fun | 70 => 137 | 9 => 9 | 0 => 0 | 72 => 139 | 37 => 26 | 127 => 174 | 3 => 3 | 5 => 5 | n => n, fun | n => n⟩
theorem Tryd.lays169 : Go.Proofs.Lays.n169 Tryd.prog Tryd.lays169_ren := {
  mixed := by kernel_rfl
  f169 := Tryd.func87.trans (congrArg some (by kernel_rfl))
  t0 := Tryd.underlying0
  a0 := Tryd.isAgg0
  z0 := Tryd.sizeOf0
  v0 := Tryd.zeroValue0
  t3 := Tryd.underlying3
  a3 := Tryd.isAgg3
  z3 := Tryd.sizeOf3
  v3 := Tryd.zeroValue3
  t9 := Tryd.underlying9
  a9 := Tryd.isAgg9
  z9 := Tryd.sizeOf9
  v9 := Tryd.zeroValue9
  t37 := Tryd.underlying26
  a37 := Tryd.isAgg26
  z37 := Tryd.sizeOf26
  v37 := Tryd.zeroValue26
  t70 := Tryd.underlying137
  a70 := Tryd.isAgg137
  z70 := Tryd.sizeOf137
  v70 := Tryd.zeroValue137
  t72 := Tryd.underlying139
  a72 := Tryd.isAgg139
  z72 := Tryd.sizeOf139
  v72 := Tryd.zeroValue139
  t127 := Tryd.underlying174
  a127 := Tryd.isAgg174
  z127 := Tryd.sizeOf174
  v127 := Tryd.zeroValue174 }
theorem Tryd.Builder_Extra_169 : Builder.Extra Tryd.prog Tryd.lays169_ren := {
  sizeBuilder := by kernel_rfl
  liesBuilder := by kernel_rfl
  t5 := Tryd.underlying5
  a5 := Tryd.isAgg5
  z5 := Tryd.sizeOf5
  v5 := Tryd.zeroValue5
  infoByte := by kernel_rfl
  cellsByte := by kernel_rfl
  sizeByte := by kernel_rfl
  neB5 := by decide }
open Go.RowKit in
/-- (*strings.Builder).String: "String returns the accumulated string.": OF A BUILDER THAT HOLDS AT LEAST ONE BYTE. ✋ THE MODEL FREEZES THOSE BYTES IN THE BUFFER (unsafe.String): a later write INTO them ends the model's run without an answer; a later append BEHIND them goes on. The statement's order of evaluation is drawn: one draw. (LAID: no walk: one application.) -/
theorem Tryd.Builder_String (B b : Nat) (l : List UInt8) (w : World) (h : Lib.IsBuilder 139 5 B b (Lib.byteCells l) w) (h0 : l ≠ []) :
    Calls Tryd.prog 87 #[.pointer (some ⟨b, 0, none⟩)] w fun e w' => e = .returned (.string ⟨l.toArray⟩) ∧ Below B w w' := Any.Builder_String Tryd.lays169 Tryd.Builder_Extra_169 B b l w h h0
open Go.RowKit in
/-- (*strings.Builder).String OF A BUILDER THAT HOLDS NO BYTE: the empty string. (Its buffer is nil, or a row of which it has taken nothing yet; where that row has NO capacity the model lays one new block for unsafe.SliceData's 'some address'.) One draw. (LAID: no walk: one application.) -/
theorem Tryd.Builder_String_empty (B b : Nat) (w : World) (h : Lib.IsBuilder 139 5 B b [] w) (hBw : B ≤ w.heap.size) :
    Calls Tryd.prog 87 #[.pointer (some ⟨b, 0, none⟩)] w fun e w' => e = .returned (.string ⟨#[]⟩) ∧ Below B w w' := Any.Builder_String_empty Tryd.lays169 Tryd.Builder_Extra_169 B b w h hBw
open Go.RowKit in
/-- (*strings.Builder).String: "String returns the accumulated string.": WHATEVER THE BUILDER HOLDS. (LAID: no walk: one application.) -/
theorem Tryd.Builder_String_any (B b : Nat) (l : List UInt8) (w : World) (h : Lib.IsBuilder 139 5 B b (Lib.byteCells l) w) (hBw : B ≤ w.heap.size) :
    Calls Tryd.prog 87 #[.pointer (some ⟨b, 0, none⟩)] w fun e w' => e = .returned (.string ⟨l.toArray⟩) ∧ Below B w w' := Any.Builder_String_any Tryd.lays169 Tryd.Builder_Extra_169 B b l w h hBw
def Tryd.lays241_ren : Go.Shelf.Ren := ⟨fun | 241 => 116 | 277 => 111 | n => n, fun | 70 => 137 | 3 => 3 | 0 => 0 | 72 => 139 | 37 => 26 | 5 => 5 | n => n, fun | n => n⟩
theorem Tryd.lays241 : Go.Proofs.Lays.n241 Tryd.prog Tryd.lays241_ren := {
  mixed := by kernel_rfl
  f241 := Tryd.func116.trans (congrArg some (by kernel_rfl))
  f277 := Tryd.func111.trans (congrArg some (by kernel_rfl))
  t0 := Tryd.underlying0
  a0 := Tryd.isAgg0
  z0 := Tryd.sizeOf0
  v0 := Tryd.zeroValue0
  t3 := Tryd.underlying3
  a3 := Tryd.isAgg3
  z3 := Tryd.sizeOf3
  v3 := Tryd.zeroValue3
  t37 := Tryd.underlying26
  a37 := Tryd.isAgg26
  z37 := Tryd.sizeOf26
  v37 := Tryd.zeroValue26
  t70 := Tryd.underlying137
  a70 := Tryd.isAgg137
  z70 := Tryd.sizeOf137
  v70 := Tryd.zeroValue137
  t72 := Tryd.underlying139
  a72 := Tryd.isAgg139
  z72 := Tryd.sizeOf139
  v72 := Tryd.zeroValue139 }
theorem Tryd.Builder_Extra_241 : Builder.Extra Tryd.prog Tryd.lays241_ren := {
  sizeBuilder := by kernel_rfl
  liesBuilder := by kernel_rfl
  t5 := Tryd.underlying5
  a5 := Tryd.isAgg5
  z5 := Tryd.sizeOf5
  v5 := Tryd.zeroValue5
  infoByte := by kernel_rfl
  cellsByte := by kernel_rfl
  sizeByte := by kernel_rfl
  neB5 := by decide }
open Go.RowKit in
/-- (*strings.Builder).grow (no doc but "grow copies the buffer to a new, larger buffer so that there are at least n bytes of capacity beyond len(b.buf)."): AT A BUILDER WITHOUT A BUFFER: a new row of whatever bytes for its buffer, none of them its own yet. Three draws. (LAID: no walk: one application.) -/
theorem Tryd.Builder_grow_fresh (B b n : Nat) (w : World) (hB : B ≤ b) (hbk : w.heap[b]? = some (.cells #[.pointer (some ⟨b, 0, none⟩), .slice none 0 0] 139 (0, 0))) (hBw : B ≤ w.heap.size) (hn : n ≤ 281474976710656) :
    Calls Tryd.prog 116 #[.pointer (some ⟨b, 0, none⟩), .int .i64 n] w fun e w' => e = .returned (.tuple #[]) ∧ (Lib.BuilderAt 139 5 B b (.pointer (some ⟨b, 0, none⟩)) [] w' ∧ Below B w w') := Any.Builder_grow_fresh Tryd.lays241 Tryd.Builder_Extra_241 B b n w hB hbk hBw hn
def Tryd.lays165_ren : Go.Shelf.Ren := ⟨fun | 165 => 85 | 240 => 115 | 241 => 116 | 276 => 132 | 277 => 111 | n => n, fun | 70 => 137 | 3 => 3 | 0 => 0 | 4 => 4 | 9 => 9 | 20 => 20 | 72 => 139 | 37 => 26 | 164 => 183 | 5 => 5 | n => n, fun | n => n⟩
theorem Tryd.lays165 : Go.Proofs.Lays.n165 Tryd.prog Tryd.lays165_ren := {
  mixed := by kernel_rfl
  f165 := Tryd.func85.trans (congrArg some (by kernel_rfl))
  f240 := Tryd.func115.trans (congrArg some (by kernel_rfl))
  f241 := Tryd.func116.trans (congrArg some (by kernel_rfl))
  f276 := Tryd.func132.trans (congrArg some (by kernel_rfl))
  f277 := Tryd.func111.trans (congrArg some (by kernel_rfl))
  t0 := Tryd.underlying0
  a0 := Tryd.isAgg0
  z0 := Tryd.sizeOf0
  v0 := Tryd.zeroValue0
  t3 := Tryd.underlying3
  a3 := Tryd.isAgg3
  z3 := Tryd.sizeOf3
  v3 := Tryd.zeroValue3
  t4 := Tryd.underlying4
  a4 := Tryd.isAgg4
  z4 := Tryd.sizeOf4
  v4 := Tryd.zeroValue4
  t9 := Tryd.underlying9
  a9 := Tryd.isAgg9
  z9 := Tryd.sizeOf9
  v9 := Tryd.zeroValue9
  t20 := Tryd.underlying20
  a20 := Tryd.isAgg20
  z20 := Tryd.sizeOf20
  v20 := Tryd.zeroValue20
  t37 := Tryd.underlying26
  a37 := Tryd.isAgg26
  z37 := Tryd.sizeOf26
  v37 := Tryd.zeroValue26
  t70 := Tryd.underlying137
  a70 := Tryd.isAgg137
  z70 := Tryd.sizeOf137
  v70 := Tryd.zeroValue137
  t72 := Tryd.underlying139
  a72 := Tryd.isAgg139
  z72 := Tryd.sizeOf139
  v72 := Tryd.zeroValue139
  t164 := Tryd.underlying183
  a164 := Tryd.isAgg183
  z164 := Tryd.sizeOf183
  v164 := Tryd.zeroValue183 }
theorem Tryd.Builder_Extra_165 : Builder.Extra Tryd.prog Tryd.lays165_ren := {
  sizeBuilder := by kernel_rfl
  liesBuilder := by kernel_rfl
  t5 := Tryd.underlying5
  a5 := Tryd.isAgg5
  z5 := Tryd.sizeOf5
  v5 := Tryd.zeroValue5
  infoByte := by kernel_rfl
  cellsByte := by kernel_rfl
  sizeByte := by kernel_rfl
  neB5 := by decide }
open Go.RowKit in
/-- (*strings.Builder).Grow AT A BUILDER THAT HAS NOT BEEN WRITTEN ('var b strings.Builder; b.Grow(n)'): "Grow grows b's capacity, if necessary, to guarantee space for another n bytes.": it holds no byte behind it as before it. (LAID: no walk: one application.) -/
theorem Tryd.Builder_Grow_fresh (B b n : Nat) (w : World) (hB : B ≤ b) (hbk : w.heap[b]? = some (.cells #[.pointer none, .slice none 0 0] 139 (0, 0))) (hBw : B ≤ w.heap.size) (hn : n ≤ 281474976710656) :
    Calls Tryd.prog 85 #[.pointer (some ⟨b, 0, none⟩), .int .i64 n] w fun e w' => e = .returned (.tuple #[]) ∧ (Lib.BuilderAt 139 5 B b (.pointer (some ⟨b, 0, none⟩)) [] w' ∧ Below B w w') := Any.Builder_Grow_fresh Tryd.lays165 Tryd.Builder_Extra_165 B b n w hB hbk hBw hn
def Tryd.lays156_ren : Go.Shelf.Ren := ⟨fun | 156 => 46 | 165 => 85 | 166 => 86 | 169 => 87 | 240 => 115 | 241 => 116 | 276 => 132 | 277 => 111 | n => n, fun | 31 => 45 | 9 => 9 | 3 => 3 | 4 => 4 | 0 => 0 | 20 => 20 | 72 => 139 | 76 => 143 | 70 => 137 | 37 => 26 | 75 => 142 | 127 => 174 | 164 => 183 | 5 => 5 | 80 => 145 | n => n, fun | n => n⟩
theorem Tryd.lays156 : Go.Proofs.Lays.n156 Tryd.prog Tryd.lays156_ren := {
  mixed := by kernel_rfl
  f156 := Tryd.func46.trans (congrArg some (by kernel_rfl))
  f165 := Tryd.func85.trans (congrArg some (by kernel_rfl))
  f166 := Tryd.func86.trans (congrArg some (by kernel_rfl))
  f169 := Tryd.func87.trans (congrArg some (by kernel_rfl))
  f240 := Tryd.func115.trans (congrArg some (by kernel_rfl))
  f241 := Tryd.func116.trans (congrArg some (by kernel_rfl))
  f276 := Tryd.func132.trans (congrArg some (by kernel_rfl))
  f277 := Tryd.func111.trans (congrArg some (by kernel_rfl))
  t0 := Tryd.underlying0
  a0 := Tryd.isAgg0
  z0 := Tryd.sizeOf0
  v0 := Tryd.zeroValue0
  t3 := Tryd.underlying3
  a3 := Tryd.isAgg3
  z3 := Tryd.sizeOf3
  v3 := Tryd.zeroValue3
  t4 := Tryd.underlying4
  a4 := Tryd.isAgg4
  z4 := Tryd.sizeOf4
  v4 := Tryd.zeroValue4
  t9 := Tryd.underlying9
  a9 := Tryd.isAgg9
  z9 := Tryd.sizeOf9
  v9 := Tryd.zeroValue9
  t20 := Tryd.underlying20
  a20 := Tryd.isAgg20
  z20 := Tryd.sizeOf20
  v20 := Tryd.zeroValue20
  t31 := Tryd.underlying45
  a31 := Tryd.isAgg45
  z31 := Tryd.sizeOf45
  v31 := Tryd.zeroValue45
  t37 := Tryd.underlying26
  a37 := Tryd.isAgg26
  z37 := Tryd.sizeOf26
  v37 := Tryd.zeroValue26
  t70 := Tryd.underlying137
  a70 := Tryd.isAgg137
  z70 := Tryd.sizeOf137
  v70 := Tryd.zeroValue137
  t72 := Tryd.underlying139
  a72 := Tryd.isAgg139
  z72 := Tryd.sizeOf139
  v72 := Tryd.zeroValue139
  t75 := Tryd.underlying142
  a75 := Tryd.isAgg142
  z75 := Tryd.sizeOf142
  v75 := Tryd.zeroValue142
  t76 := Tryd.underlying143
  a76 := Tryd.isAgg143
  z76 := Tryd.sizeOf143
  v76 := Tryd.zeroValue143
  t127 := Tryd.underlying174
  a127 := Tryd.isAgg174
  z127 := Tryd.sizeOf174
  v127 := Tryd.zeroValue174
  t164 := Tryd.underlying183
  a164 := Tryd.isAgg183
  z164 := Tryd.sizeOf183
  v164 := Tryd.zeroValue183 }
theorem Tryd.Builder_Extra_156 : Builder.Extra Tryd.prog Tryd.lays156_ren := {
  sizeBuilder := by kernel_rfl
  liesBuilder := by kernel_rfl
  t5 := Tryd.underlying5
  a5 := Tryd.isAgg5
  z5 := Tryd.sizeOf5
  v5 := Tryd.zeroValue5
  infoByte := by kernel_rfl
  cellsByte := by kernel_rfl
  sizeByte := by kernel_rfl
  neB5 := by decide }
open Go.RowKit in
/-- No element: the empty string; the world is as it was. (Whatever the slice's address and capacity: a nil slice too.) (LAID: no walk: one application.) -/
theorem Tryd.strings_Join_none (a : Option Addr) (c : Nat) (sep : ByteArray) (w : World) :
    Calls Tryd.prog 46 #[.slice a 0 c, .string sep] w fun e w' => e = .returned (.string ⟨#[]⟩) ∧ w' = w := Any.strings_Join_none Tryd.lays156 Tryd.Builder_Extra_156 a c sep w
open Go.RowKit in
/-- strings.Join: "Join concatenates the elements of its first argument to create a single string. The separator string sep is placed between elements in the resulting string.": HOWEVER MANY ELEMENTS. Below the heap's end the world is as it was. (LAID: no walk: one application.) -/
theorem Tryd.strings_Join (bk o c : Nat) (xs : List ByteArray) (sep : ByteArray) (w : World) (hcells : ∀ (j : Nat) x, xs[j]? = some x → w.cell? ⟨bk, o + j, none⟩ = some (.string x)) (hbk : bk < w.heap.size) (hN : xs.length ≤ 140737488355328) (hcap : xs.length ≤ c) (hlen : (Lib.join (xs.map (·.data.toList)) sep.data.toList).length ≤ 140737488355328) :
    Calls Tryd.prog 46 #[.slice (some ⟨bk, o, none⟩) xs.length c, .string sep] w fun e w' => e = .returned (.string ⟨(Lib.join (xs.map (·.data.toList)) sep.data.toList).toArray⟩) ∧ Below w.heap.size w w' := Any.strings_Join Tryd.lays156 Tryd.Builder_Extra_156 bk o c xs sep w hcells hbk hN hcap hlen
def Tryd.lays128_ren : Go.Shelf.Ren := ⟨fun | 128 => 155 | n => n, fun | 51 => 53 | 3 => 3 | 4 => 4 | 46 => 99 | 5 => 5 | 9 => 9 | n => n, fun | n => n⟩
theorem Tryd.lays128 : Go.Proofs.Lays.n128 Tryd.prog Tryd.lays128_ren := {
  mixed := by kernel_rfl
  f128 := Tryd.func155.trans (congrArg some (by kernel_rfl))
  t3 := Tryd.underlying3
  a3 := Tryd.isAgg3
  z3 := Tryd.sizeOf3
  v3 := Tryd.zeroValue3
  t4 := Tryd.underlying4
  a4 := Tryd.isAgg4
  z4 := Tryd.sizeOf4
  v4 := Tryd.zeroValue4
  t5 := Tryd.underlying5
  a5 := Tryd.isAgg5
  z5 := Tryd.sizeOf5
  v5 := Tryd.zeroValue5
  t9 := Tryd.underlying9
  a9 := Tryd.isAgg9
  z9 := Tryd.sizeOf9
  v9 := Tryd.zeroValue9
  t46 := Tryd.underlying99
  a46 := Tryd.isAgg99
  z46 := Tryd.sizeOf99
  v46 := Tryd.zeroValue99
  t51 := Tryd.underlying53
  a51 := Tryd.isAgg53
  z51 := Tryd.sizeOf53
  v51 := Tryd.zeroValue53 }
/-- bits.Len32: "Len32 returns the minimum number of bits required to represent x; the result is 0 for x == 0.": IT RETURNS 'Lib.bitLen x'; the world is as it was. ('h0', 'h1': x is a uint32.) (LAID: no walk: one application.) -/
theorem Tryd.bits_Len32 (x : Int) (w : World) (h0 : 0 ≤ x) (h1 : x ≤ 4294967295) :
    Calls Tryd.prog 155 #[.int .u32 x] w fun e w' => e = .returned (.int .i64 (Lib.bitLen x.toNat)) ∧ w' = w := Any.bits_Len32 Tryd.lays128 x w h0 h1
def Tryd.lays125_ren : Go.Shelf.Ren := ⟨fun | 125 => 140 | 128 => 155 | 129 => 156 | n => n, fun | 46 => 99 | 3 => 3 | 51 => 53 | 53 => 44 | 4 => 4 | 5 => 5 | 9 => 9 | n => n, fun | n => n⟩
theorem Tryd.lays125 : Go.Proofs.Lays.n125 Tryd.prog Tryd.lays125_ren := {
  mixed := by kernel_rfl
  f125 := Tryd.func140.trans (congrArg some (by kernel_rfl))
  f128 := Tryd.func155.trans (congrArg some (by kernel_rfl))
  f129 := Tryd.func156.trans (congrArg some (by kernel_rfl))
  t3 := Tryd.underlying3
  a3 := Tryd.isAgg3
  z3 := Tryd.sizeOf3
  v3 := Tryd.zeroValue3
  t4 := Tryd.underlying4
  a4 := Tryd.isAgg4
  z4 := Tryd.sizeOf4
  v4 := Tryd.zeroValue4
  t5 := Tryd.underlying5
  a5 := Tryd.isAgg5
  z5 := Tryd.sizeOf5
  v5 := Tryd.zeroValue5
  t9 := Tryd.underlying9
  a9 := Tryd.isAgg9
  z9 := Tryd.sizeOf9
  v9 := Tryd.zeroValue9
  t46 := Tryd.underlying99
  a46 := Tryd.isAgg99
  z46 := Tryd.sizeOf99
  v46 := Tryd.zeroValue99
  t51 := Tryd.underlying53
  a51 := Tryd.isAgg53
  z51 := Tryd.sizeOf53
  v51 := Tryd.zeroValue53
  t53 := Tryd.underlying44
  a53 := Tryd.isAgg44
  z53 := Tryd.sizeOf44
  v53 := Tryd.zeroValue44 }
/-- bits.Len: "Len returns the minimum number of bits required to represent x; the result is 0 for x == 0.": IT RETURNS 'Lib.bitLen x'; the world is as it was. (A uint has 64 bits in the model.) ITS CALLEE bits.Len64 IS MET BY ITS OWN CONTRACT OFF THE SHELF (lay that first). (LAID: no walk: one application.) -/
theorem Tryd.bits_Len (x : Int) (w : World) (h0 : 0 ≤ x) (h1 : x ≤ 18446744073709551615) :
    Calls Tryd.prog 140 #[.int .u64 x] w fun e w' => e = .returned (.int .i64 (Lib.bitLen x.toNat)) ∧ w' = w := Any.bits_Len Tryd.lays125 x w h0 h1
def Tryd.lays215_ren : Go.Shelf.Ren := ⟨fun | 215 => 172 | n => n, fun | 3 => 3 | 4 => 4 | n => n, fun | n => n⟩
theorem Tryd.lays215 : Go.Proofs.Lays.n215 Tryd.prog Tryd.lays215_ren := {
  mixed := by kernel_rfl
  f215 := Tryd.func172.trans (congrArg some (by kernel_rfl))
  t3 := Tryd.underlying3
  a3 := Tryd.isAgg3
  z3 := Tryd.sizeOf3
  v3 := Tryd.zeroValue3
  t4 := Tryd.underlying4
  a4 := Tryd.isAgg4
  z4 := Tryd.sizeOf4
  v4 := Tryd.zeroValue4 }
open Go.RowKit in
/-- cmp.isNaN at int: 'x != x': false. (LAID: no walk: one application.) -/
theorem Tryd.cmp_isNaN_int (x : Int) (w : World) :
    Calls Tryd.prog 172 #[.int .i64 x] w fun e w' => e = .returned (.bool false) ∧ w' = w := Any.cmp_isNaN_int Tryd.lays215 x w
def Tryd.lays129_ren : Go.Shelf.Ren := ⟨fun | 129 => 156 | n => n, fun | 53 => 44 | 3 => 3 | 4 => 4 | 46 => 99 | 5 => 5 | 9 => 9 | n => n, fun | n => n⟩
theorem Tryd.lays129 : Go.Proofs.Lays.n129 Tryd.prog Tryd.lays129_ren := {
  mixed := by kernel_rfl
  f129 := Tryd.func156.trans (congrArg some (by kernel_rfl))
  t3 := Tryd.underlying3
  a3 := Tryd.isAgg3
  z3 := Tryd.sizeOf3
  v3 := Tryd.zeroValue3
  t4 := Tryd.underlying4
  a4 := Tryd.isAgg4
  z4 := Tryd.sizeOf4
  v4 := Tryd.zeroValue4
  t5 := Tryd.underlying5
  a5 := Tryd.isAgg5
  z5 := Tryd.sizeOf5
  v5 := Tryd.zeroValue5
  t9 := Tryd.underlying9
  a9 := Tryd.isAgg9
  z9 := Tryd.sizeOf9
  v9 := Tryd.zeroValue9
  t46 := Tryd.underlying99
  a46 := Tryd.isAgg99
  z46 := Tryd.sizeOf99
  v46 := Tryd.zeroValue99
  t53 := Tryd.underlying44
  a53 := Tryd.isAgg44
  z53 := Tryd.sizeOf44
  v53 := Tryd.zeroValue44 }
/-- bits.Len64: "Len64 returns the minimum number of bits required to represent x; the result is 0 for x == 0.": IT RETURNS 'Lib.bitLen x'; the world is as it was. ('h0', 'h1': x is a uint64.) (LAID: no walk: one application.) -/
theorem Tryd.bits_Len64 (x : Int) (w : World) (h0 : 0 ≤ x) (h1 : x ≤ 18446744073709551615) :
    Calls Tryd.prog 156 #[.int .u64 x] w fun e w' => e = .returned (.int .i64 (Lib.bitLen x.toNat)) ∧ w' = w := Any.bits_Len64 Tryd.lays129 x w h0 h1
def Tryd.lays189_ren : Go.Shelf.Ren := ⟨fun | 189 => 123 | 125 => 140 | 257 => 139 | 128 => 155 | 129 => 156 | 294 => 146 | 295 => 147 | 296 => 148 | 297 => 149 | 298 => 150 | 299 => 151 | 216 => 152 | 300 => 153 | 301 => 154 | 328 => 167 | 329 => 168 | 330 => 169 | 331 => 170 | 332 => 171 | 215 => 172 | 343 => 176 | n => n, fun | 28 => 148 | 3 => 3 | 46 => 99 | 0 => 0 | 51 => 53 | 53 => 44 | 4 => 4 | 183 => 209 | 182 => 208 | 131 => 55 | 5 => 5 | 9 => 9 | 218 => 224 | 222 => 227 | 228 => 232 | 229 => 233 | n => n, fun | n => n⟩
theorem Tryd.lays189 : Go.Proofs.Lays.n189 Tryd.prog Tryd.lays189_ren := {
  mixed := by kernel_rfl
  f125 := Tryd.func140.trans (congrArg some (by kernel_rfl))
  f128 := Tryd.func155.trans (congrArg some (by kernel_rfl))
  f129 := Tryd.func156.trans (congrArg some (by kernel_rfl))
  f189 := Tryd.func123.trans (congrArg some (by kernel_rfl))
  f215 := Tryd.func172.trans (congrArg some (by kernel_rfl))
  f216 := Tryd.func152.trans (congrArg some (by kernel_rfl))
  f257 := Tryd.func139.trans (congrArg some (by kernel_rfl))
  f294 := Tryd.func146.trans (congrArg some (by kernel_rfl))
  f295 := Tryd.func147.trans (congrArg some (by kernel_rfl))
  f296 := Tryd.func148.trans (congrArg some (by kernel_rfl))
  f297 := Tryd.func149.trans (congrArg some (by kernel_rfl))
  f298 := Tryd.func150.trans (congrArg some (by kernel_rfl))
  f299 := Tryd.func151.trans (congrArg some (by kernel_rfl))
  f300 := Tryd.func153.trans (congrArg some (by kernel_rfl))
  f301 := Tryd.func154.trans (congrArg some (by kernel_rfl))
  f328 := Tryd.func167.trans (congrArg some (by kernel_rfl))
  f329 := Tryd.func168.trans (congrArg some (by kernel_rfl))
  f330 := Tryd.func169.trans (congrArg some (by kernel_rfl))
  f331 := Tryd.func170.trans (congrArg some (by kernel_rfl))
  f332 := Tryd.func171.trans (congrArg some (by kernel_rfl))
  f343 := Tryd.func176.trans (congrArg some (by kernel_rfl))
  t0 := Tryd.underlying0
  a0 := Tryd.isAgg0
  z0 := Tryd.sizeOf0
  v0 := Tryd.zeroValue0
  t3 := Tryd.underlying3
  a3 := Tryd.isAgg3
  z3 := Tryd.sizeOf3
  v3 := Tryd.zeroValue3
  t4 := Tryd.underlying4
  a4 := Tryd.isAgg4
  z4 := Tryd.sizeOf4
  v4 := Tryd.zeroValue4
  t5 := Tryd.underlying5
  a5 := Tryd.isAgg5
  z5 := Tryd.sizeOf5
  v5 := Tryd.zeroValue5
  t9 := Tryd.underlying9
  a9 := Tryd.isAgg9
  z9 := Tryd.sizeOf9
  v9 := Tryd.zeroValue9
  t28 := Tryd.underlying148
  a28 := Tryd.isAgg148
  z28 := Tryd.sizeOf148
  v28 := Tryd.zeroValue148
  t46 := Tryd.underlying99
  a46 := Tryd.isAgg99
  z46 := Tryd.sizeOf99
  v46 := Tryd.zeroValue99
  t51 := Tryd.underlying53
  a51 := Tryd.isAgg53
  z51 := Tryd.sizeOf53
  v51 := Tryd.zeroValue53
  t53 := Tryd.underlying44
  a53 := Tryd.isAgg44
  z53 := Tryd.sizeOf44
  v53 := Tryd.zeroValue44
  t131 := Tryd.underlying55
  a131 := Tryd.isAgg55
  z131 := Tryd.sizeOf55
  v131 := Tryd.zeroValue55
  t182 := Tryd.underlying208
  a182 := Tryd.isAgg208
  z182 := Tryd.sizeOf208
  v182 := Tryd.zeroValue208
  t183 := Tryd.underlying209
  a183 := Tryd.isAgg209
  z183 := Tryd.sizeOf209
  v183 := Tryd.zeroValue209
  t218 := Tryd.underlying224
  a218 := Tryd.isAgg224
  z218 := Tryd.sizeOf224
  v218 := Tryd.zeroValue224
  t222 := Tryd.underlying227
  a222 := Tryd.isAgg227
  z222 := Tryd.sizeOf227
  v222 := Tryd.zeroValue227
  t228 := Tryd.underlying232
  a228 := Tryd.isAgg232
  z228 := Tryd.sizeOf232
  v228 := Tryd.zeroValue232
  t229 := Tryd.underlying233
  a229 := Tryd.isAgg233
  z229 := Tryd.sizeOf233
  v229 := Tryd.zeroValue233 }
open Go.Sort Go.RowKit in
theorem Tryd.slices_Sort_int (blk off cap : Nat) (zs : List Int) (w : World) (hH : Holds (Value.int .i64) w blk off zs.toArray) (hblk : blk < w.heap.size) (hsz : zs.length < 4611686018427387904) :
    Calls Tryd.prog 123 #[.slice (some ⟨blk, off, none⟩) zs.length cap] w fun e w' =>
      e = .returned (.tuple #[]) ∧ ∃ n os, w' = grow (putRow (Value.int .i64) (Sort.ahead w n) blk off (zs.mergeSort fun x y => decide (x ≤ y)).toArray) os := Any.slices_Sort_int Tryd.lays189 blk off cap zs w hH hblk hsz
def Tryd.lays190_ren : Go.Shelf.Ren := ⟨fun | 190 => 126 | 125 => 140 | 258 => 142 | 128 => 155 | 129 => 156 | 302 => 157 | 303 => 158 | 304 => 159 | 305 => 160 | 306 => 161 | 307 => 162 | 308 => 96 | 309 => 163 | 310 => 164 | 333 => 173 | 329 => 168 | 330 => 169 | 334 => 174 | 335 => 175 | 336 => 124 | 344 => 177 | n => n, fun | 31 => 45 | 9 => 9 | 3 => 3 | 46 => 99 | 0 => 0 | 51 => 53 | 53 => 44 | 4 => 4 | 183 => 209 | 182 => 208 | 131 => 55 | 5 => 5 | 218 => 224 | 222 => 227 | 228 => 232 | 229 => 233 | n => n, fun | n => n⟩
theorem Tryd.lays190 : Go.Proofs.Lays.n190 Tryd.prog Tryd.lays190_ren := {
  mixed := by kernel_rfl
  f125 := Tryd.func140.trans (congrArg some (by kernel_rfl))
  f128 := Tryd.func155.trans (congrArg some (by kernel_rfl))
  f129 := Tryd.func156.trans (congrArg some (by kernel_rfl))
  f190 := Tryd.func126.trans (congrArg some (by kernel_rfl))
  f258 := Tryd.func142.trans (congrArg some (by kernel_rfl))
  f302 := Tryd.func157.trans (congrArg some (by kernel_rfl))
  f303 := Tryd.func158.trans (congrArg some (by kernel_rfl))
  f304 := Tryd.func159.trans (congrArg some (by kernel_rfl))
  f305 := Tryd.func160.trans (congrArg some (by kernel_rfl))
  f306 := Tryd.func161.trans (congrArg some (by kernel_rfl))
  f307 := Tryd.func162.trans (congrArg some (by kernel_rfl))
  f308 := Tryd.func96.trans (congrArg some (by kernel_rfl))
  f309 := Tryd.func163.trans (congrArg some (by kernel_rfl))
  f310 := Tryd.func164.trans (congrArg some (by kernel_rfl))
  f329 := Tryd.func168.trans (congrArg some (by kernel_rfl))
  f330 := Tryd.func169.trans (congrArg some (by kernel_rfl))
  f333 := Tryd.func173.trans (congrArg some (by kernel_rfl))
  f334 := Tryd.func174.trans (congrArg some (by kernel_rfl))
  f335 := Tryd.func175.trans (congrArg some (by kernel_rfl))
  f336 := Tryd.func124.trans (congrArg some (by kernel_rfl))
  f344 := Tryd.func177.trans (congrArg some (by kernel_rfl))
  t0 := Tryd.underlying0
  a0 := Tryd.isAgg0
  z0 := Tryd.sizeOf0
  v0 := Tryd.zeroValue0
  t3 := Tryd.underlying3
  a3 := Tryd.isAgg3
  z3 := Tryd.sizeOf3
  v3 := Tryd.zeroValue3
  t4 := Tryd.underlying4
  a4 := Tryd.isAgg4
  z4 := Tryd.sizeOf4
  v4 := Tryd.zeroValue4
  t5 := Tryd.underlying5
  a5 := Tryd.isAgg5
  z5 := Tryd.sizeOf5
  v5 := Tryd.zeroValue5
  t9 := Tryd.underlying9
  a9 := Tryd.isAgg9
  z9 := Tryd.sizeOf9
  v9 := Tryd.zeroValue9
  t31 := Tryd.underlying45
  a31 := Tryd.isAgg45
  z31 := Tryd.sizeOf45
  v31 := Tryd.zeroValue45
  t46 := Tryd.underlying99
  a46 := Tryd.isAgg99
  z46 := Tryd.sizeOf99
  v46 := Tryd.zeroValue99
  t51 := Tryd.underlying53
  a51 := Tryd.isAgg53
  z51 := Tryd.sizeOf53
  v51 := Tryd.zeroValue53
  t53 := Tryd.underlying44
  a53 := Tryd.isAgg44
  z53 := Tryd.sizeOf44
  v53 := Tryd.zeroValue44
  t131 := Tryd.underlying55
  a131 := Tryd.isAgg55
  z131 := Tryd.sizeOf55
  v131 := Tryd.zeroValue55
  t182 := Tryd.underlying208
  a182 := Tryd.isAgg208
  z182 := Tryd.sizeOf208
  v182 := Tryd.zeroValue208
  t183 := Tryd.underlying209
  a183 := Tryd.isAgg209
  z183 := Tryd.sizeOf209
  v183 := Tryd.zeroValue209
  t218 := Tryd.underlying224
  a218 := Tryd.isAgg224
  z218 := Tryd.sizeOf224
  v218 := Tryd.zeroValue224
  t222 := Tryd.underlying227
  a222 := Tryd.isAgg227
  z222 := Tryd.sizeOf227
  v222 := Tryd.zeroValue227
  t228 := Tryd.underlying232
  a228 := Tryd.isAgg232
  z228 := Tryd.sizeOf232
  v228 := Tryd.zeroValue232
  t229 := Tryd.underlying233
  a229 := Tryd.isAgg233
  z229 := Tryd.sizeOf233
  v229 := Tryd.zeroValue233 }
open Go.Sort Go.RowKit in
theorem Tryd.slices_Sort_string (blk off cap : Nat) (ss : List (List UInt8)) (w : World) (hH : Holds encStr w blk off ss.toArray) (hblk : blk < w.heap.size) (hsz : ss.length < 4611686018427387904) :
    Calls Tryd.prog 126 #[.slice (some ⟨blk, off, none⟩) ss.length cap] w fun e w' =>
      e = .returned (.tuple #[]) ∧ ∃ n os, w' = grow (putRow encStr (Sort.ahead w n) blk off (ss.mergeSort fun x y => decide (x ≤ y)).toArray) os := Any.slices_Sort_string Tryd.lays190 blk off cap ss w hH hblk hsz
def Tryd.lays108_ren : Go.Shelf.Ren := ⟨fun | 108 => 138 | n => n, fun | 28 => 148 | 3 => 3 | 0 => 0 | 4 => 4 | n => n, fun | n => n⟩
theorem Tryd.lays108 : Go.Proofs.Lays.n108 Tryd.prog Tryd.lays108_ren := {
  mixed := by kernel_rfl
  f108 := Tryd.func138.trans (congrArg some (by kernel_rfl))
  t0 := Tryd.underlying0
  a0 := Tryd.isAgg0
  z0 := Tryd.sizeOf0
  v0 := Tryd.zeroValue0
  t3 := Tryd.underlying3
  a3 := Tryd.isAgg3
  z3 := Tryd.sizeOf3
  v3 := Tryd.zeroValue3
  t4 := Tryd.underlying4
  a4 := Tryd.isAgg4
  z4 := Tryd.sizeOf4
  v4 := Tryd.zeroValue4
  t28 := Tryd.underlying148
  a28 := Tryd.isAgg148
  z28 := Tryd.sizeOf148
  v28 := Tryd.zeroValue148 }
open Go.Lib in
/-- slices.Index at []int: "Index returns the index of the first occurrence of v in s, or -1 if not present.": IT RETURNS 'Lib.idxOf (the elements) v'; the world is as it was. 'zs': what the cells behind the slice's address hold (its spare capacity too, if you have it); 'zs.take n': its elements. (LAID: no walk: one application.) -/
theorem Tryd.slices_Index_int (b off n c : Nat) (zs : List Int) (x : Int) (w : World) (hz : n ≤ zs.length) (hbig : n ≤ 9223372036854775807) (hc : ∀ j, j < zs.length → w.cell? ⟨b, off + j, none⟩ = some (.int .i64 (zs.getD j 0))) :
    Calls Tryd.prog 138 #[.slice (some ⟨b, off, none⟩) n c, .int .i64 x] w fun e w' => e = .returned (.int .i64 (Lib.idxOf (zs.take n) x)) ∧ w' = w := Any.slices_Index_int Tryd.lays108 b off n c zs x w hz hbig hc
open Go.Lib in
/-- The same at a slice of length 0, a nil one too: no cell is known, none is asked for. (LAID: no walk: one application.) -/
theorem Tryd.slices_Index_int_empty (a : Option Addr) (c : Nat) (x : Int) (w : World) :
    Calls Tryd.prog 138 #[.slice a 0 c, .int .i64 x] w fun e w' => e = .returned (.int .i64 (Lib.idxOf [] x)) ∧ w' = w := Any.slices_Index_int_empty Tryd.lays108 a c x w
def Tryd.lays107_ren : Go.Shelf.Ren := ⟨fun | 107 => 122 | 108 => 138 | n => n, fun | 28 => 148 | 3 => 3 | 4 => 4 | 0 => 0 | n => n, fun | n => n⟩
theorem Tryd.lays107 : Go.Proofs.Lays.n107 Tryd.prog Tryd.lays107_ren := {
  mixed := by kernel_rfl
  f107 := Tryd.func122.trans (congrArg some (by kernel_rfl))
  f108 := Tryd.func138.trans (congrArg some (by kernel_rfl))
  t0 := Tryd.underlying0
  a0 := Tryd.isAgg0
  z0 := Tryd.sizeOf0
  v0 := Tryd.zeroValue0
  t3 := Tryd.underlying3
  a3 := Tryd.isAgg3
  z3 := Tryd.sizeOf3
  v3 := Tryd.zeroValue3
  t4 := Tryd.underlying4
  a4 := Tryd.isAgg4
  z4 := Tryd.sizeOf4
  v4 := Tryd.zeroValue4
  t28 := Tryd.underlying148
  a28 := Tryd.isAgg148
  z28 := Tryd.sizeOf148
  v28 := Tryd.zeroValue148 }
open Go.Lib in
/-- slices.Contains at []int: "Contains reports whether v is present in s.": IT RETURNS 'elements.contains v'; the world is as it was. ITS CALLEE slices.Index IS MET BY ITS OWN CONTRACT OFF THE SHELF (lay that first): no loop is walked here. (LAID: no walk: one application.) -/
theorem Tryd.slices_Contains_int (b off n c : Nat) (zs : List Int) (x : Int) (w : World) (hz : n ≤ zs.length) (hbig : n ≤ 9223372036854775807) (hc : ∀ j, j < zs.length → w.cell? ⟨b, off + j, none⟩ = some (.int .i64 (zs.getD j 0))) :
    Calls Tryd.prog 122 #[.slice (some ⟨b, off, none⟩) n c, .int .i64 x] w fun e w' => e = .returned (.bool ((zs.take n).contains x)) ∧ w' = w := Any.slices_Contains_int Tryd.lays107 b off n c zs x w hz hbig hc
open Go.Lib in
/-- The same at a slice of length 0, a nil one too. (LAID: no walk: one application.) -/
theorem Tryd.slices_Contains_int_empty (a : Option Addr) (c : Nat) (x : Int) (w : World) :
    Calls Tryd.prog 122 #[.slice a 0 c, .int .i64 x] w fun e w' => e = .returned (.bool false) ∧ w' = w := Any.slices_Contains_int_empty Tryd.lays107 a c x w
def Tryd.laysNm217_ren : Go.Shelf.Ren := ⟨fun | 17 => 141 | n => n, fun | 24 => 45 | 9 => 9 | 3 => 3 | 4 => 4 | 0 => 0 | n => n, fun | n => n⟩
theorem Tryd.laysNm217 : Go.Proofs.Lays2.n17 Tryd.prog Tryd.laysNm217_ren := {
  mixed := by kernel_rfl
  f17 := Tryd.func141.trans (congrArg some (by kernel_rfl))
  t0 := Tryd.underlying0
  a0 := Tryd.isAgg0
  z0 := Tryd.sizeOf0
  v0 := Tryd.zeroValue0
  t3 := Tryd.underlying3
  a3 := Tryd.isAgg3
  z3 := Tryd.sizeOf3
  v3 := Tryd.zeroValue3
  t4 := Tryd.underlying4
  a4 := Tryd.isAgg4
  z4 := Tryd.sizeOf4
  v4 := Tryd.zeroValue4
  t9 := Tryd.underlying9
  a9 := Tryd.isAgg9
  z9 := Tryd.sizeOf9
  v9 := Tryd.zeroValue9
  t24 := Tryd.underlying45
  a24 := Tryd.isAgg45
  z24 := Tryd.sizeOf45
  v24 := Tryd.zeroValue45 }
open Go.RowKit Go.Lib Go.Sort in
/-- slices.Reverse at []string, over an array: Go's loop from the two ends inward is walked; it makes 'Sort.reverseLoop 0 (len - 1)', which is 'Array.reverse' (Derived/Lib/SlicesMore.lean). (LAID: no walk: one application.) -/
theorem Tryd.slices_Reverse_string_arr (blk off cap : Nat) (d : Array (List UInt8)) (w : World) (hH : Holds encStr w blk off d) (hsz : d.size ≤ 9223372036854775807) :
    Calls Tryd.prog 141 #[.slice (some ⟨blk, off, none⟩) d.size cap] w fun e w' => e = .returned (.tuple #[]) ∧ ∃ n, w' = putRow encStr (Sort.ahead w n) blk off d.reverse := Any.slices_Reverse_string_arr Tryd.laysNm217 blk off cap d w hH hsz
open Go.RowKit Go.Lib Go.Sort in
/-- slices.Reverse at []string: "Reverse reverses the elements of the slice in place.": THE SLICE's CELLS HOLD 'zs.reverse' BEHIND THE CALL; all else is as it was, but for the count of draws (the exchange 's[i], s[j] = s[j], s[i]' draws its order, once a round). IN THE WORDS OF slices.Sort's CONTRACT: 'Holds': the cells hold zs and none is frozen; 'putRow': the world with those cells holding another array. A slice of length 0 that is not nil is among them ('zs = []'); nil: '.._nil'. (LAID: no walk: one application.) -/
theorem Tryd.slices_Reverse_string (blk off cap : Nat) (zs : List (List UInt8)) (w : World) (hH : Holds encStr w blk off zs.toArray) (hsz : zs.length ≤ 9223372036854775807) :
    Calls Tryd.prog 141 #[.slice (some ⟨blk, off, none⟩) zs.length cap] w fun e w' => e = .returned (.tuple #[]) ∧ ∃ n, w' = putRow encStr (Sort.ahead w n) blk off zs.reverse.toArray := Any.slices_Reverse_string Tryd.laysNm217 blk off cap zs w hH hsz
open Go.RowKit Go.Lib Go.Sort in
/-- The same at a slice of length 0, a nil one too: nothing is read, nothing written, nothing drawn. (LAID: no walk: one application.) -/
theorem Tryd.slices_Reverse_string_empty (a : Option Addr) (cap : Nat) (w : World) :
    Calls Tryd.prog 141 #[.slice a 0 cap] w fun e w' => e = .returned (.tuple #[]) ∧ w' = w := Any.slices_Reverse_string_empty Tryd.laysNm217 a cap w
def Tryd.laysNm215_ren : Go.Shelf.Ren := ⟨fun | 15 => 120 | n => n, fun | 22 => 148 | 3 => 3 | 4 => 4 | n => n, fun | n => n⟩
theorem Tryd.laysNm215 : Go.Proofs.Lays2.n15 Tryd.prog Tryd.laysNm215_ren := {
  mixed := by kernel_rfl
  f15 := Tryd.func120.trans (congrArg some (by kernel_rfl))
  t3 := Tryd.underlying3
  a3 := Tryd.isAgg3
  z3 := Tryd.sizeOf3
  v3 := Tryd.zeroValue3
  t4 := Tryd.underlying4
  a4 := Tryd.isAgg4
  z4 := Tryd.sizeOf4
  v4 := Tryd.zeroValue4
  t22 := Tryd.underlying148
  a22 := Tryd.isAgg148
  z22 := Tryd.sizeOf148
  v22 := Tryd.zeroValue148
  i3 := by kernel_rfl }
open Go.RowKit Go.Lib in
/-- slices.Clone at []int: "Clone returns a copy of the slice. The elements are copied using assignment, so this is a shallow clone. The result may have additional unused capacity. The result preserves the nilness of s.": OF A SLICE THAT IS NOT nil IT RETURNS A SLICE THAT IS NOT nil, OF THE SAME ELEMENTS, IN MEMORY OF THE CALL's OWN: in the how-to's words (6f): 'w'.ownsRow B e 1 v' n cells': v' begins at the head of a row among the blocks from B on (B: the heap's size at the call), not frozen, whose first cells are the elements · 'Below B w w'': below B all is as it was. The capacity is whatever the run-time gives. 'zs': what the cells behind the slice's address hold; 'zs.take n': its elements. (LAID: no walk: one application.) -/
theorem Tryd.slices_Clone_int (b off n c : Nat) (zs : List Int) (w : World) (hz : n ≤ zs.length) (hbig : n * 8 ≤ 140737488355328) (hc : ∀ j, j < zs.length → w.cell? ⟨b, off + j, none⟩ = some (.int .i64 (zs.getD j 0))) :
    Calls Tryd.prog 120 #[.slice (some ⟨b, off, none⟩) n c] w fun e w' => ∃ v', e = .returned v' ∧ w'.ownsRow w.heap.size 3 1 v' n ((zs.take n).map (Value.int .i64)) ∧ v' ≠ .slice none 0 0 ∧ Below w.heap.size w w' := Any.slices_Clone_int Tryd.laysNm215 b off n c zs w hz hbig hc
open Go.RowKit Go.Lib in
/-- The same at nil: nil comes back; the world is as it was. (LAID: no walk: one application.) -/
theorem Tryd.slices_Clone_int_nil (n c : Nat) (w : World) :
    Calls Tryd.prog 120 #[.slice none n c] w fun e w' => e = .returned (.slice none 0 0) ∧ w' = w := Any.slices_Clone_int_nil Tryd.laysNm215 n c w
def Tryd.laysNm216_ren : Go.Shelf.Ren := ⟨fun | 16 => 68 | n => n, fun | 24 => 45 | 9 => 9 | 4 => 4 | n => n, fun | n => n⟩
theorem Tryd.laysNm216 : Go.Proofs.Lays2.n16 Tryd.prog Tryd.laysNm216_ren := {
  mixed := by kernel_rfl
  f16 := Tryd.func68.trans (congrArg some (by kernel_rfl))
  t4 := Tryd.underlying4
  a4 := Tryd.isAgg4
  z4 := Tryd.sizeOf4
  v4 := Tryd.zeroValue4
  t9 := Tryd.underlying9
  a9 := Tryd.isAgg9
  z9 := Tryd.sizeOf9
  v9 := Tryd.zeroValue9
  t24 := Tryd.underlying45
  a24 := Tryd.isAgg45
  z24 := Tryd.sizeOf45
  v24 := Tryd.zeroValue45
  i9 := by kernel_rfl }
open Go.RowKit Go.Lib in
/-- slices.Clone at []string: "Clone returns a copy of the slice. The elements are copied using assignment, so this is a shallow clone. The result may have additional unused capacity. The result preserves the nilness of s.": OF A SLICE THAT IS NOT nil IT RETURNS A SLICE THAT IS NOT nil, OF THE SAME ELEMENTS, IN MEMORY OF THE CALL's OWN: in the how-to's words (6f): 'w'.ownsRow B e 1 v' n cells': v' begins at the head of a row among the blocks from B on (B: the heap's size at the call), not frozen, whose first cells are the elements · 'Below B w w'': below B all is as it was. The capacity is whatever the run-time gives. 'zs': what the cells behind the slice's address hold; 'zs.take n': its elements. (LAID: no walk: one application.) -/
theorem Tryd.slices_Clone_string (b off n c : Nat) (zs : List ByteArray) (w : World) (hz : n ≤ zs.length) (hbig : n * 16 ≤ 140737488355328) (hc : ∀ j, j < zs.length → w.cell? ⟨b, off + j, none⟩ = some (.string (zs.getD j ByteArray.empty))) :
    Calls Tryd.prog 68 #[.slice (some ⟨b, off, none⟩) n c] w fun e w' => ∃ v', e = .returned v' ∧ w'.ownsRow w.heap.size 9 1 v' n ((zs.take n).map (Value.string)) ∧ v' ≠ .slice none 0 0 ∧ Below w.heap.size w w' := Any.slices_Clone_string Tryd.laysNm216 b off n c zs w hz hbig hc
open Go.RowKit Go.Lib in
/-- The same at nil: nil comes back; the world is as it was. (LAID: no walk: one application.) -/
theorem Tryd.slices_Clone_string_nil (n c : Nat) (w : World) :
    Calls Tryd.prog 68 #[.slice none n c] w fun e w' => e = .returned (.slice none 0 0) ∧ w' = w := Any.slices_Clone_string_nil Tryd.laysNm216 n c w
open Go.RowKit Go.Lib in
/-- The same at a slice of length 0 that is not nil, WHATEVER ITS ADDRESS (no cell is asked for): a slice that is not nil and owns nothing comes back. (LAID: no walk: one application.) -/
theorem Tryd.slices_Clone_int_zero (a : Addr) (c : Nat) (w : World) :
    Calls Tryd.prog 120 #[.slice (some a) 0 c] w fun e w' => ∃ v', e = .returned v' ∧ w'.ownsRow w.heap.size 3 1 v' 0 [] ∧ v' ≠ .slice none 0 0 ∧ Below w.heap.size w w' := Any.slices_Clone_int_zero Tryd.laysNm215 a c w
open Go.RowKit Go.Lib in
/-- The same at a slice of length 0 that is not nil, WHATEVER ITS ADDRESS (no cell is asked for): a slice that is not nil and owns nothing comes back. (LAID: no walk: one application.) -/
theorem Tryd.slices_Clone_string_zero (a : Addr) (c : Nat) (w : World) :
    Calls Tryd.prog 68 #[.slice (some a) 0 c] w fun e w' => ∃ v', e = .returned v' ∧ w'.ownsRow w.heap.size 9 1 v' 0 [] ∧ v' ≠ .slice none 0 0 ∧ Below w.heap.size w w' := Any.slices_Clone_string_zero Tryd.laysNm216 a c w
def Tryd.laysNm237_ren : Go.Shelf.Ren := ⟨fun | 37 => 172 | n => n, fun | 3 => 3 | 4 => 4 | n => n, fun | n => n⟩
theorem Tryd.laysNm237 : Go.Proofs.Lays2.n37 Tryd.prog Tryd.laysNm237_ren := {
  mixed := by kernel_rfl
  f37 := Tryd.func172.trans (congrArg some (by kernel_rfl))
  t3 := Tryd.underlying3
  a3 := Tryd.isAgg3
  z3 := Tryd.sizeOf3
  v3 := Tryd.zeroValue3
  t4 := Tryd.underlying4
  a4 := Tryd.isAgg4
  z4 := Tryd.sizeOf4
  v4 := Tryd.zeroValue4 }
open Go.RowKit Go.Lib in
/-- cmp.isNaN[int]: 'x != x': false. (LAID: no walk: one application.) -/
theorem Tryd.cmp_isNaN_int2 (x : Int) (w : World) :
    Calls Tryd.prog 172 #[.int .i64 x] w fun e w' => e = .returned (.bool false) ∧ w' = w := Any.cmp_isNaN_int2 Tryd.laysNm237 x w
def Tryd.laysNm231_ren : Go.Shelf.Ren := ⟨fun | 31 => 152 | 37 => 172 | n => n, fun | 3 => 3 | 4 => 4 | n => n, fun | n => n⟩
theorem Tryd.laysNm231 : Go.Proofs.Lays2.n31 Tryd.prog Tryd.laysNm231_ren := {
  mixed := by kernel_rfl
  f31 := Tryd.func152.trans (congrArg some (by kernel_rfl))
  f37 := Tryd.func172.trans (congrArg some (by kernel_rfl))
  t3 := Tryd.underlying3
  a3 := Tryd.isAgg3
  z3 := Tryd.sizeOf3
  v3 := Tryd.zeroValue3
  t4 := Tryd.underlying4
  a4 := Tryd.isAgg4
  z4 := Tryd.sizeOf4
  v4 := Tryd.zeroValue4 }
open Go.RowKit Go.Lib in
/-- cmp.Less[int]: "Less reports whether x is less than y.": 'x < y'; the world is as it was. (LAID: no walk: one application.) -/
theorem Tryd.cmp_Less_int2 (x y : Int) (w : World) :
    Calls Tryd.prog 152 #[.int .i64 x, .int .i64 y] w fun e w' => e = .returned (.bool (decide (x < y))) ∧ w' = w := Any.cmp_Less_int2 Tryd.laysNm231 x y w
open Go.RowKit Go.Lib Go.Sort in
/-- slices.Reverse at []string, of an argument. (LAID: no walk: one application.) -/
theorem Tryd.slices_Reverse_string_cells (b off n c : Nat) (Sx : Nat → ByteArray) (w : World) (hbig : n ≤ 9223372036854775807) (hc : ∀ i, i < n → w.cell? ⟨b, off + i, none⟩ = some (.string (Sx i))) (hf : ∀ j, j < n → w.frozen? ⟨b, off + j, none⟩ = false) :
    Calls Tryd.prog 141 #[.slice (some ⟨b, off, none⟩) n c] w fun e w' => e = .returned (.tuple #[]) ∧ ∃ q, w' = (w.drewN q).setCells b off ((Lib.strsOf Sx n).reverse.map encStr) := Any.slices_Reverse_string_cells Tryd.laysNm217 b off n c Sx w hbig hc hf
def Tryd.lays115_ren : Go.Shelf.Ren := ⟨fun | 115 => 61 | n => n, fun | 37 => 26 | 4 => 4 | 9 => 9 | 5 => 5 | n => n, fun | n => n⟩
theorem Tryd.lays115 : Go.Proofs.Lays.n115 Tryd.prog Tryd.lays115_ren := {
  mixed := by kernel_rfl
  f115 := Tryd.func61.trans (congrArg some (by kernel_rfl))
  t4 := Tryd.underlying4
  a4 := Tryd.isAgg4
  z4 := Tryd.sizeOf4
  v4 := Tryd.zeroValue4
  t9 := Tryd.underlying9
  a9 := Tryd.isAgg9
  z9 := Tryd.sizeOf9
  v9 := Tryd.zeroValue9
  t37 := Tryd.underlying26
  a37 := Tryd.isAgg26
  z37 := Tryd.sizeOf26
  v37 := Tryd.zeroValue26 }
open Go.Proofs Go.RowKit Go.Lib in
/-- bytes.Equal, each argument with what 'string(..)' of it gives. (LAID: no walk: one application.) -/
theorem Tryd.bytes_Equal_strs (v1 v2 : Value) (t1 t2 : ByteArray) (w : World) (h1 : (convert 26 9 v1).run Tryd.prog w = .ok (.string t1) w) (h2 : (convert 26 9 v2).run Tryd.prog w = .ok (.string t2) w) :
    Calls Tryd.prog 61 #[v1, v2] w fun e w' => e = .returned (.bool (t1.toList == t2.toList)) ∧ w' = w := Any.bytes_Equal_strs Tryd.lays115 v1 v2 t1 t2 w h1 h2
def Tryd.laysSlK4_ren : Go.Shelf.Ren := ⟨fun | 4 => 90 | n => n, fun | 22 => 26 | 4 => 4 | 5 => 5 | n => n, fun | n => n⟩
theorem Tryd.laysSlK4 : Go.Proofs.SlLaysK.n4 Tryd.prog Tryd.laysSlK4_ren := {
  mixed := by kernel_rfl
  f4 := Tryd.func90.trans (congrArg some (by kernel_rfl))
  t4 := Tryd.underlying4
  a4 := Tryd.isAgg4
  z4 := Tryd.sizeOf4
  v4 := Tryd.zeroValue4
  t22 := Tryd.underlying26
  a22 := Tryd.isAgg26
  z22 := Tryd.sizeOf26
  v22 := Tryd.zeroValue26
  t5 := Tryd.underlying5
  i5 := by kernel_rfl }
open Go.RowKit Go.Lib in
/-- bytes.Clone: "Clone returns a copy of b[:len(b)]. The result may have additional unused capacity.": OF A SLICE THAT IS NOT nil IT RETURNS A SLICE THAT IS NOT nil, OF THE SAME BYTES, IN MEMORY OF THE CALL's OWN: in the how-to's words (6f): 'w'.ownsRow B e 1 v' n cells' · 'Below B w w'', B the heap's size at the call. b AT WHATEVER ADDRESS, its cells as 'open_ints' hands them ('a.add i'; the numbers 'xs'). No byte: no cell is asked for. (LAID: no walk: one application.) -/
theorem Tryd.bytes_Clone_at (a : Addr) (n c : Nat) (xs : List Int) (w : World) (hx : xs.length = n) (hbig : n ≤ 140737488355328) (hc : ∀ i, i < n → w.cell? (a.add i) = some (.int .u8 (xs.getD i 0))) :
    Calls Tryd.prog 90 #[.slice (some a) n c] w fun e w' => ∃ v', e = .returned v' ∧ w'.ownsRow w.heap.size 5 1 v' n (xs.map (Value.int .u8)) ∧ v' ≠ .slice none 0 0 ∧ Below w.heap.size w w' := Any.bytes_Clone_at Tryd.laysSlK4 a n c xs w hx hbig hc
open Go.RowKit Go.Lib in
/-- "Clone(nil) returns nil.": the world is as it was. (LAID: no walk: one application.) -/
theorem Tryd.bytes_Clone_nil (n c : Nat) (w : World) :
    Calls Tryd.prog 90 #[.slice none n c] w fun e w' => e = .returned (.slice none 0 0) ∧ w' = w := Any.bytes_Clone_nil Tryd.laysSlK4 n c w
def Tryd.laysSlJ14_ren : Go.Shelf.Ren := ⟨fun | 14 => 78 | 15 => 111 | n => n, fun | 26 => 123 | 22 => 26 | 3 => 3 | 4 => 4 | 0 => 0 | 9 => 9 | 20 => 20 | 5 => 5 | n => n, fun | n => n⟩
theorem Tryd.laysSlJ14 : Go.Proofs.SlLaysJ.n14 Tryd.prog Tryd.laysSlJ14_ren := {
  mixed := by kernel_rfl
  f14 := Tryd.func78.trans (congrArg some (by kernel_rfl))
  f15 := Tryd.func111.trans (congrArg some (by kernel_rfl))
  t0 := Tryd.underlying0
  a0 := Tryd.isAgg0
  z0 := Tryd.sizeOf0
  v0 := Tryd.zeroValue0
  t3 := Tryd.underlying3
  a3 := Tryd.isAgg3
  z3 := Tryd.sizeOf3
  v3 := Tryd.zeroValue3
  t4 := Tryd.underlying4
  a4 := Tryd.isAgg4
  z4 := Tryd.sizeOf4
  v4 := Tryd.zeroValue4
  t9 := Tryd.underlying9
  a9 := Tryd.isAgg9
  z9 := Tryd.sizeOf9
  v9 := Tryd.zeroValue9
  t20 := Tryd.underlying20
  a20 := Tryd.isAgg20
  z20 := Tryd.sizeOf20
  v20 := Tryd.zeroValue20
  t22 := Tryd.underlying26
  a22 := Tryd.isAgg26
  z22 := Tryd.sizeOf26
  v22 := Tryd.zeroValue26
  t26 := Tryd.underlying123
  a26 := Tryd.isAgg123
  z26 := Tryd.sizeOf123
  v26 := Tryd.zeroValue123
  t5 := Tryd.underlying5
  z5 := Tryd.sizeOf5
  i5 := by kernel_rfl }
open Go.RowKit Go.Lib in
theorem Tryd.bytes_Join_many (b o n c : Nat) (vs : List Value) (ls : List (List UInt8)) (sv : Value) (sep : List UInt8) (w : World) (hn : ls.length = n) (h2 : 2 ≤ n) (hP : Lib.PartsAt w ⟨b, o, none⟩ vs ls) (hcap : n ≤ c) (hS : Lib.HoldsBytes w sv sep) (hn47 : n ≤ 140737488355328) (hlen : Lib.lens ls + sep.length * (n - 1) ≤ 140737488355328) :
    Calls Tryd.prog 78 #[.slice (some ⟨b, o, none⟩) n c, sv] w fun e w' => ∃ v', e = .returned v' ∧ Lib.FreshBytes w.heap.size w' v' (Lib.join ls sep) ∧ Below w.heap.size w w' := Any.bytes_Join_many Tryd.laysSlJ14 b o n c vs ls sv sep w hn h2 hP hcap hS hn47 hlen
open Go.RowKit Go.Lib in
/-- bytes.Join of no part (nil too): '[]byte{}': a slice of no byte THAT IS NOT nil, at the head of a new, empty row. (LAID: no walk: one application.) -/
theorem Tryd.bytes_Join_none (p : Option Addr) (c : Nat) (sv : Value) (w : World) :
    Calls Tryd.prog 78 #[.slice p 0 c, sv] w fun e w' => e = .returned (.slice (some ⟨w.heap.size, 0, none⟩) 0 0) ∧ w' = w.alloc (.cells #[] 5) := Any.bytes_Join_none Tryd.laysSlJ14 p c sv w
open Go.RowKit Go.Lib in
/-- bytes.Join of ONE part, of one byte or more: 'append([]byte(nil), s[0]...)': a new []byte of its bytes; sep is not looked at. (LAID: no walk: one application.) -/
theorem Tryd.bytes_Join_one (b o c : Nat) (ad0 : Addr) (c0 : Nat) (l0 : List UInt8) (sv : Value) (w : World) (hcell : w.cell? ⟨b, o, none⟩ = some (.slice (some ad0) l0.length c0)) (hc : ∀ (i : Nat) x, l0[i]? = some x → w.cell? (ad0.add i) = some (.int .u8 (x.toNat : Int))) (h0 : 0 < l0.length) (hs : l0.length ≤ 140737488355328) :
    Calls Tryd.prog 78 #[.slice (some ⟨b, o, none⟩) 1 c, sv] w fun e w' => ∃ v', e = .returned v' ∧ Lib.FreshBytes w.heap.size w' v' l0 ∧ Below w.heap.size w w' := Any.bytes_Join_one Tryd.laysSlJ14 b o c ad0 c0 l0 sv w hcell hc h0 hs
open Go.RowKit Go.Lib in
/-- bytes.Join of ONE part of no byte (nil or not): 'append([]byte(nil), s[0]...)' IS nil; the world is as it was. (LAID: no walk: one application.) -/
theorem Tryd.bytes_Join_one_empty (b o c : Nat) (p0 : Option Addr) (c0 : Nat) (sv : Value) (w : World) (hcell : w.cell? ⟨b, o, none⟩ = some (.slice p0 0 c0)) :
    Calls Tryd.prog 78 #[.slice (some ⟨b, o, none⟩) 1 c, sv] w fun e w' => e = .returned (.slice none 0 0) ∧ w' = w := Any.bytes_Join_one_empty Tryd.laysSlJ14 b o c p0 c0 sv w hcell
def Tryd.laysSlE041_f68_ren : Go.Shelf.Ren := ⟨fun | 41 => 68 | n => n, fun | 22 => 45 | 23 => 9 | 4 => 4 | n => n, fun | n => n⟩
theorem Tryd.laysSlE041_f68 : Go.Proofs.SlLaysE0.n41 Tryd.prog Tryd.laysSlE041_f68_ren := {
  mixed := by kernel_rfl
  f41 := ⟨Tryd.f68.name, by decide, Tryd.func68.trans (congrArg some (by kernel_rfl))⟩
  t4 := Tryd.underlying4
  a4 := Tryd.isAgg4
  z4 := Tryd.sizeOf4
  v4 := Tryd.zeroValue4
  t22 := Tryd.underlying45
  a22 := Tryd.isAgg45
  z22 := Tryd.sizeOf45
  v22 := Tryd.zeroValue45 }
open Go.RowKit Go.Lib in
/-- slices.Clone: "Clone returns a copy of the slice. The elements are copied using assignment, so this is a shallow clone. The result may have additional unused capacity. The result preserves the nilness of s.": OF A SLICE THAT IS NOT nil IT RETURNS A SLICE THAT IS NOT nil, OF THE SAME CELLS, IN MEMORY OF THE CALL's OWN ('ownsRow': the how-to's 6f); below the heap's size at the call all is as it was. (LAID AT THE INSTANCE 'slices.Clone[[]string,string]': no walk: one application.) -/
theorem Tryd.slices_Clone_f68 (i0 : TypeInfo) (z : Value) (size bytes : Nat) (hi : Tryd.prog.info? 9 = some i0) (hz0 : i0.zero = some z) (hz1 : i0.size = size) (hz2 : i0.bytes = bytes) (hzs : z.cells.size = size) (hsz : 0 < size) (z23 : ∀ w, (Go.sizeOf 9).run Tryd.prog w = .ok size w) (b off n c : Nat) (news : List Value) (w : World) (hl : news.length = n * size) (hn : n ≤ maxLen) (hbig : n * bytes ≤ 140737488355328) (hc : ∀ j u, news[j]? = some u → w.cell? ⟨b, off + j, none⟩ = some u) (h1 : ∀ u ∈ news, u.oneCell' = true) :
    Calls Tryd.prog 68 #[.slice (some ⟨b, off, none⟩) n c] w fun e w' => ∃ v', e = .returned v' ∧ w'.ownsRow w.heap.size 9 size v' n news ∧ v' ≠ .slice none 0 0 ∧ Below w.heap.size w w' := AnyE.slices_Clone Tryd.laysSlE041_f68 i0 z size bytes hi hz0 hz1 hz2 hzs hsz z23 b off n c news w hl hn hbig hc h1
def Tryd.laysSlE041_f120_ren : Go.Shelf.Ren := ⟨fun | 41 => 120 | n => n, fun | 22 => 148 | 23 => 3 | 4 => 4 | n => n, fun | n => n⟩
theorem Tryd.laysSlE041_f120 : Go.Proofs.SlLaysE0.n41 Tryd.prog Tryd.laysSlE041_f120_ren := {
  mixed := by kernel_rfl
  f41 := ⟨Tryd.f120.name, by decide, Tryd.func120.trans (congrArg some (by kernel_rfl))⟩
  t4 := Tryd.underlying4
  a4 := Tryd.isAgg4
  z4 := Tryd.sizeOf4
  v4 := Tryd.zeroValue4
  t22 := Tryd.underlying148
  a22 := Tryd.isAgg148
  z22 := Tryd.sizeOf148
  v22 := Tryd.zeroValue148 }
open Go.RowKit Go.Lib in
/-- slices.Clone: "Clone returns a copy of the slice. The elements are copied using assignment, so this is a shallow clone. The result may have additional unused capacity. The result preserves the nilness of s.": OF A SLICE THAT IS NOT nil IT RETURNS A SLICE THAT IS NOT nil, OF THE SAME CELLS, IN MEMORY OF THE CALL's OWN ('ownsRow': the how-to's 6f); below the heap's size at the call all is as it was. (LAID AT THE INSTANCE 'slices.Clone[[]int,int]': no walk: one application.) -/
theorem Tryd.slices_Clone_f120 (i0 : TypeInfo) (z : Value) (size bytes : Nat) (hi : Tryd.prog.info? 3 = some i0) (hz0 : i0.zero = some z) (hz1 : i0.size = size) (hz2 : i0.bytes = bytes) (hzs : z.cells.size = size) (hsz : 0 < size) (z23 : ∀ w, (Go.sizeOf 3).run Tryd.prog w = .ok size w) (b off n c : Nat) (news : List Value) (w : World) (hl : news.length = n * size) (hn : n ≤ maxLen) (hbig : n * bytes ≤ 140737488355328) (hc : ∀ j u, news[j]? = some u → w.cell? ⟨b, off + j, none⟩ = some u) (h1 : ∀ u ∈ news, u.oneCell' = true) :
    Calls Tryd.prog 120 #[.slice (some ⟨b, off, none⟩) n c] w fun e w' => ∃ v', e = .returned v' ∧ w'.ownsRow w.heap.size 3 size v' n news ∧ v' ≠ .slice none 0 0 ∧ Below w.heap.size w w' := AnyE.slices_Clone Tryd.laysSlE041_f120 i0 z size bytes hi hz0 hz1 hz2 hzs hsz z23 b off n c news w hl hn hbig hc h1
open Go.RowKit Go.Lib in
/-- The same at nil: nil comes back; the world is as it was; nothing is asked of the element's type. (LAID AT THE INSTANCE 'slices.Clone[[]string,string]': no walk: one application.) -/
theorem Tryd.slices_Clone_nil_f68 (n c : Nat) (w : World) :
    Calls Tryd.prog 68 #[.slice none n c] w fun e w' => e = .returned (.slice none 0 0) ∧ w' = w := AnyE.slices_Clone_nil Tryd.laysSlE041_f68 n c w
open Go.RowKit Go.Lib in
/-- The same at nil: nil comes back; the world is as it was; nothing is asked of the element's type. (LAID AT THE INSTANCE 'slices.Clone[[]int,int]': no walk: one application.) -/
theorem Tryd.slices_Clone_nil_f120 (n c : Nat) (w : World) :
    Calls Tryd.prog 120 #[.slice none n c] w fun e w' => e = .returned (.slice none 0 0) ∧ w' = w := AnyE.slices_Clone_nil Tryd.laysSlE041_f120 n c w
def Tryd.laysnb115_ren : Go.Shelf.Ren := ⟨fun | 115 => 61 | n => n, fun | 37 => 26 | 4 => 4 | 9 => 9 | 5 => 5 | n => n, fun | n => n⟩
theorem Tryd.laysnb115 : Go.Proofs.Lays.nb115 Tryd.prog Tryd.laysnb115_ren := {
  mixed := by kernel_rfl
  f115 := Tryd.func61.trans (congrArg some (by kernel_rfl))
  t4 := Tryd.underlying4
  a4 := Tryd.isAgg4
  z4 := Tryd.sizeOf4
  v4 := Tryd.zeroValue4
  t9 := Tryd.underlying9
  a9 := Tryd.isAgg9
  z9 := Tryd.sizeOf9
  v9 := Tryd.zeroValue9
  t37 := Tryd.underlying26
  a37 := Tryd.isAgg26
  z37 := Tryd.sizeOf26
  v37 := Tryd.zeroValue26
  t5 := Tryd.underlying5
  a5 := Tryd.isAgg5
  z5 := Tryd.sizeOf5
  v5 := Tryd.zeroValue5 }
/-- bytes.Equal: WHOLE. (LAID: no walk: one application.) -/
theorem Tryd.bytes_Equal_all (p1 p2 : Option Addr) (n c m d : Nat) (xs ys : List Int) (w : World) (hx : xs.length = n) (hy : ys.length = m) (h1 : Lib.BytesIn w p1 n xs) (h2 : Lib.BytesIn w p2 m ys) :
    Calls Tryd.prog 61 #[.slice p1 n c, .slice p2 m d] w fun e w' => e = .returned (.bool (Lib.bytesOf xs == Lib.bytesOf ys)) ∧ w' = w := Any.bytes_Equal_all Tryd.laysnb115 p1 p2 n c m d xs ys w hx hy h1 h2
/-- bytes.Equal: "Equal reports whether a and b are the same length and contain the same bytes. A nil argument is equivalent to an empty slice.": IT RETURNS 'the bytes of the one == the bytes of the other'; the world is as it was. THE TWO ARGUMENTS COME AS WHATEVER VALUES, each with the one fact that the walk wants of it: what 'string(..)' of it gives: for a slice whose cells you know: 'run_convert_bytes_arg' (Derived/Laws/BytesArg.lean) hands that fact; for a nil one: 'run_convert_bytes_nil' (with xs := []). (LAID: no walk: one application.) -/
theorem Tryd.bytes_Equal (v1 v2 : Value) (xs ys : List Int) (w : World) (h1 : (convert 26 9 v1).run Tryd.prog w = .ok (.string (strOfNums xs)) w) (h2 : (convert 26 9 v2).run Tryd.prog w = .ok (.string (strOfNums ys)) w) :
    Calls Tryd.prog 61 #[v1, v2] w fun e w' => e = .returned (.bool (Lib.bytesOf xs == Lib.bytesOf ys)) ∧ w' = w := Any.bytes_Equal Tryd.lays115 v1 v2 xs ys w h1 h2
end Go.Proofs

/- A Builder of strings: a byte written; its text. -/
namespace Go.Proofs.YthkjfepbmnabkaaDoor.Sx
open Go
attribute [local irreducible] Calls

def selfV (b : Nat) : Value := .pointer (some ⟨b, 0, none⟩)
theorem con_of_calls {P : Program} {k : FuncId} {args : Array Value} {w : World} {Gs : List Fact} {R : Value → List Fact → Prop} (h : Calls P k args w fun e w' => ∃ v, e = .returned v ∧ Fin w Gs R v w') : Con P k args w Gs R := h
/-- One owned fact that is turned to another one. -/
theorem fin_one {w w' : World} {f f' : Fact} {R : Value → List Fact → Prop} {v : Value} (hR : R v [f']) (hc : Chg f.D w w') (hp : f'.p w') (ho : f'.own = true) (hD : ∀ k, f'.D k → f.D k ∧ k < w'.heap.size) : Fin w [f] R v w' := by
  have hu : Un [f] = f.D := by funext k; simp [Un]
  refine ⟨[f'], hR, by rw [hu]; exact hc, ⟨fun g hg => ?_, fun g hg k hk => ?_, List.pairwise_singleton _ _⟩, ⟨ho, trivial⟩, fun g hg k hk => ?_⟩
  · obtain rfl := List.mem_singleton.1 hg; exact hp
  · obtain rfl := List.mem_singleton.1 hg; exact (hD k hk).2
  · obtain rfl := List.mem_singleton.1 hg; rw [hu]; exact .inl (hD k hk).1
theorem copyCheck_c (w : World) (b : Nat) (p x : Value) (hp : p = .pointer none ∨ p = selfV b) (h : (bkF b ty_strings_Builder [p, x]).p w) :
    Con Tryd.prog n_strings_Builder_copyCheck #[selfV b] w [bkF b ty_strings_Builder [p, x]] fun v Fs => v = .tuple #[] ∧ Fs = [bkF b ty_strings_Builder [selfV b, x]] := by
  have hb : w.heap[b]? = some (.cells #[p, x] ty_strings_Builder (0, 0)) := h
  have hlt : b < w.heap.size := (Array.getElem?_eq_some_iff.1 hb).1
  have h0 : w.cell? ⟨b, 0, none⟩ = some p := by rw [cell_of_row w b 0 _ _ _ hb]; rfl
  rcases hp with rfl | rfl
  · refine con_of_calls (Calls.mono (Any.Builder_copyCheck_fresh { Tryd.lays156 with } Tryd.Builder_Extra_156.toX72 b w h0 (by simp [World.shape?, hb]; rfl) (by simp [World.frozen?, hb])) ?_)
    rintro e w' ⟨rfl, rfl⟩
    have h2 := heap_setCell_same w b 0 #[.pointer none, x] ty_strings_Builder (selfV b) hb
    refine ⟨_, rfl, fin_one (f' := bkF b ty_strings_Builder [selfV b, x]) ⟨rfl, rfl⟩ ⟨rfl, rfl, rfl, by simp [World.setCell], fun k _ hk => heap_setCell_other w _ k _ hk⟩ h2 rfl (fun k hk => ⟨hk, ?_⟩)⟩
    obtain rfl : k = b := hk
    simpa [World.setCell] using hlt
  · refine con_of_calls (Calls.mono (Any.Builder_copyCheck_used { Tryd.lays156 with } Tryd.Builder_Extra_156.toX72 b w h0) ?_)
    rintro e w' ⟨rfl, rfl⟩
    refine ⟨_, rfl, fin_one (f' := bkF b ty_strings_Builder [selfV b, x]) ⟨rfl, rfl⟩ (Chg.refl _ _) h rfl (fun k hk => ⟨hk, ?_⟩)⟩
    obtain rfl : k = b := hk
    exact hlt

/-- A Builder that was written into, or not. -/
def bldF (b : Nat) (p : Value) (A : Option Addr) (l : List UInt8) (c : Nat) : List Fact := [bkF b ty_strings_Builder [p, .slice A l.length c], browF ty_uint8 A l c]
theorem writeByte_c (w : World) (b : Nat) (p : Value) (A : Option Addr) (l : List UInt8) (c : Nat) (x : UInt8) (hp : p = .pointer none ∨ p = selfV b) (hl : l.length < 140737488355328) (hm : Mem w (bldF b p A l c)) :
    Con Tryd.prog n_strings_Builder_WriteByte #[selfV b, byte x] w (bldF b p A l c) fun v Fs => v = .nilIface ∧ ∃ A' c', Fs = bldF b (selfV b) A' (l ++ [x]) c' := by
  have g := good_strings_Builder_WriteByte w (Un (bldF b p A l c))
  refine con_of_sx (cx := cx_strings_Builder_WriteByte w (Un (bldF b p A l c))) g b_strings_Builder_WriteByte rfl rfl (β := Va.z) [.c (.v (selfV b)), .c (.v (byte x))] 0 [] _ rfl rfl (hm.sat0 rfl (fun f hf _ k hk => ⟨f, hf, hk⟩)) ?_
  refine call_con [0] (fun β w' hs => copyCheck_c w' b p _ hp (hs.get 0 rfl)) ?_
  rintro v Fs ⟨rfl, rfl⟩
  refine ⟨.slice A l.length c, fun β w' hs => by
    have hb : w'.heap[b]? = some (.cells #[selfV b, .slice A l.length c] ty_strings_Builder (0, 0)) := hs.get 0 rfl
    show w'.cell? ⟨b, 1, none⟩ = _
    rw [cell_of_row w' b 1 _ _ _ hb]; rfl, ?_⟩
  intro b2
  refine ⟨2, l.length, l.length + 1, l.map byte, [byte x], (l ++ [x]).map byte, rfl, fun β w' hs => row_rd (hs.get 0 rfl), bytes_one [x], rfl, by simp, by rw [maxLen_eq]; omega, by show (l.length + 1) * 1 ≤ _; omega, ?_⟩
  intro A' c' h1 h2 h3
  refine ⟨_, fun β w' hs => hs.bkSet 1 (o := 1) (us := [.slice A' (l.length + 1) c']) rfl (Nat.le_refl 2) (fun u hu => by obtain rfl := List.mem_singleton.1 hu; rfl), ?_⟩
  intro β w' hs
  have e : (l ++ [x]).length = l.length + 1 := by simp
  refine hs.fin [1, 2] ⟨rfl, A', c', ?_⟩
  show [bkF b ty_strings_Builder [selfV b, .slice A' (l.length + 1) c'], rowF ty_uint8 1 (.slice A' (l.length + 1) c') (l.length + 1) ((l ++ [x]).map byte)] = _
  rw [← e]
  rfl

theorem Mem.none (w : World) : Mem w [] := ⟨fun _ q => (by cases q), fun _ q => (by cases q), List.Pairwise.nil⟩
theorem ptr_byte : Tryd.prog.underlying ty_ptr_uint8 = some (.pointer ty_uint8) := by kernel_rfl
/-- The text of a Builder that was written into. -/
theorem text_c (w : World) (b : Nat) (p : Value) (A : Option Addr) (l : List UInt8) (c : Nat) (hne : l ≠ []) (hm : Mem w (bldF b p A l c)) :
    Con Tryd.prog n_strings_Builder_String #[selfV b] w (bldF b p A l c) fun v Fs => v = .string ⟨l.toArray⟩ ∧ Fs = [] := by
  have g := good_strings_Builder_String w (Un (bldF b p A l c))
  have hl0 : l.length ≠ 0 := by simpa using hne
  have hrow : w.ownsRow 0 ty_uint8 1 (.slice A l.length c) l.length (l.map byte) := hm.fact _ (List.mem_cons_of_mem _ List.mem_cons_self)
  obtain ⟨gb, rfl, hlc, hcm⟩ : ∃ gb, A = some ⟨gb, 0, none⟩ ∧ l.length ≤ c ∧ c ≤ maxLen := by
    rcases hrow.2 with ⟨_, hz⟩ | ⟨gb, cap, cur, hv, _, _, h1, h2, _⟩
    · exact absurd hz hl0
    · injection hv with h3 h4 h5
      subst h5
      exact ⟨gb, h3, h1, h2⟩
  refine con_of_sx (cx := cx_strings_Builder_String w (Un (bldF b p (some ⟨gb, 0, none⟩) l c))) g b_strings_Builder_String rfl rfl (β := Va.z) [.c (.v (selfV b))] 0 [] _ rfl rfl (hm.sat0 rfl (fun f hf _ k hk => ⟨f, hf, hk⟩)) ?_
  refine draw_rule g p_strings_Builder_String_1 (by kernel_rfl) [] [bkF b ty_strings_Builder [p, .slice (some ⟨gb, 0, none⟩) l.length c]] (Sub.of (List.nil_sublist _) (List.sublist_append_left [_] [_])) ?_
  have hcell : ∀ (cx : Cx) (n : Nat) (β : Va) (w' : World), Sat cx β n [] [bkF b ty_strings_Builder [p, .slice (some ⟨gb, 0, none⟩) l.length c]] w' → w'.cell? ⟨b, 1, none⟩ = some (.slice (some ⟨gb, 0, none⟩) l.length c) := fun cx n β w' hs => by
    have hb : w'.heap[b]? = some (.cells #[p, .slice (some ⟨gb, 0, none⟩) l.length c] ty_strings_Builder (0, 0)) := hs.get 0 rfl
    rw [cell_of_row w' b 1 _ _ _ hb]; rfl
  refine ⟨.slice (some ⟨gb, 0, none⟩) l.length c, hcell _ _, ?_⟩
  refine ⟨.slice (some ⟨gb, 0, none⟩) l.length c, hcell _ _, ?_⟩
  refine ⟨[], _, .c (.v (.pointer (some ⟨gb, 0, none⟩))), fun β w' ty hs => ⟨w', ?_, hs⟩, trivial, Sub.of (List.nil_sublist _) (List.sublist_append_left [_] [_]), ?_⟩
  · have := Lib.run_unsafeSliceData_row (P := Tryd.prog) w' #[ty_sl_uint8] ty ⟨gb, 0, none⟩ l.length c (by omega)
    simp only [builtin, Sem.run_bind]
    erw [this]
    rfl
  refine ⟨[], [bkF b ty_strings_Builder [p, .slice (some ⟨gb, 0, none⟩) l.length c]], .c (.v (.string ⟨l.toArray⟩)), fun β w' ty hs => ⟨w'.freeze ⟨gb, 0, none⟩ l.length, ?_, ?_⟩, trivial, Sub.refl, ?_⟩
  · have hrow' : w'.ownsRow 0 ty_uint8 1 (.slice (some ⟨gb, 0, none⟩) l.length c) l.length (l.map byte) := hs.get 1 rfl
    obtain ⟨cur, hg, hcs⟩ : ∃ cur, w'.heap[gb]? = some (.cells cur ty_uint8 (0, 0)) ∧ cur.size = c * 1 := by
      rcases hrow'.2 with ⟨_, hz⟩ | ⟨g', cap, cur, hv, _, hg, _, _, h3, _⟩
      · exact absurd hz hl0
      · injection hv with h4 h5 h6
        injection h4 with h4
        injection h4 with h4
        subst h4 h6
        exact ⟨cur, hg, h3⟩
    have := Lib.run_unsafeString_row (P := Tryd.prog) w' ty_ptr_uint8 3 ty ty_uint8 ptr_byte Tryd.Builder_Extra_156.cellsByte gb cur.size (by simp [World.shape?, hg]) l hne (by omega) (by rw [maxLen_eq] at hcm; omega) (fun j x hx => by
      have hr := row_rd hrow'
      obtain ⟨ad, q, hc⟩ := hr.2 (by omega)
      obtain rfl := Option.some.inj q
      exact hc j (byte x) (by simp [hx]))
    simp only [builtin, Sem.run_bind]
    erw [this]
    rfl
  · refine hs.swap [1] ⟨rfl, trivial⟩ (Fs := []) (Chg.mono (freeze_chg _ _ _) (fun i _ q => ⟨_, List.mem_singleton.2 rfl, ?_⟩)) (Mem.none _) (fun _ q => by cases q)
    obtain rfl : i = gb := q
    rfl
  intro β w' hs
  exact hs.fin [] ⟨rfl, rfl⟩
end Go.Proofs.YthkjfepbmnabkaaDoor.Sx

/- A term's print: a number in bytes of seven bits. -/
namespace Go.Proofs.YthkjfepbmnabkaaDoor.Sx
open Go
attribute [local irreducible] Calls

theorem or128 (n : Nat) : bits .or .u8 (((UInt8.ofNat n).toNat : Nat) : Int) 128 = ((UInt8.ofNat (n % 128 + 128)).toNat : Int) := by
  show IntKind.u8.wrap (((BitVec.ofInt 8 ((UInt8.ofNat n).toNat : Int)) ||| (BitVec.ofInt 8 128)).toNat : Int) = _
  have h1 : BitVec.ofInt 8 (((UInt8.ofNat n).toNat : Nat) : Int) = BitVec.ofNat 8 n := by
    apply BitVec.eq_of_toNat_eq
    rw [BitVec.toNat_ofInt, BitVec.toNat_ofNat, UInt8.toNat_ofNat']
    omega
  have h2 : BitVec.ofNat 8 n ||| BitVec.ofInt 8 128 = BitVec.ofNat 8 (n % 128 + 128) := by
    have h3 : BitVec.ofNat 8 n = BitVec.ofNat 8 (n % 256) := by
      apply BitVec.eq_of_toNat_eq
      rw [BitVec.toNat_ofNat, BitVec.toNat_ofNat]
      omega
    have h4 : n % 128 = n % 256 % 128 := by omega
    rw [h3, h4]
    have h5 : n % 256 < 256 := Nat.mod_lt _ (by omega)
    have key : ∀ k, k < 256 → BitVec.ofNat 8 k ||| BitVec.ofInt 8 128 = BitVec.ofNat 8 (k % 128 + 128) := by decide +kernel
    exact key _ h5
  rw [h1, h2, BitVec.toNat_ofNat, wrap_u8, UInt8.toNat_ofNat']
  omega

theorem vint_len : ∀ (k n : Nat), n < 128 ^ (k + 1) → (Bx.vint n).length ≤ k + 1
  | 0, n, h => by rw [Bx.vint_lt (by simpa using h)]; simp
  | k + 1, n, h => by
    by_cases hn : n < 128
    · rw [Bx.vint_lt hn]; simp
    · rw [Bx.vint_ge hn, List.length_cons]
      have := vint_len k (n / 128) (by rw [Nat.pow_succ] at h; omega)
      omega
theorem vint_nine {n : Nat} (h : n < 4611686018427387904) : (Bx.vint n).length ≤ 9 := vint_len 8 n (by omega)
/-- A slice of bytes in a variable. -/
def varF (b : Nat) (A : Option Addr) (l : List UInt8) (c : Nat) : List Fact := [bkF b ty_sl_uint8 [.slice A l.length c], browF ty_uint8 A l c]
structure LgS where
  n : Nat
  A : Option Addr
  l : List UInt8
  c : Nat
theorem long7_c (w : World) (b n : Nat) (A : Option Addr) (l : List UInt8) (c : Nat) (hn : n < 4611686018427387904) (hl : l.length ≤ 1000000000) (hm : Mem w (varF b A l c)) :
    Con Tryd.prog n_box_Term_print_1 #[.int .i64 n, .pointer (some ⟨b, 0, none⟩)] w (varF b A l c) fun v Fs => v = .tuple #[] ∧ ∃ A' c', Fs = varF b A' (l ++ Bx.vint n) c' := by
  have g := good_box_Term_print_1 w (Un (varF b A l c))
  refine con_of_sx (cx := cx_box_Term_print_1 w (Un (varF b A l c))) g b_box_Term_print_1 rfl rfl (β := Va.z) [.c (.v (.int .i64 n)), .c (.v (.pointer (some ⟨b, 0, none⟩)))] 0 [] _ rfl rfl (hm.sat0 rfl (fun f hf _ k hk => ⟨f, hf, hk⟩)) ?_
  refine loop_rule (ι := LgS) 0 (fun i => [(0, .c (.v (.int .i64 i.n))), (1, .c (.v (.pointer (some ⟨b, 0, none⟩))))]) (fun _ => []) (fun i => varF b i.A i.l i.c)
    (fun i => i.n < 4611686018427387904 ∧ i.l ++ Bx.vint i.n = l ++ Bx.vint n) (fun i => i.n) ⟨n, A, l, c⟩ ⟨hn, rfl⟩ (Ent.same ⟨rfl, rfl, trivial⟩ rfl) g ?_
  rintro ⟨m, A1, l1, c1⟩ ⟨hm1, he⟩
  simp only at hm1 he
  have hl1 : l1.length ≤ 1000000009 := by
    have h1 := congrArg List.length he
    simp only [List.length_append] at h1
    have h2 := vint_nine hn
    omega
  have hcell : ∀ (w' : World) (A : Option Addr) (l : List UInt8) (c : Nat), (bkF b ty_sl_uint8 [.slice A l.length c]).p w' → w'.cell? ⟨b, 0, none⟩ = some (.slice A l.length c) := fun w' A l c h => by
    have hb : w'.heap[b]? = some (.cells #[.slice A l.length c] ty_sl_uint8 (0, 0)) := h
    rw [cell_of_row w' b 0 _ _ _ hb]; rfl
  refine BIf.dec (fun hge => ?_) (fun hlt => ?_)
  · have hge0 : (128 : Int) ≤ (m : Int) := hge
    have hnl : ¬ m < 128 := by omega
    refine ⟨.slice A1 l1.length c1, fun β w' hs => hcell _ _ _ _ (hs.get 0 rfl), ?_⟩
    refine ⟨_, wrap_u8b m, _, or128 m, ?_⟩
    intro b2
    refine ⟨2, l1.length, l1.length + 1, l1.map byte, [byte (UInt8.ofNat (m % 128 + 128))], (l1 ++ [UInt8.ofNat (m % 128 + 128)]).map byte, rfl, fun β w' hs => row_rd (hs.get 0 rfl), bytes_one [UInt8.ofNat (m % 128 + 128)], rfl, by simp, by rw [maxLen_eq]; omega, by show (l1.length + 1) * 1 ≤ _; omega, ?_⟩
    intro A' c' h1 h2 h3
    refine ⟨_, fun β w' hs => hs.bkSet 1 (o := 0) (us := [.slice A' (l1.length + 1) c']) rfl (Nat.le_refl 1) (fun u hu => by obtain rfl := List.mem_singleton.1 hu; rfl), ?_⟩
    refine ⟨by decide, ((m / 128 : Nat) : Int), shr_nat m 7, ?_⟩
    refine ⟨⟨m / 128, A', l1 ++ [UInt8.ofNat (m % 128 + 128)], c'⟩, ⟨by show m / 128 < _; omega, ?_⟩, by show m / 128 < m; omega, ?_⟩
    · show l1 ++ [UInt8.ofNat (m % 128 + 128)] ++ Bx.vint (m / 128) = _
      rw [← he, Bx.vint_ge hnl]
      simp
    · refine Ent.mk' ⟨rfl, rfl, trivial⟩ rfl ?_
      intro β w' hs
      have e : (l1 ++ [UInt8.ofNat (m % 128 + 128)]).length = l1.length + 1 := by simp
      have hs2 := hs.perm [1, 2]
      show Sat _ _ _ _ (varF b A' (l1 ++ [UInt8.ofNat (m % 128 + 128)]) c') _
      unfold varF browF
      rw [e]
      exact hs2
  · have hlt0 : ¬ (128 : Int) ≤ (m : Int) := hlt
    have hl : m < 128 := by omega
    refine ⟨.slice A1 l1.length c1, fun β w' hs => hcell _ _ _ _ (hs.get 0 rfl), ?_⟩
    refine ⟨_, wrap_u8b m, ?_⟩
    intro b2
    refine ⟨2, l1.length, l1.length + 1, l1.map byte, [byte (UInt8.ofNat m)], (l1 ++ [UInt8.ofNat m]).map byte, rfl, fun β w' hs => row_rd (hs.get 0 rfl), bytes_one [UInt8.ofNat m], rfl, by simp, by rw [maxLen_eq]; omega, by show (l1.length + 1) * 1 ≤ _; omega, ?_⟩
    intro A' c' h1 h2 h3
    refine ⟨_, fun β w' hs => hs.bkSet 1 (o := 0) (us := [.slice A' (l1.length + 1) c']) rfl (Nat.le_refl 1) (fun u hu => by obtain rfl := List.mem_singleton.1 hu; rfl), ?_⟩
    intro β w' hs
    have e0 : l ++ Bx.vint n = l1 ++ [UInt8.ofNat m] := by rw [← he, Bx.vint_lt hl]
    have e : (l1 ++ [UInt8.ofNat m]).length = l1.length + 1 := by simp
    refine hs.fin [1, 2] ⟨rfl, A', c', ?_⟩
    rw [e0]
    unfold varF browF
    rw [e]
    rfl
end Go.Proofs.YthkjfepbmnabkaaDoor.Sx

/- The words' own functions. -/
namespace Go.Proofs.YthkjfepbmnabkaaDoor.Sx
open Go Sha
attribute [local irreducible] Calls

theorem rotl_c (w : World) (x : UInt32) (n : Nat) (h1 : 1 ≤ n) (h2 : n < 32) : Pu Tryd.prog n_math_bits_RotateLeft32 #[u32 x, .int .i64 (-(n : Int))] w (u32 (rotr x n)) := by
  refine pu_of (calls_of_sx (cx := cx_math_bits_RotateLeft32 w None_) (good_math_bits_RotateLeft32 w None_) b_math_bits_RotateLeft32 rfl rfl (β := Va.z) [.c (.v (u32 x)), .c (.v (.int .i64 (-(n : Int))))] 0 [] [] rfl rfl (Sat.start rfl) ?_)
  refine ⟨_, rfl, ?_⟩
  refine ⟨((32 - n : Nat) : Int), ?_, ?_⟩
  · have : ∀ n : _root_.Fin 32, 1 ≤ n.val → bits .and .u64 (IntKind.u64.wrap (-(n.val : Int))) 31 = ((32 - n.val : Nat) : Int) := by decide
    exact this ⟨n, h2⟩ h1
  refine ⟨by omega, _, shl32 x (32 - n) (by omega), ?_⟩
  refine ⟨(n : Int), by show IntKind.u64.wrap _ = _; simp only [IntKind.wrap, IntKind.bits, IntKind.signed]; simp; omega, ?_⟩
  refine ⟨by omega, _, shr32 x n h2, ?_⟩
  refine ⟨_, or32 _ _, ?_⟩
  intro β w' hs
  refine ⟨?_, hs.chg⟩
  rw [← rotl_eq]
  rfl
theorem turn_c (w : World) (x : UInt32) (n : Nat) (h1 : 1 ≤ n) (h2 : n < 32) : Pu Tryd.prog n_ostiaryref01_turn #[u32 x, .int .u64 (n : Int)] w (u32 (rotr x n)) := by
  refine pu_of (calls_of_sx (cx := cx_ostiaryref01_turn w None_) (good_ostiaryref01_turn w None_) b_ostiaryref01_turn rfl rfl (β := Va.z) [.c (.v (u32 x)), .c (.v (.int .u64 (n : Int)))] 0 [] [] rfl rfl (Sat.start rfl) ?_)
  refine ⟨by omega, _, shr32 x n h2, ?_⟩
  refine ⟨((32 - n : Nat) : Int), by show IntKind.u64.wrap _ = _; simp only [IntKind.wrap, IntKind.bits, IntKind.signed]; simp; omega, ?_⟩
  refine ⟨by omega, _, shl32 x (32 - n) (by omega), ?_⟩
  refine ⟨_, or32 _ _, ?_⟩
  intro β w' hs
  exact ⟨rfl, hs.chg⟩
theorem or_add {x y k : Nat} (h : y < 2 ^ k) : 2 ^ k * x ||| y = 2 ^ k * x + y := (Nat.two_pow_add_eq_or_of_lt h x).symm
theorem word_or (a b c d : UInt8) : ((UInt32.ofNat a.toNat <<< UInt32.ofNat 24 ||| UInt32.ofNat b.toNat <<< UInt32.ofNat 16) ||| UInt32.ofNat c.toNat <<< UInt32.ofNat 8) ||| UInt32.ofNat d.toNat = word a b c d := by
  apply UInt32.toNat_inj.1
  have h1 := a.toNat_lt
  have h2 := b.toNat_lt
  have h3 := c.toNat_lt
  have h4 := d.toNat_lt
  have sh : ∀ (x : UInt8) (n : Nat), n ≤ 24 → (UInt32.ofNat x.toNat <<< UInt32.ofNat n).toNat = 2 ^ n * x.toNat := by
    intro x n hn
    have hx := x.toNat_lt
    rw [UInt32.toNat_shiftLeft, UInt32.toNat_ofNat', UInt32.toNat_ofNat', Nat.mod_eq_of_lt (show n < 2 ^ 32 by omega), Nat.mod_eq_of_lt (show n < 32 by omega), Nat.shiftLeft_eq, Nat.mod_eq_of_lt (show x.toNat < 2 ^ 32 by omega), Nat.mul_comm]
    refine Nat.mod_eq_of_lt ?_
    have : 2 ^ n ≤ 2 ^ 24 := Nat.pow_le_pow_right (by omega) hn
    calc 2 ^ n * x.toNat ≤ 2 ^ 24 * x.toNat := Nat.mul_le_mul_right _ this
      _ < 2 ^ 32 := by omega
  unfold word
  simp only [UInt32.toNat_or, sh a 24 (by omega), sh b 16 (by omega), sh c 8 (by omega), UInt32.toNat_ofNat']
  rw [Nat.mod_eq_of_lt (show d.toNat < 2 ^ 32 by omega)]
  rw [or_add (show 2 ^ 16 * b.toNat < 2 ^ 24 by omega)]
  rw [show 2 ^ 24 * a.toNat + 2 ^ 16 * b.toNat = 2 ^ 16 * (256 * a.toNat + b.toNat) by omega, or_add (show 2 ^ 8 * c.toNat < 2 ^ 16 by omega)]
  rw [show 2 ^ 16 * (256 * a.toNat + b.toNat) + 2 ^ 8 * c.toNat = 2 ^ 8 * (256 * (256 * a.toNat + b.toNat) + c.toNat) by omega, or_add (show d.toNat < 2 ^ 8 by omega)]
  omega
theorem word_c (w : World) (A : Option Addr) (l : List UInt8) (c : Nat) (hr : Bs w A l) (x y z u : UInt8) (h0 : l[0]? = some x) (h1 : l[1]? = some y) (h2 : l[2]? = some z) (h3 : l[3]? = some u) :
    Pu Tryd.prog n_sha_word #[.slice A l.length c] w (u32 (word x y z u)) := by
  obtain ⟨k0, e0⟩ := List.getElem?_eq_some_iff.1 h0
  obtain ⟨k1, e1⟩ := List.getElem?_eq_some_iff.1 h1
  obtain ⟨k2, e2⟩ := List.getElem?_eq_some_iff.1 h2
  obtain ⟨k3, e3⟩ := List.getElem?_eq_some_iff.1 h3
  have g := good_sha_word w None_
  obtain ⟨ad, hA⟩ := Bs.addr hr (by omega)
  have cv : ∀ b : UInt8, IntKind.u32.wrap (b.toNat : Int) = ((UInt32.ofNat b.toNat).toNat : Int) := fun b => wrap32_nat _
  refine pu_of (calls_of_sx (cx := cx_sha_word w None_) g b_sha_word rfl rfl (β := Va.z) [.c (.v (.slice A l.length c))] 0 [] [bsF A l] rfl rfl ((Sat.start rfl).rd (fun _ h => by cases h) hr) ?_)
  refine draw_rule g p_sha_word_1 (by kernel_rfl) _ _ Sub.refl ?_
  refine ⟨ad, 0, hA, rfl, k0, byte x, fun β w hs => by rw [← e0]; exact Bs.cell (hs.get 0 rfl : Bs w A _) hA (j := 0) k0, ?_⟩
  refine ⟨_, cv x, by omega, _, shl32 (UInt32.ofNat x.toNat) 24 (by omega), ?_⟩
  refine ⟨ad, 1, hA, rfl, k1, byte y, fun β w hs => by rw [← e1]; exact Bs.cell (hs.get 0 rfl : Bs w A _) hA (j := 1) k1, ?_⟩
  refine ⟨_, cv y, by omega, _, shl32 (UInt32.ofNat y.toNat) 16 (by omega), ?_⟩
  refine ⟨_, or32 _ _, ?_⟩
  refine ⟨ad, 2, hA, rfl, k2, byte z, fun β w hs => by rw [← e2]; exact Bs.cell (hs.get 0 rfl : Bs w A _) hA (j := 2) k2, ?_⟩
  refine ⟨_, cv z, by omega, _, shl32 (UInt32.ofNat z.toNat) 8 (by omega), ?_⟩
  refine ⟨_, or32 _ _, ?_⟩
  refine ⟨ad, 3, hA, rfl, k3, byte u, fun β w hs => by rw [← e3]; exact Bs.cell (hs.get 0 rfl : Bs w A _) hA (j := 3) k3, ?_⟩
  refine ⟨_, cv u, _, or32 _ _, ?_⟩
  intro β w' hs
  refine ⟨?_, hs.chg⟩
  rw [← word_or]
  rfl
end Go.Proofs.YthkjfepbmnabkaaDoor.Sx

/- A block's words. -/
namespace Go.Proofs.YthkjfepbmnabkaaDoor.Sx
open Go Sha
attribute [local irreducible] Calls

def sl32 (x : UInt32) : SL := .v (u32 x)
def arr (n : Nat) (ws : List UInt32) : List SL := (ws ++ List.replicate (n - ws.length) 0).map sl32
theorem arr_len {n : Nat} {ws : List UInt32} (h : ws.length ≤ n) : (arr n ws).length = n := by simp [arr]; omega
theorem arr_get {n : Nat} {ws : List UInt32} {i : Nat} (h : i < ws.length) : (arr n ws)[i]? = some (sl32 (ws.getD i 0)) := by
  simp only [arr, List.getElem?_map]
  rw [List.getElem?_append_left h, List.getElem?_eq_getElem h]
  simp [List.getD, List.getElem?_eq_getElem h]
theorem arr_set {n : Nat} {ws : List UInt32} (h : ws.length < n) (x : UInt32) : (arr n ws).set ws.length (sl32 x) = arr n (ws ++ [x]) := by
  obtain ⟨k, rfl⟩ : ∃ k, n = ws.length + (k + 1) := ⟨n - ws.length - 1, by omega⟩
  simp only [arr, List.length_append, List.length_cons, List.length_nil]
  rw [show ws.length + (k + 1) - ws.length = k + 1 by omega, show ws.length + (k + 1) - (ws.length + (0 + 1)) = k by omega, List.replicate_succ]
  simp
theorem arr_full {n : Nat} {ws : List UInt32} (h : ws.length = n) : arr n ws = ws.map sl32 := by simp [arr, h]
theorem arr_one (ws : List UInt32) : allOne (ws.map sl32) = true := allOne_of fun x hx => by obtain ⟨y, _, rfl⟩ := List.mem_map.1 hx; rfl
theorem arr_val (β : Va) (ws : List UInt32) : (ws.map sl32).map (SL.val β) = ws.map u32 := by rw [List.map_map]; rfl
theorem getD_drop (l : List UInt8) (i j : Nat) (h : i + j < l.length) : (l.drop i)[j]? = some (l.getD (i + j) 0) := by
  rw [List.getElem?_drop, List.getElem?_eq_getElem h]
  simp [List.getD, List.getElem?_eq_getElem h]

theorem spread_c (w : World) (A : Option Addr) (l : List UInt8) (c : Nat) (hr : Bs w A l) (hc : l.length ≤ c) (hl : 64 ≤ l.length) (hm : c ≤ maxLen) :
    Pu Tryd.prog n_sha_spread #[.slice A l.length c] w (.agg ((W l).map u32).toArray) := by
  obtain ⟨ws, hws⟩ : ∃ ws, W l = ws := ⟨_, rfl⟩
  have hwl : ws.length = 64 := by rw [← hws]; exact W_len l
  rw [hws]
  have g := good_sha_spread w None_
  refine pu_of (calls_of_sx (cx := cx_sha_spread w None_) g b_sha_spread rfl rfl (β := Va.z) [.c (.v (.slice A l.length c))] 0 [] [bsF A l] rfl rfl ((Sat.start rfl).rd (fun _ h => by cases h) hr) ?_)
  have e0 : arr 64 [] = ti170.zero.map SL.v := by simp only [arr, List.nil_append, List.length_nil, List.map_replicate]; rfl
  refine loop_rule (ι := Nat) 2 (fun i => [(0, .c (.v (.slice A l.length c))), (2, .c (.p 0 0)), (3, .c (.p 1 0)), (10, .c (.v (.int .i64 i)))]) (fun i => [⟨1, 170, arr 64 (sched l i)⟩, ⟨0, 170, arr 64 []⟩]) (fun _ => [bsF A l])
    (fun i => i ≤ 16) (fun i => 16 - i) 0 (Nat.zero_le _) (Ent.mk' ⟨rfl, rfl, rfl, rfl, trivial⟩ rfl (fun β w' hs => by rw [show sched l 0 = [] from rfl, e0]; exact hs)) g ?_
  intro i hi
  refine BIf.dec (fun hlt => ?_) (fun hge => ?_)
  · have hlt : i < 16 := by omega
    rw [maxLen_eq] at hm
    refine ⟨((4 * i : Nat) : Int), by rw [wrap_i64 (by omega) (by omega)]; omega, ?_⟩
    refine ⟨c, l.length, 4 * i, (l.drop (4 * i)).length, c - 4 * i, _, rfl, rfl, rfl, Nat.le_refl _, hc, by omega, by rw [List.length_drop], rfl, rfl, ?_⟩
    refine call_pu (fun β w' hs => word_c w' _ (l.drop (4 * i)) _ (Bs.cutB (hs.get 0 rfl : Bs w' A l) (j := l.length) hc (by omega) (Nat.le_refl _) (by rw [List.take_of_length_le (by simp)])) _ _ _ _
      (getD_drop l (4 * i) 0 (by omega)) (getD_drop l (4 * i) 1 (by omega)) (getD_drop l (4 * i) 2 (by omega)) (getD_drop l (4 * i) 3 (by omega))) ?_
    refine ⟨i, rfl, by omega, ?_⟩
    have hsl : (sched l i).length = i := sched_len l i
    refine m_true (b := Nat.ble (0 + i * 1 + 1) (arr 64 (sched l i)).length) (by rw [arr_len (by omega), Nat.ble_eq]; omega) ?_
    refine ⟨((i + 1 : Nat) : Int), by rw [wrap_i64 (by omega) (by omega)]; rfl, ?_⟩
    refine ⟨i + 1, by omega, by omega, Ent.mk' ⟨rfl, rfl, rfl, rfl, trivial⟩ rfl (fun β w' hs => ?_)⟩
    have e1 : putAll (arr 64 (sched l i)) (0 + i * 1) [sl32 (wordAt l i)] = arr 64 (sched l (i + 1)) := by
      rw [putAll, putAll, putAt_eq, Nat.zero_add, Nat.mul_one]
      have := arr_set (n := 64) (ws := sched l i) (by omega) (wordAt l i)
      rw [hsl] at this
      rw [this, sched, if_pos hlt]
    rw [← e1]
    exact hs
  · obtain rfl : i = 16 := by omega
    rw [maxLen_eq] at hm
    refine loop_rule (ι := Nat) 2 (fun i => [(0, .c (.v (.slice A l.length c))), (2, .c (.p 0 0)), (3, .c (.p 1 0)), (5, .c (.v (.int .i64 i)))]) (fun i => [⟨1, 170, arr 64 (sched l i)⟩, ⟨0, 170, arr 64 []⟩]) (fun _ => [bsF A l])
      (fun i => 16 ≤ i ∧ i ≤ 64) (fun i => 64 - i) 16 ⟨by omega, by omega⟩ (Ent.same ⟨rfl, rfl, rfl, rfl, trivial⟩ rfl) g ?_
    rintro i ⟨hi1, hi2⟩
    refine BIf.dec (fun hlt => ?_) (fun hge => ?_)
    · have hlt : i < 64 := by omega
      have hsl : (sched l i).length = i := sched_len l i
      have ld : ∀ {k : Nat}, k < i → nth (arr 64 (sched l i)) (0 + k * 1) = some (sl32 ((sched l i).getD k 0)) := fun {k} hk => by
        rw [nth_eq, Nat.zero_add, Nat.mul_one]; exact arr_get (by omega)
      refine draw_rule g p_sha_spread_10 (by kernel_rfl) _ _ Sub.refl ?_
      refine ⟨((i - 15 : Nat) : Int), by rw [wrap_i64 (by omega) (by omega)]; omega, i - 15, rfl, by omega, ?_⟩
      conv => whnf
      generalize hn : nth _ _ = o
      obtain rfl : o = some (sl32 ((sched l i).getD (i - 15) 0)) := hn.symm.trans (ld (by omega))
      clear hn
      refine ⟨((i - 2 : Nat) : Int), by rw [wrap_i64 (by omega) (by omega)]; omega, i - 2, rfl, by omega, ?_⟩
      conv => whnf
      generalize hn : nth _ _ = o
      obtain rfl : o = some (sl32 ((sched l i).getD (i - 2) 0)) := hn.symm.trans (ld (by omega))
      clear hn
      obtain ⟨xa, hxa⟩ : ∃ xa, (sched l i).getD (i - 15) 0 = xa := ⟨_, rfl⟩
      obtain ⟨xb, hxb⟩ : ∃ xb, (sched l i).getD (i - 2) 0 = xb := ⟨_, rfl⟩
      rw [hxa, hxb]
      refine call_pu (fun β w' hs => rotl_c w' xa 7 (by omega) (by omega)) ?_
      refine call_pu (fun β w' hs => rotl_c w' xa 18 (by omega) (by omega)) ?_
      refine ⟨_, xor32 _ _, by omega, _, shr32 xa 3 (by omega), _, xor32 _ _, ?_⟩
      refine call_pu (fun β w' hs => rotl_c w' xb 17 (by omega) (by omega)) ?_
      refine call_pu (fun β w' hs => rotl_c w' xb 19 (by omega) (by omega)) ?_
      refine ⟨_, xor32 _ _, by omega, _, shr32 xb 10 (by omega), _, xor32 _ _, ?_⟩
      refine draw_rule g p_sha_spread_13 (by kernel_rfl) _ _ Sub.refl ?_
      refine ⟨((i - 16 : Nat) : Int), by rw [wrap_i64 (by omega) (by omega)]; omega, i - 16, rfl, by omega, ?_⟩
      conv => whnf
      generalize hn : nth _ _ = o
      obtain rfl : o = some (sl32 ((sched l i).getD (i - 16) 0)) := hn.symm.trans (ld (by omega))
      clear hn
      refine ⟨_, add32 _ _, ?_⟩
      refine ⟨((i - 7 : Nat) : Int), by rw [wrap_i64 (by omega) (by omega)]; omega, i - 7, rfl, by omega, ?_⟩
      conv => whnf
      generalize hn : nth _ _ = o
      obtain rfl : o = some (sl32 ((sched l i).getD (i - 7) 0)) := hn.symm.trans (ld (by omega))
      clear hn
      refine ⟨_, add32 _ _, _, add32 _ _, i, rfl, by omega, ?_⟩
      refine m_true (b := Nat.ble (0 + i * 1 + 1) (arr 64 (sched l i)).length) (by rw [arr_len (by omega), Nat.ble_eq]; omega) ?_
      refine ⟨((i + 1 : Nat) : Int), by rw [wrap_i64 (by omega) (by omega)]; rfl, ?_⟩
      refine ⟨i + 1, ⟨by omega, by omega⟩, by omega, Ent.mk' ⟨rfl, rfl, rfl, rfl, trivial⟩ rfl (fun β w' hs => ?_)⟩
      have e1 : putAll (arr 64 (sched l i)) (0 + i * 1) [sl32 ((sched l i).getD (i - 16) 0 + s0 xa + (sched l i).getD (i - 7) 0 + s1 xb)] = arr 64 (sched l (i + 1)) := by
        rw [putAll, putAll, putAt_eq, Nat.zero_add, Nat.mul_one]
        have := arr_set (n := 64) (ws := sched l i) (by omega) ((sched l i).getD (i - 16) 0 + s0 xa + (sched l i).getD (i - 7) 0 + s1 xb)
        rw [hsl] at this
        rw [this, sched, if_neg (by omega), nxt, hxa, hxb]
      rw [← e1]
      exact hs
    · have hi64 : i = 64 := by omega
      have e2 : arr 64 (sched l i) = ws.map sl32 := by
        rw [← hws, hi64]
        exact arr_full (sched_len l 64)
      clear hi64 hi1 hi2 hge
      rw [e2]
      conv => whnf
      generalize hn : takeAt _ _ _ = o
      obtain rfl : o = some (ws.map sl32) := hn.symm.trans (takeAt_all (by rw [List.length_map, hwl]; rfl))
      clear hn
      conv => whnf
      generalize h1 : Nat.beq _ _ = b1
      generalize h2 : allOne _ = b2
      obtain rfl : b1 = true := h1.symm.trans (by rw [List.length_map, hwl]; rfl)
      obtain rfl : b2 = true := h2.symm.trans (arr_one ws)
      clear h1 h2
      conv => whnf
      generalize h1 : Nat.ble _ _ = b1
      obtain rfl : b1 = true := h1.symm.trans (by rw [List.length_map, hwl]; rfl)
      clear h1
      conv => whnf
      generalize hn : resOf _ _ _ _ = o
      obtain rfl : o = some [.agg (ws.map sl32)] := hn.symm.trans (by
        have hp : putAll (arr 64 []) 0 (ws.map sl32) = ws.map sl32 := putAll_full (by rw [List.length_map, hwl]; rfl)
        show (match takeAt (putAll (arr 64 []) 0 (ws.map sl32)) 0 64 with | some xs => some [SV.agg xs] | none => none) = _
        rw [hp, takeAt_all (by rw [List.length_map, hwl])])
      clear hn
      intro β w' hs
      refine ⟨?_, hs.chg⟩
      show Value.agg ((ws.map sl32).map (SL.val β)).toArray = _
      rw [arr_val]
end Go.Proofs.YthkjfepbmnabkaaDoor.Sx

/- A block's step. -/
namespace Go.Proofs.YthkjfepbmnabkaaDoor.Sx
open Go Sha
attribute [local irreducible] Calls

/-- The table of the rounds' words. -/
def oddF (g : Nat) : Fact := rdF 1 (some ⟨g, 0, none⟩) 64 (K.map u32)
/-- A state's block. -/
def stF (b ty : Nat) (s : S8) : Fact := bkF b ty (s.l.map u32)

theorem rounds_succ (s : S8) (w : List UInt32) (n : Nat) : rounds s w (n + 1) = (rounds s w n).round (K.getD n 0) (w.getD n 0) := rfl
theorem K_len : K.length = 64 := rfl
theorem odd_cell {g : Nat} {w : World} (h : (oddF g).p w) {i : Nat} (hi : i < 64) : w.cell? ((⟨g, 0, none⟩ : Addr).add (i * 1)) = some (u32 (K.getD i 0)) := by
  obtain ⟨_, h2⟩ := h
  obtain ⟨ad, q, hc⟩ := h2 (by omega)
  obtain rfl := Option.some.inj q
  rw [Nat.mul_one]
  refine hc i _ ?_
  rw [List.getElem?_map, List.getElem?_eq_getElem (by rw [K_len]; exact hi)]
  simp [List.getD, List.getElem?_eq_getElem (show i < K.length by rw [K_len]; exact hi)]

def mix (s t : S8) (i : Nat) : List SL := ((s.add t).l.take i ++ s.l.drop i).map sl32
theorem mix_len (s t : S8) : ∀ i, i < 9 → (mix s t i).length = 8
  | 0, _ => rfl | 1, _ => rfl | 2, _ => rfl | 3, _ => rfl | 4, _ => rfl | 5, _ => rfl | 6, _ => rfl | 7, _ => rfl | 8, _ => rfl
  | n + 9, h => by omega
theorem mix_get (s t : S8) : ∀ i, i < 8 → nth (mix s t i) i = some (sl32 (s.l.getD i 0))
  | 0, _ => rfl | 1, _ => rfl | 2, _ => rfl | 3, _ => rfl | 4, _ => rfl | 5, _ => rfl | 6, _ => rfl | 7, _ => rfl
  | n + 8, h => by omega
theorem mix_set (s t : S8) : ∀ i, i < 8 → putAll (mix s t i) i [sl32 (s.l.getD i 0 + t.l.getD i 0)] = mix s t (i + 1)
  | 0, _ => rfl | 1, _ => rfl | 2, _ => rfl | 3, _ => rfl | 4, _ => rfl | 5, _ => rfl | 6, _ => rfl | 7, _ => rfl
  | n + 8, h => by omega
theorem l_get (t : S8) : ∀ i, i < 8 → (t.l.map sl32)[i]? = some (sl32 (t.l.getD i 0))
  | 0, _ => rfl | 1, _ => rfl | 2, _ => rfl | 3, _ => rfl | 4, _ => rfl | 5, _ => rfl | 6, _ => rfl | 7, _ => rfl
  | n + 8, h => by omega
theorem step_c (w : World) (b ty : Nat) (s : S8) (A : Option Addr) (l : List UInt8) (c : Nat) (hm : Mem w [stF b ty s, bsF A l, oddF 1]) (hc : l.length ≤ c) (hl : 64 ≤ l.length) (hcm : c ≤ maxLen) :
    Con Tryd.prog n_sha_state_step #[.pointer (some ⟨b, 0, none⟩), .slice A l.length c] w [stF b ty s] fun v Fs => v = .tuple #[] ∧ Fs = [stF b ty (Sha.step s l)] := by
  obtain ⟨ws, hws⟩ : ∃ ws, W l = ws := ⟨_, rfl⟩
  have hwl : ws.length = 64 := by rw [← hws]; exact W_len l
  have g := good_sha_state_step w (Un [stF b ty s]) (bs := [b])
  have hs0 : Sat (cx_sha_state_step w (Un [stF b ty s]) [b]) (Va.of fun _ => b) 1 [] [stF b ty s, bsF A l, oddF 1] w :=
    hm.sat rfl (ownIn (Gs := [stF b ty s]) (Rs := [bsF A l, oddF 1]) (fun g hg => by
      rcases List.mem_cons.1 hg with rfl | hg
      · rfl
      · obtain rfl := List.mem_singleton.1 hg; rfl)) ⟨Nat.le_refl _, fun i hi => by
        have hi1 : i < 1 := hi
        have hi0 : i = 0 := by omega
        rw [hi0]; rfl⟩
  have hs1 := hs0.toBk 0 rfl 0 Nat.zero_lt_one rfl
  refine con_of_sx (cx := cx_sha_state_step w (Un [stF b ty s]) [b]) g b_sha_state_step rfl rfl (β := Va.of fun _ => b) [.c (.p 0 0), .c (.v (.slice A l.length c))] 1 [⟨0, ty, s.l.map sl32⟩] [bsF A l, oddF 1] rfl rfl (by rw [List.map_map] at hs1; exact hs1) ?_
  refine call_pu (fun β w' hs => spread_c w' A l c (hs.get 0 rfl) hc hl hcm) ?_
  rw [hws]
  have ea : ofValue (.agg (ws.map u32).toArray) = .agg (ws.map sl32) := by simp only [ofValue, List.map_map]; rfl
  rw [ea]
  conv => whnf
  generalize h1 : Nat.beq _ _ = b1
  generalize h2 : allOne _ = b2
  obtain rfl : b1 = true := h1.symm.trans (by rw [List.length_map, hwl]; rfl)
  obtain rfl : b2 = true := h2.symm.trans (arr_one ws)
  clear h1 h2
  conv => whnf
  generalize h1 : Nat.ble _ _ = b1
  obtain rfl : b1 = true := h1.symm.trans (by rw [List.length_map, hwl]; rfl)
  clear h1
  refine draw_rule g p_sha_state_step_1 (by kernel_rfl) _ _ Sub.refl ?_
  refine ⟨0, rfl, by decide, ?_⟩
  refine ⟨1, rfl, by decide, ?_⟩
  refine ⟨2, rfl, by decide, ?_⟩
  refine ⟨3, rfl, by decide, ?_⟩
  refine ⟨4, rfl, by decide, ?_⟩
  refine ⟨5, rfl, by decide, ?_⟩
  refine ⟨6, rfl, by decide, ?_⟩
  refine ⟨7, rfl, by decide, ?_⟩
  have hp : putAll (ti170.zero.map SL.v) 0 (ws.map sl32) = ws.map sl32 := putAll_full (by rw [List.length_map, hwl]; rfl)
  refine loop_rule (ι := Nat) 2 (fun i => [(0, .c (.p 0 0)), (4, .c (.p 1 0)), (5, .c (sl32 (rounds s ws i).a)), (6, .c (sl32 (rounds s ws i).b)), (7, .c (sl32 (rounds s ws i).c)), (8, .c (sl32 (rounds s ws i).d)), (9, .c (sl32 (rounds s ws i).e)), (10, .c (sl32 (rounds s ws i).f)), (11, .c (sl32 (rounds s ws i).g)), (12, .c (sl32 (rounds s ws i).h)), (55, .c (.v (.int .i64 i)))])
    (fun _ => [⟨1, 170, ws.map sl32⟩, ⟨0, ty, s.l.map sl32⟩]) (fun _ => [bsF A l, oddF 1])
    (fun i => i ≤ 64) (fun i => 64 - i) 0 (Nat.zero_le _) (Ent.mk' ⟨rfl, rfl, rfl, rfl, rfl, rfl, rfl, rfl, rfl, rfl, rfl, trivial⟩ rfl (fun β w' hs => by rw [← hp]; exact hs)) g ?_
  intro i hi
  obtain ⟨r, hr⟩ : ∃ r, rounds s ws i = r := ⟨_, rfl⟩
  rw [hr]
  obtain ⟨xa, xb, xc, xd, xe, xf, xg, xh⟩ := r
  refine BIf.dec (fun hlt => ?_) (fun hge => ?_)
  · have hlt : i < 64 := by omega
    refine call_pu (fun β w' hs => rotl_c w' xe 6 (by omega) (by omega)) ?_
    refine call_pu (fun β w' hs => rotl_c w' xe 11 (by omega) (by omega)) ?_
    refine ⟨_, xor32 _ _, ?_⟩
    refine call_pu (fun β w' hs => rotl_c w' xe 25 (by omega) (by omega)) ?_
    refine ⟨_, xor32 _ _, ?_⟩
    refine ⟨_, and32 _ _, _, not32 _, _, and32 _ _, _, xor32 _ _, ?_⟩
    refine draw_rule g p_sha_state_step_7 (by kernel_rfl) _ _ Sub.refl ?_
    refine ⟨_, add32 _ _, _, add32 _ _, i, rfl, hlt, u32 (K.getD i 0), fun β w' hs => odd_cell (hs.get 1 rfl) hlt, _, add32 _ _, i, rfl, hlt, ?_⟩
    conv => whnf
    generalize hn : nth _ _ = o
    obtain rfl : o = some (sl32 (ws.getD i 0)) := hn.symm.trans (by
      show nth (ws.map sl32) (0 + i * 1) = _
      rw [nth_eq, Nat.zero_add, Nat.mul_one, List.getElem?_map, List.getElem?_eq_getElem (by omega)]
      simp [List.getD, List.getElem?_eq_getElem (show i < ws.length by omega)])
    clear hn
    refine ⟨_, add32 _ _, ?_⟩
    refine call_pu (fun β w' hs => rotl_c w' xa 2 (by omega) (by omega)) ?_
    refine call_pu (fun β w' hs => rotl_c w' xa 13 (by omega) (by omega)) ?_
    refine ⟨_, xor32 _ _, ?_⟩
    refine call_pu (fun β w' hs => rotl_c w' xa 22 (by omega) (by omega)) ?_
    refine ⟨_, xor32 _ _, ?_⟩
    refine ⟨_, and32 _ _, _, and32 _ _, _, xor32 _ _, _, and32 _ _, _, xor32 _ _, ?_⟩
    refine ⟨_, add32 _ _, _, add32 _ _, _, add32 _ _, ?_⟩
    refine ⟨((i + 1 : Nat) : Int), by rw [wrap_i64 (by omega) (by omega)]; rfl, ?_⟩
    refine ⟨i + 1, by omega, by omega, Ent.same ?_ rfl⟩
    rw [rounds_succ, hr]
    exact ⟨rfl, rfl, rfl, rfl, rfl, rfl, rfl, rfl, rfl, rfl, rfl, trivial⟩
  · obtain ⟨t, ht⟩ : ∃ t, (⟨xa, xb, xc, xd, xe, xf, xg, xh⟩ : S8) = t := ⟨_, rfl⟩
    have hst : Sha.step s l = s.add t := by
      have : i = 64 := by omega
      rw [Sha.step, hws, ← ht, ← hr, this]
    rw [hst]
    refine loop_rule (ι := Nat) 2 (fun i => [(0, .c (.p 0 0)), (129, .agg [sl32 xa, sl32 xb, sl32 xc, sl32 xd, sl32 xe, sl32 xf, sl32 xg, sl32 xh]), (130, .c (.v (.int .i64 i)))])
      (fun i => [⟨1, 170, ws.map sl32⟩, ⟨0, ty, mix s t i⟩]) (fun _ => [bsF A l, oddF 1])
      (fun i => i ≤ 8) (fun i => 8 - i) 0 (Nat.zero_le _) (Ent.same ⟨rfl, rfl, rfl, trivial⟩ rfl) g ?_
    intro j hj
    refine BIf.dec (fun hlt => ?_) (fun hge => ?_)
    · have hlt : j < 8 := by omega
      refine ⟨j, sl32 (t.l.getD j 0), rfl, hlt, by rw [← ht]; show ((⟨xa, xb, xc, xd, xe, xf, xg, xh⟩ : S8).l.map sl32)[j * 1]? = _; rw [Nat.mul_one]; exact l_get _ j hlt, ?_⟩
      refine draw_rule g p_sha_state_step_15 (by kernel_rfl) [] [bsF A l, oddF 1] (Sub.of (List.nil_sublist _) (List.Sublist.refl _)) ?_
      refine ⟨j, rfl, hlt, ?_⟩
      conv => whnf
      generalize hn : nth _ _ = o
      obtain rfl : o = some (sl32 (s.l.getD j 0)) := hn.symm.trans (by
        show nth (mix s t j) (0 + j * 1) = _
        rw [Nat.zero_add, Nat.mul_one]
        exact mix_get s t j hlt)
      clear hn
      refine ⟨Sub.of (List.nil_sublist _) (List.Sublist.refl _), _, add32 _ _, j, rfl, hlt, ?_⟩
      conv => whnf
      generalize h1 : Nat.ble _ _ = b1
      obtain rfl : b1 = true := h1.symm.trans (by
        show Nat.ble (0 + j * 1 + 1) (mix s t j).length = true
        rw [mix_len s t j (by omega), Nat.ble_eq]; omega)
      clear h1
      refine ⟨Sub.of (List.nil_sublist _) (List.Sublist.refl _), ?_⟩
      refine ⟨((j + 1 : Nat) : Int), by rw [wrap_i64 (by omega) (by omega)]; rfl, ?_⟩
      refine ⟨j + 1, by omega, by omega, Ent.mk' ⟨rfl, rfl, rfl, trivial⟩ rfl (fun β w' hs => ?_)⟩
      have e1 := mix_set s t j hlt
      rw [← e1]
      have e3 : 0 + j * 1 = j := by omega
      have hs2 : Sat (cx_sha_state_step w (Un [stF b ty s]) [b]) β 2 [⟨1, 170, ws.map sl32⟩, ⟨0, ty, putAll (mix s t j) (0 + j * 1) [sl32 (s.l.getD j 0 + t.l.getD j 0)]⟩] [bsF A l, oddF 1] w' := hs
      rw [e3] at hs2
      exact hs2
    · obtain rfl : j = 8 := by omega
      intro β w' hs
      have h1 := hs.weaken (List.sublist_cons_self _ _) (List.Sublist.refl _)
      have h2 := h1.ofBk
      have hb : β 0 = b := h2.fix.2 0 (Nat.zero_lt_one)
      refine h2.fin [0] ⟨rfl, ?_⟩
      show [bkF (β 0) ty ((mix s t 8).map (SL.val β))] = [stF b ty (s.add t)]
      rw [hb]
      rfl
end Go.Proofs.YthkjfepbmnabkaaDoor.Sx

/- A state's bytes; a number's; what stands behind a text. -/
namespace Go.Proofs.YthkjfepbmnabkaaDoor.Sx
open Go Sha
attribute [local irreducible] Calls

theorem u8_of32 (x : UInt32) : IntKind.u8.wrap (x.toNat : Int) = (x.toUInt8.toNat : Int) := by
  rw [show IntKind.u8.wrap (x.toNat : Int) = (x.toNat : Int) % 256 by simp [IntKind.wrap, IntKind.bits, IntKind.signed], UInt32.toNat_toUInt8]
  omega
def outN (s : S8) (i : Nat) : List UInt8 := (s.l.take i).flatMap b4
theorem outN_len (s : S8) : ∀ i, i < 9 → (outN s i).length = 4 * i
  | 0, _ => rfl | 1, _ => rfl | 2, _ => rfl | 3, _ => rfl | 4, _ => rfl | 5, _ => rfl | 6, _ => rfl | 7, _ => rfl | 8, _ => rfl
  | n + 9, h => by omega
theorem outN_succ (s : S8) : ∀ i, i < 8 → outN s i ++ b4 (s.l.getD i 0) = outN s (i + 1)
  | 0, _ => rfl | 1, _ => rfl | 2, _ => rfl | 3, _ => rfl | 4, _ => rfl | 5, _ => rfl | 6, _ => rfl | 7, _ => rfl
  | n + 8, h => by omega

theorem stbytes_c (w : World) (b ty : Nat) (s : S8) (hm : Mem w [stF b ty s]) :
    Con Tryd.prog n_sha_state_bytes #[.pointer (some ⟨b, 0, none⟩)] w [stF b ty s] fun v Fs => ∃ A c, v = .slice A 32 c ∧ 32 ≤ c ∧ c ≤ maxLen ∧ Fs = [stF b ty s, browF ty_uint8 A (out s) c] := by
  have g := good_sha_state_bytes w (Un [stF b ty s]) (bs := [b])
  have hs0 : Sat (cx_sha_state_bytes w (Un [stF b ty s]) [b]) (Va.of fun _ => b) 1 [] [stF b ty s] w :=
    hm.sat rfl (ownIn (Gs := [stF b ty s]) (Rs := []) (fun g hg => by cases hg)) ⟨Nat.le_refl _, fun i hi => by
        have hi1 : i < 1 := hi
        have hi0 : i = 0 := by omega
        rw [hi0]; rfl⟩
  have hs1 := hs0.toBk 0 rfl 0 Nat.zero_lt_one rfl
  rw [List.map_map] at hs1
  refine con_of_sx (cx := cx_sha_state_bytes w (Un [stF b ty s]) [b]) g b_sha_state_bytes rfl rfl (β := Va.of fun _ => b) [.c (.p 0 0)] 1 [⟨0, ty, s.l.map sl32⟩] [browF ty_uint8 none [] 0] rfl rfl (hs1.nilRow _ _) ?_
  refine loop_rule (ι := Nat × Option Addr × Nat) 1 (fun i => [(6, .c (.p 0 0)), (7, .c (.v (.int .i64 i.1))), (3, .c (.v (.slice i.2.1 (4 * i.1) i.2.2)))]) (fun _ => [⟨0, ty, s.l.map sl32⟩])
    (fun i => [rowF ty_uint8 1 (.slice i.2.1 (4 * i.1) i.2.2) (4 * i.1) ((outN s i.1).map byte)])
    (fun i => i.1 ≤ 8 ∧ 4 * i.1 ≤ i.2.2 ∧ i.2.2 ≤ maxLen) (fun i => 8 - i.1) (0, none, 0) ⟨Nat.zero_le _, Nat.zero_le _, Nat.zero_le _⟩ (Ent.same ⟨rfl, rfl, rfl, trivial⟩ rfl) g ?_
  rintro ⟨i, A, c⟩ ⟨hi, hc, hcm⟩
  simp only at hi hc hcm
  refine BIf.dec (fun hlt => ?_) (fun hge => ?_)
  · have hlt : i < 8 := by omega
    obtain ⟨x, hx⟩ : ∃ x, s.l.getD i 0 = x := ⟨_, rfl⟩
    refine ⟨i, rfl, hlt, ?_⟩
    conv => whnf
    generalize hn : nth _ _ = o
    obtain rfl : o = some (sl32 x) := hn.symm.trans (by
      show nth (s.l.map sl32) (0 + i * 1) = _
      rw [Nat.zero_add, Nat.mul_one, ← hx, nth_eq]
      exact l_get s i hlt)
    clear hn
    refine ⟨by omega, _, shr32 x 24 (by omega), _, u8_of32 _, by omega, _, shr32 x 16 (by omega), _, u8_of32 _, by omega, _, shr32 x 8 (by omega), _, u8_of32 _, _, u8_of32 _, ?_⟩
    intro b2
    refine ⟨1, 4 * i, 4 * (i + 1), (outN s i).map byte, (b4 x).map byte, _, rfl, fun β w hs => row_rd (hs.get 0 rfl), bytes_one _, by omega, rfl, by rw [maxLen_eq]; omega, by show 4 * (i + 1) * 1 ≤ _; omega, ?_⟩
    intro A' c' h1 h2 _
    refine ⟨((i + 1 : Nat) : Int), by rw [wrap_i64 (by omega) (by omega)]; rfl, ?_⟩
    refine ⟨(i + 1, A', c'), ⟨by show i + 1 ≤ 8; omega, h1, h2⟩, by show 8 - (i + 1) < 8 - i; omega, Ent.mk' ⟨rfl, rfl, rfl, trivial⟩ rfl (fun β w' hs => ?_)⟩
    have e1 := outN_succ s i hlt
    rw [hx] at e1
    have h3 := hs.weaken (List.Sublist.refl _) (List.sublist_cons_self _ _)
    show Sat _ _ _ _ [rowF ty_uint8 1 (.slice A' (4 * (i + 1)) c') (4 * (i + 1)) ((outN s (i + 1)).map byte)] _
    rw [← e1, List.map_append]
    exact h3
  · obtain rfl : i = 8 := by omega
    intro β w' hs
    have h2 := hs.ofBk
    have hb : β 0 = b := h2.fix.2 0 (Nat.zero_lt_one)
    refine h2.fin [0, 1] ⟨A, c, rfl, hc, hcm, ?_⟩
    show [bkF (β 0) ty ((s.l.map sl32).map (SL.val β)), _] = [stF b ty s, _]
    rw [hb]
    rfl

theorem wrap_u8n (x : Nat) : IntKind.u8.wrap (x : Int) = ((UInt8.ofNat x).toNat : Int) := by
  rw [show IntKind.u8.wrap (x : Int) = (x : Int) % 256 by simp [IntKind.wrap, IntKind.bits, IntKind.signed], UInt8.toNat_ofNat']
  omega
theorem wrap_u64' (x : Int) : IntKind.u64.wrap x = x % 18446744073709551616 := by simp [IntKind.wrap, IntKind.bits, IntKind.signed]
theorem longN_len (n : Nat) : ∀ i, i < 9 → ((Sha.long n).take i).length = i
  | 0, _ => rfl | 1, _ => rfl | 2, _ => rfl | 3, _ => rfl | 4, _ => rfl | 5, _ => rfl | 6, _ => rfl | 7, _ => rfl | 8, _ => rfl
  | n + 9, h => by omega
theorem longN_succ (n : Nat) : ∀ i, i < 8 → (Sha.long n).take i ++ [UInt8.ofNat (n / 2 ^ (8 * (7 - i)))] = (Sha.long n).take (i + 1)
  | 0, _ => rfl | 1, _ => rfl | 2, _ => rfl | 3, _ => rfl | 4, _ => rfl | 5, _ => rfl | 6, _ => rfl | 7, _ => rfl
  | n + 8, h => by omega
theorem long_c (w : World) (n : Nat) :
    Con Tryd.prog n_sha_long #[.int .u64 n] w [] fun v Fs => ∃ A c, v = .slice A 8 c ∧ 8 ≤ c ∧ c ≤ maxLen ∧ Fs = [browF ty_uint8 A (Sha.long n) c] := by
  have g := good_sha_long w (Un [])
  refine con_of_sx (cx := cx_sha_long w (Un [])) g b_sha_long rfl rfl (β := Va.z) [.c (.v (.int .u64 n))] 0 [] [browF ty_uint8 none [] 0] rfl rfl ((Sat.start rfl).nilRow _ _) ?_
  refine loop_rule (ι := Nat × Option Addr × Nat) 0 (fun i => [(0, .c (.v (.int .u64 n))), (5, .c (.v (.int .i64 i.1))), (3, .c (.v (.slice i.2.1 i.1 i.2.2)))]) (fun _ => [])
    (fun i => [rowF ty_uint8 1 (.slice i.2.1 i.1 i.2.2) i.1 (((Sha.long n).take i.1).map byte)])
    (fun i => i.1 ≤ 8 ∧ i.1 ≤ i.2.2 ∧ i.2.2 ≤ maxLen) (fun i => 8 - i.1) (0, none, 0) ⟨Nat.zero_le _, Nat.zero_le _, Nat.zero_le _⟩ (Ent.same ⟨rfl, rfl, rfl, trivial⟩ rfl) g ?_
  rintro ⟨i, A, c⟩ ⟨hi, hc, hcm⟩
  simp only at hi hc hcm
  refine BIf.dec (fun hlt => ?_) (fun hge => ?_)
  · have hlt : i < 8 := by omega
    refine ⟨((7 - i : Nat) : Int), by rw [wrap_i64 (by omega) (by omega)]; omega, ((8 * (7 - i) : Nat) : Int), by rw [wrap_i64 (by omega) (by omega)]; omega, ?_⟩
    refine ⟨by omega, ((n / 2 ^ (8 * (7 - i)) : Nat) : Int), ?_, _, wrap_u8n _, ?_⟩
    · have h1 : min ((8 * (7 - i) : Nat) : Int).toNat IntKind.u64.bits = 8 * (7 - i) := by show min (8 * (7 - i)) 64 = _; omega
      rw [h1]
      have : (2 ^ (8 * (7 - i)) : Int) = ((2 ^ (8 * (7 - i)) : Nat) : Int) := by push_cast; rfl
      rw [this, Int.fdiv_eq_ediv_of_nonneg _ (Int.natCast_nonneg _)]
      exact (Int.natCast_ediv _ _).symm
    intro b2
    refine ⟨1, i, i + 1, ((Sha.long n).take i).map byte, [UInt8.ofNat (n / 2 ^ (8 * (7 - i)))].map byte, _, rfl, fun β w hs => row_rd (hs.get 0 rfl), bytes_one _, rfl, rfl, by rw [maxLen_eq]; omega, by show (i + 1) * 1 ≤ _; omega, ?_⟩
    intro A' c' h1 h2 _
    refine ⟨((i + 1 : Nat) : Int), by rw [wrap_i64 (by omega) (by omega)]; rfl, ?_⟩
    refine ⟨(i + 1, A', c'), ⟨by show i + 1 ≤ 8; omega, h1, h2⟩, by show 8 - (i + 1) < 8 - i; omega, Ent.mk' ⟨rfl, rfl, rfl, trivial⟩ rfl (fun β w' hs => ?_)⟩
    have h3 := hs.weaken (List.Sublist.refl _) (List.sublist_cons_self _ _)
    show Sat _ _ _ _ [rowF ty_uint8 1 (.slice A' (i + 1) c') (i + 1) (((Sha.long n).take (i + 1)).map byte)] _
    rw [← longN_succ n i hlt, List.map_append]
    exact h3
  · obtain rfl : i = 8 := by omega
    intro β w' hs
    exact hs.fin [0] ⟨A, c, rfl, hc, hcm, rfl⟩

theorem ends_c (w : World) (n : Nat) (hn : n ≤ 140737488355328) :
    Con Tryd.prog n_sha_ends #[.int .u64 n] w [] fun v Fs => ∃ A c, v = .slice A (Sha.ends n).length c ∧ (Sha.ends n).length ≤ c ∧ c ≤ maxLen ∧ Fs = [browF ty_uint8 A (Sha.ends n) c] := by
  have g := good_sha_ends w (Un [])
  have hz : zeros n < 64 := by unfold zeros; omega
  refine con_of_sx (cx := cx_sha_ends w (Un [])) g b_sha_ends rfl rfl (β := Va.z) [.c (.v (.int .u64 n))] 0 [] [] rfl rfl (Sat.start rfl) ?_
  intro b0
  refine loop_rule (ι := Nat × Option Addr × Nat) 0 (fun i => [(0, .c (.v (.int .u64 n))), (3, .c (.v (.slice i.2.1 (i.1 + 1) i.2.2)))]) (fun _ => [])
    (fun i => [rowF ty_uint8 1 (.slice i.2.1 (i.1 + 1) i.2.2) (i.1 + 1) (((0x80 : UInt8) :: List.replicate i.1 0).map byte)])
    (fun i => i.1 ≤ zeros n ∧ i.1 + 1 ≤ i.2.2 ∧ i.2.2 ≤ maxLen) (fun i => zeros n - i.1) (0, some ⟨b0, 0, none⟩, 1) ⟨Nat.zero_le _, Nat.le_refl _, by show 1 ≤ maxLen; decide⟩ (Ent.same ⟨rfl, rfl, trivial⟩ rfl) g ?_
  rintro ⟨i, A, c⟩ ⟨hi, hc, hcm⟩
  simp only at hi hc hcm
  obtain ⟨r, hr⟩ : ∃ r : Nat, (n + (i + 1) + 8) % 64 = r := ⟨_, rfl⟩
  refine ⟨((i + 1 : Nat) : Int), by rw [wrap_u64']; omega, ((n + (i + 1) : Nat) : Int), by rw [wrap_u64']; omega, ((n + (i + 1) + 8 : Nat) : Int), by rw [wrap_u64']; omega, by omega, (r : Int), by rw [Int.tmod_eq_emod_of_nonneg (by omega)]; omega, ?_⟩
  refine BIf.not (BIf.dec (fun h0 => ?_) (fun h0 => ?_))
  · have hiz : i = zeros n := by unfold zeros at *; omega
    refine ⟨((8 * n : Nat) : Int), by rw [wrap_u64']; omega, ?_⟩
    refine call_con [] (fun β w' hs => long_c w' (8 * n)) ?_
    rintro v Fs ⟨A2, c2, rfl, h1, h2, rfl⟩
    have hl : (Sha.ends n).length = i + 1 + 8 := by rw [Sha.ends_len, hiz]; omega
    refine ⟨1, i + 1, (Sha.ends n).length, _, (Sha.long (8 * n)).map byte, (Sha.ends n).map byte, rfl, fun β w hs => row_rd (hs.get 0 rfl), bytes_one _, hl.symm, by rw [← List.map_append, hiz]; rfl, by rw [maxLen_eq, hl]; omega, by show (Sha.ends n).length * 1 ≤ _; omega, ?_⟩
    intro A' c' h3 h4 _
    intro β w' hs
    exact hs.fin [1] ⟨A', c', rfl, h3, h4, rfl⟩
  · have hiz : i < zeros n := by
      rcases Nat.lt_or_ge i (zeros n) with h | h
      · exact h
      · exfalso
        apply h0
        have : i = zeros n := by omega
        subst this
        unfold zeros at hr
        omega
    intro b2
    refine ⟨1, i + 1, i + 1 + 1, ((0x80 : UInt8) :: List.replicate i 0).map byte, [(0 : UInt8)].map byte, _, rfl, fun β w hs => row_rd (hs.get 0 rfl), bytes_one _, rfl, rfl, by rw [maxLen_eq]; omega, by show (i + 1 + 1) * 1 ≤ _; omega, ?_⟩
    intro A' c' h1 h2 _
    refine ⟨(i + 1, A', c'), ⟨hiz, h1, h2⟩, by show zeros n - (i + 1) < zeros n - i; omega, Ent.mk' ⟨rfl, rfl, trivial⟩ rfl (fun β w' hs => ?_)⟩
    have h3 := hs.weaken (List.Sublist.refl _) (List.sublist_cons_self _ _)
    show Sat _ _ _ _ [rowF ty_uint8 1 (.slice A' (i + 1 + 1) c') (i + 1 + 1) (((0x80 : UInt8) :: List.replicate (i + 1) 0).map byte)] _
    rw [List.replicate_succ', ← List.cons_append, List.map_append]
    exact h3
end Go.Proofs.YthkjfepbmnabkaaDoor.Sx

/- A text's blocks. -/
namespace Go.Proofs.YthkjfepbmnabkaaDoor.Sx
open Go Sha
attribute [local irreducible] Calls

theorem clone_c (w : World) (A : Option Addr) (l : List UInt8) (c : Nat) (hr : Bs w A l) (hn : l.length ≤ 140737488355328) :
    Con Tryd.prog n_bytes_Clone #[.slice A l.length c] w [] fun v Fs => ∃ A' c', v = .slice A' l.length c' ∧ l.length ≤ c' ∧ c' ≤ maxLen ∧ Fs = [browF ty_uint8 A' l c'] := by
  refine con_of_sx (cx := cx_bytes_Clone w (Un [])) (good_bytes_Clone w (Un [])) b_bytes_Clone rfl rfl (β := Va.z) [.c (.v (.slice A l.length c))] 0 [] [bsF A l] rfl rfl ((Sat.start rfl).rd (fun _ h => by cases h) hr) ?_
  refine BIf.mk (fun h => ?_) (fun h => ?_)
  · intro β w' hs
    have hA : A = none := by simpa using h
    subst hA
    have hl : l = [] := by
      cases l with
      | nil => rfl
      | cons x r => obtain ⟨ad, q⟩ := Bs.addr hr (by simp); cases q
    subst hl
    exact (hs.nilRow ty_uint8 1).fin [0] ⟨none, 0, rfl, Nat.le_refl _, Nat.zero_le _, rfl⟩
  intro b
  refine ⟨0, 0, l.length, [], l.map byte, _, rfl, fun β w hs => hs.get 1 rfl, bytes_one l, Nat.zero_add _, rfl, by rw [maxLen_eq]; omega, by show l.length * 1 ≤ _; omega, ?_⟩
  intro A' c' h1 h2 h3 β w' hs
  exact hs.fin [0] ⟨A', c', rfl, h1, h2, rfl⟩

def blk (q : List UInt8) (i : Nat) : List UInt8 := (q.drop (64 * i)).take 64
def blks (q : List UInt8) (n : Nat) : List (List UInt8) := (List.range n).map (blk q)
theorem blks_succ (q : List UInt8) (n : Nat) : blks q (n + 1) = blks q n ++ [blk q n] := by simp [blks, List.range_succ]
theorem go_eq : ∀ (n : Nat) (s : S8) (q : List UInt8), go n s q = (blks q n).foldl Sha.step s
  | 0, s, q => rfl
  | n + 1, s, q => by
    rw [go, go_eq n]
    have : blks q (n + 1) = q.take 64 :: blks (q.drop 64) n := by
      simp only [blks, List.range_succ_eq_map, List.map_cons, List.map_map]
      congr 1
      refine List.map_congr_left fun i _ => ?_
      simp only [Function.comp, blk, List.drop_drop]
      rw [show 64 * (i + 1) = 64 + 64 * i by omega]
    rw [this, List.foldl_cons]

def insB (x : List UInt8) (args : Array Value) (X : Fact) : Prop := x.length = 64 ∧ ∃ B, args = #[.slice B 64 64] ∧ X = bsF B x

theorem blocks_it (l : Nat) (w : World) (bx : Nat) (A : Option Addr) (p : List UInt8) (c : Nat) (f0 R : Fact) (J Jx : List (List UInt8) → Fact → Prop) (hJ0 : J [] f0) (hJo : ∀ pre f, J pre f → f.own = true) (hRo : R.own = false) (hY : Yc Tryd.prog l J Jx R insB)
    (hp : p.length ≤ 70368744177664) (hm : Mem w (f0 :: R :: [bkF bx ty_sl_uint8 [.slice A p.length c], bsF A p])) :
    Con Tryd.prog n_sha_Blocks_1 #[.func (.yield l) #[] #[], .pointer (some ⟨bx, 0, none⟩)] w [f0, bkF bx ty_sl_uint8 [.slice A p.length c]]
      (fun _ Fs => ∃ f Fs', Fs = f :: Fs' ∧ ((∃ xs, J xs f ∧ xs = blks (p ++ ends p.length) ((p ++ ends p.length).length / 64) ∧ Fs' = []) ∨ (∃ pre, Jx pre f ∧ Fs' = []))) := by
  have g := good_sha_Blocks_1 w (Un [f0, bkF bx ty_sl_uint8 [.slice A p.length c]]) [bx]
  have hs0 : Sat (cx_sha_Blocks_1 w (Un [f0, bkF bx ty_sl_uint8 [.slice A p.length c]]) [bx]) (Va.of fun _ => bx) 1 [] (f0 :: R :: [bkF bx ty_sl_uint8 [.slice A p.length c], bsF A p]) w := by
    refine hm.sat rfl (fun f hf ho k hk => ?_) ⟨Nat.le_refl 1, fun i hi => by obtain rfl : i = 0 := Nat.lt_one_iff.1 hi; rfl⟩
    simp only [List.mem_cons, List.not_mem_nil, or_false] at hf
    rcases hf with rfl | rfl | rfl | rfl
    · exact ⟨_, by simp, hk⟩
    · rw [hRo] at ho; cases ho
    · exact ⟨_, by simp, hk⟩
    · cases ho
  have hs1 := hs0.toBk 2 rfl 0 Nat.zero_lt_one rfl
  have hf0 := hJo _ _ hJ0
  refine con_of_sx (cx := cx_sha_Blocks_1 w (Un [f0, bkF bx ty_sl_uint8 [.slice A p.length c]]) [bx]) g b_sha_Blocks_1 rfl rfl (β := Va.of fun _ => bx) [.c (.v (.func (.yield l) #[] #[])), .c (.p 0 0)] 1 [⟨0, ty_sl_uint8, [.v (.slice A p.length c)]⟩] [f0, R, bsF A p] rfl rfl hs1 ?_
  refine draw_rule g p_sha_Blocks_1_0 (by kernel_rfl) [⟨0, ty_sl_uint8, [.v (.slice A p.length c)]⟩] [f0, R, bsF A p] Sub.refl ?_
  refine ⟨((p.length : Nat) : Int), by rw [wrap_u64']; omega, ?_⟩
  refine call_con [] (fun β w' hs => clone_c w' A p c (hs.get 2 rfl) (by omega)) ?_
  rintro v Fs ⟨A1, c1, rfl, h1, h2, rfl⟩
  refine ⟨Sub.dropF 1 rfl, ?_⟩
  refine call_con [] (fun β w' hs => ends_c w' p.length (by omega)) ?_
  rintro v Fs ⟨A2, c2, rfl, h3, h4, rfl⟩
  refine ⟨Sub.dropF 2 rfl, ?_⟩
  obtain ⟨q, hq⟩ : ∃ q, p ++ ends p.length = q := ⟨_, rfl⟩
  have hql : q.length = p.length + (ends p.length).length := by rw [← hq, List.length_append]
  have hel : (ends p.length).length < 73 := by rw [Sha.ends_len]; unfold zeros; omega
  have hqm : q.length % 64 = 0 := by rw [← hq]; exact Sha.pad_mod p
  rw [hq]
  refine ⟨1, p.length, q.length, _, (ends p.length).map byte, q.map byte, rfl, fun β w hs => row_rd (hs.get 0 rfl), bytes_one _, hql.symm, by rw [← hq, List.map_append], by rw [maxLen_eq]; omega, by show q.length * 1 ≤ _; omega, ?_⟩
  intro A3 c3 h5 h6 _
  refine ⟨Sub.dropF 2 rfl, ?_⟩
  refine loop_rule (ι := Nat × Option Addr × Nat × Fact) 1 (fun i => [(0, .c (.v (.func (.yield l) #[] #[]))), (3, .c (.v (.slice i.2.1 (q.length - 64 * i.1) i.2.2.1)))]) (fun _ => [⟨0, ty_sl_uint8, [.v (.slice A p.length c)]⟩])
    (fun i => [browF ty_uint8 A3 q c3, i.2.2.2, R])
    (fun i => 64 * i.1 ≤ q.length ∧ q.length - 64 * i.1 ≤ i.2.2.1 ∧ i.2.2.1 ≤ maxLen ∧ J (blks q i.1) i.2.2.2 ∧ (∀ w, Bs w A3 q → Bs w i.2.1 (q.drop (64 * i.1))) ∧ (∀ ad, i.2.1 = some ad → ∃ ad3, A3 = some ad3 ∧ ad.block = ad3.block)) (fun i => q.length - 64 * i.1) (0, A3, c3, f0)
    ⟨Nat.zero_le _, h5, h6, hJ0, fun w h => h, fun ad h => ⟨ad, h, rfl⟩⟩ (Ent.mk' ⟨rfl, rfl, trivial⟩ rfl (fun β w' hs => hs.weaken (List.Sublist.refl _) (List.Sublist.cons _ (List.Sublist.cons_cons _ (List.Sublist.cons_cons _ (List.Sublist.cons_cons _ (List.nil_sublist _))))))) g ?_
  rintro ⟨i, B, cap, f⟩ ⟨hi, hcap, hcm, hJ, hB, hBD⟩
  simp only at hi hcap hcm hJ hB hBD
  have hfo := hJo _ _ hJ
  obtain ⟨m, hm⟩ : ∃ m, q.length - 64 * i = m := ⟨_, rfl⟩
  have hmc : m ≤ cap := by omega
  rw [hm]
  have hdl : (q.drop (64 * i)).length = m := by rw [List.length_drop]; omega
  refine BIf.dec (fun h0 => ?_) (fun h0 => ?_)
  · have hm64 : 64 ≤ m := by omega
    have hbl : (blk q i).length = 64 := by unfold blk; rw [List.length_take, hdl]; omega
    refine ⟨64, 64, 0, 64, 64, _, rfl, rfl, rfl, by show 64 ≤ cap; omega, by omega, by omega, rfl, rfl, rfl, ?_⟩
    have hcutD : ∀ k, (bsF (cutA B 64 0 1) (blk q i)).D k → (browF ty_uint8 A3 q c3).D k := by
      rintro k ⟨_, ad, had, rfl⟩
      simp only [cutA] at had
      rw [if_neg (by decide)] at had
      cases B with
      | none => cases had
      | some ad0 =>
        obtain rfl : ad0.add (0 * 1) = ad := by simpa using had
        obtain ⟨ad3, h7, h8⟩ := hBD ad0 rfl
        subst h7
        have : (ad0.add (0 * 1)).block = ad0.block := by unfold Addr.add; split <;> rfl
        show some ad3.block = some (ad0.add (0 * 1)).block
        rw [this, h8]
    refine yield_ro (x := blk q i) (X := bsF (cutA B 64 0 1) (blk q i)) hY 1 2 rfl hJ hfo rfl hRo (by decide) (fun β => ⟨hbl, _, rfl, rfl⟩) rfl (fun β w' hs => ⟨?_, fun k hk => hs.getLt 0 rfl k (hcutD k hk), fun k hk hk' => ?_⟩) ?_ ?_
    · have h7 := Bs.cut (hB w' (row_rd (hs.get 0 rfl))) (c := cap) (m := 64) (i := 0) (j := 64) (by omega) (.inr (Nat.le_refl _)) (by omega) (by omega) (by omega)
      have h8 : Rd 1 (cutA B 64 0 1) (blk q i).length ((blk q i).map byte) w' := by rw [hbl]; exact h7
      exact h8
    · exact hs.apart (i := 1) (j := 0) rfl rfl (by decide) (.inr rfl) k hk (hcutD k hk')
    · intro f2 hfo2 hJ2
      refine ⟨cap, m, 64, m - 64, cap - 64, _, rfl, rfl, rfl, Nat.le_refl _, hmc, hm64, rfl, rfl, rfl, ?_⟩
      refine ⟨(i + 1, cutA B cap 64 1, cap - 64, f2), ⟨by show 64 * (i + 1) ≤ _; omega, by show q.length - 64 * (i + 1) ≤ cap - 64; omega, by show cap - 64 ≤ _; omega, by show J (blks q (i + 1)) f2; rw [blks_succ]; exact hJ2, fun w' h => ?_, fun ad had => ?_⟩, by show q.length - 64 * (i + 1) < m; omega, Ent.mk' ⟨rfl, ?_, trivial⟩ rfl (fun β w' hs => ?_)⟩
      · have h7 := Bs.cutB (hB w' h) (c := cap) (i := 64) (j := m) (m := q.drop (64 * (i + 1))) (by omega) hm64 (by omega) (by
          rw [List.drop_drop, show 64 * i + 64 = 64 * (i + 1) by omega, List.take_of_length_le]
          rw [List.length_drop]; omega)
        exact h7
      · have had' : cutA B cap 64 1 = some ad := had
        unfold cutA at had'
        split at had'
        · exact hBD ad had'
        · cases B with
          | none => cases had'
          | some ad0 =>
            obtain rfl : ad0.add (64 * 1) = ad := by simpa using had'
            obtain ⟨ad3, h7, h8⟩ := hBD ad0 rfl
            refine ⟨ad3, h7, ?_⟩
            rw [← h8]
            unfold Addr.add; split <;> rfl
      · show _ = some (SV.c (.v (.slice _ (q.length - 64 * (i + 1)) _)))
        rw [show q.length - 64 * (i + 1) = m - 64 by omega]
        rfl
      · exact (hs.keepB (List.Sublist.refl _)).perm [1, 0, 2]
    · intro f2 hfo2 hJ2 β w' hs
      exact hs.fin [0] ⟨f2, [], rfl, .inr ⟨_, hJ2, rfl⟩⟩ rfl rfl rfl ⟨hfo2, trivial⟩
  · have hi2 : i = q.length / 64 := by omega
    intro β w' hs
    exact hs.fin [1] ⟨f, [], rfl, .inl ⟨_, hJ, by rw [hi2], rfl⟩⟩ rfl rfl rfl ⟨hfo, trivial⟩
end Go.Proofs.YthkjfepbmnabkaaDoor.Sx

/- The sum of a text. -/
namespace Go.Proofs.YthkjfepbmnabkaaDoor.Sx
open Go Sha
attribute [local irreducible] Calls

theorem rd_sub_row {e size k n c : Nat} {A : Option Addr} {xs ys : List Value} : ∀ g, (rdF size A k xs).D g → (rowF e size (.slice A n c) n ys).D g := by
  rintro g ⟨_, ad, rfl, rfl⟩
  rfl
/-- The last one is only read. -/
theorem Mem.lastRd {w : World} {f R X : Fact} {e c : Nat} {A : Option Addr} {l : List UInt8} (h : Mem w [f, R, X, browF e A l c]) : Mem w [f, R, X, bsF A l] := by
  have hp : Bs w A l := row_rd (h.fact (browF e A l c) (by simp))
  refine ⟨fun g hg => ?_, fun g hg k hk => ?_, ?_⟩
  · simp only [List.mem_cons, List.not_mem_nil, or_false] at hg
    rcases hg with rfl | rfl | rfl | rfl
    · exact h.fact _ (by simp)
    · exact h.fact _ (by simp)
    · exact h.fact _ (by simp)
    · exact hp
  · simp only [List.mem_cons, List.not_mem_nil, or_false] at hg
    rcases hg with rfl | rfl | rfl | rfl
    · exact h.flt g (by simp) k hk
    · exact h.flt g (by simp) k hk
    · exact h.flt g (by simp) k hk
    · exact h.flt (browF e A l c) (by simp) k (rd_sub_row k hk)
  · obtain ⟨h1, h2⟩ := List.pairwise_cons.1 h.sepf
    obtain ⟨h3, h4⟩ := List.pairwise_cons.1 h2
    obtain ⟨h5, _⟩ := List.pairwise_cons.1 h4
    refine List.pairwise_cons.2 ⟨fun g hg ho => ?_, List.pairwise_cons.2 ⟨fun g hg ho => ?_, List.pairwise_cons.2 ⟨fun g hg ho => ?_, List.pairwise_singleton _ _⟩⟩⟩
    · simp only [List.mem_cons, List.not_mem_nil, or_false] at hg
      rcases hg with rfl | rfl | rfl
      · exact h1 _ (by simp) ho
      · exact h1 _ (by simp) ho
      · exact fun k hk q => h1 (browF e A l c) (by simp) (.inr rfl) k hk (rd_sub_row k q)
    · simp only [List.mem_cons, List.not_mem_nil, or_false] at hg
      rcases hg with rfl | rfl
      · exact h3 _ (by simp) ho
      · exact fun k hk q => h3 (browF e A l c) (by simp) (.inr rfl) k hk (rd_sub_row k q)
    · obtain rfl := List.mem_singleton.1 hg
      exact fun k hk q => h5 (browF e A l c) (by simp) (.inr rfl) k hk (rd_sub_row k q)
theorem Blocks_c (w : World) (A : Option Addr) (n c : Nat) : Con Tryd.prog n_sha_Blocks #[.slice A n c] w [] (fun v Fs => ∃ bx, v = .func (.func n_sha_Blocks_1) #[] #[.pointer (some ⟨bx, 0, none⟩)] ∧ Fs = [bkF bx ty_sl_uint8 [.slice A n c]]) := by
  refine con_of_sx (cx := cx_sha_Blocks w (Un [])) (good_sha_Blocks w (Un [])) b_sha_Blocks rfl rfl (β := Va.z) [.c (.v (.slice A n c))] 0 [] [] rfl rfl (Sat.start rfl) ?_
  intro β w' hs
  exact hs.ofBk.fin [0] ⟨β 0, rfl, rfl⟩
/-- One part. -/
theorem join1_c (w : World) (P A : Option Addr) (cP c : Nat) (l : List UInt8) (hP : Rd 1 P 1 [.slice A l.length c] w) (hr : Bs w A l) (hn : l.length ≤ 140737488355328) :
    Con Tryd.prog n_bytes_Join #[.slice P 1 cP, .slice none 0 0] w [] fun v Fs => ∃ A' c', v = .slice A' l.length c' ∧ l.length ≤ c' ∧ c' ≤ maxLen ∧ Fs = [browF ty_uint8 A' l c'] := by
  have hs0 : Sat (cx_bytes_Join w (Un [])) Va.z 0 [] [oldF w] w := old_sat rfl
  refine con_of_sx (cx := cx_bytes_Join w (Un [])) (good_bytes_Join w (Un [])) b_bytes_Join rfl rfl (β := Va.z) [.c (.v (.slice P 1 cP)), .c (.v (.slice none 0 0))] 0 [] [browF ty_uint8 none [] 0, oldF w] rfl rfl (hs0.nilRow _ _) ?_
  obtain ⟨ad, rfl, hc⟩ := hP.2 (by decide)
  refine ⟨ad, 0, rfl, rfl, by decide, .slice A l.length c, fun β w' hs => ?_, ?_⟩
  · have h1 : Rd 1 (some ad) 1 [.slice A l.length c] w' := hP.old (hs.get 1 rfl)
    obtain ⟨ad', h2, h3⟩ := h1.2 (by decide)
    obtain rfl := Option.some.inj h2
    exact h3 0 _ rfl
  refine ⟨0, 0, l.length, [], l.map byte, _, rfl, fun β w' hs => hr.old (hs.get 1 rfl), bytes_one l, Nat.zero_add _, rfl, by rw [maxLen_eq]; omega, by show l.length * 1 ≤ _; omega, ?_⟩
  intro A' c' h1 h2 h3 β w' hs
  exact hs.fin [0] ⟨A', c', rfl, h1, h2, rfl⟩

theorem step64_c (w : World) (b ty : Nat) (s : S8) (A : Option Addr) (x : List UInt8) (hx : x.length = 64) (hm : Mem w [stF b ty s, bsF A x, oddF 1]) :
    Con Tryd.prog n_sha_state_step #[.pointer (some ⟨b, 0, none⟩), .slice A 64 64] w [stF b ty s] fun v Fs => v = .tuple #[] ∧ Fs = [stF b ty (Sha.step s x)] := by
  have := step_c w b ty s A x 64 hm (by omega) (by omega) (by decide)
  rw [hx] at this
  exact this

/-- The tables that are read. -/
def firstF (g : Nat) : Fact := rdF 1 (some ⟨g, 0, none⟩) 8 (Sha.first.l.map u32)
theorem sum1_c (w : World) (P A : Option Addr) (cP c : Nat) (l : List UInt8) (hP : Rd 1 P 1 [.slice A l.length c] w) (hr : Bs w A l) (hn : l.length ≤ 70368744177664) (h1 : (oddF 1).p w) (h0 : (firstF 0).p w) :
    Con Tryd.prog n_sha_Sum #[.slice P 1 cP] w [] fun v Fs => ∃ A' c', v = .slice A' 32 c' ∧ 32 ≤ c' ∧ c' ≤ maxLen ∧ Fs = [browF ty_uint8 A' (Sha.sum l) c'] := by
  have g := good_sha_Sum w (Un [])
  have hs0 : Sat (cx_sha_Sum w (Un [])) Va.z 0 [] [oldF w] w := old_sat rfl
  have hs1 : Sat (cx_sha_Sum w (Un [])) Va.z 0 [] [oddF 1, oldF w] w := hs0.sub 0 rfl rfl _ rfl h1 (rd_lt h1)
  refine con_of_sx (cx := cx_sha_Sum w (Un [])) g b_sha_Sum rfl rfl (β := Va.z) [.c (.v (.slice P 1 cP))] 0 [] [oddF 1, oldF w] rfl rfl hs1 ?_
  refine ⟨Sha.first.l.map u32, rfl, fun β w' hs j u hu => ?_, ?_⟩
  · have h2 : Rd 1 (some ⟨0, 0, none⟩) 8 (Sha.first.l.map u32) w' := Rd.old h0 (hs.get 1 rfl)
    obtain ⟨ad, h3, h4⟩ := h2.2 (by decide)
    obtain rfl := Option.some.inj h3
    exact h4 j u hu
  refine call_con [] (fun β w' hs => join1_c w' P A cP c l (hP.old (hs.get 1 rfl)) (hr.old (hs.get 1 rfl)) (by omega)) ?_
  rintro v Fs ⟨A1, c1, rfl, h2, h3, rfl⟩
  refine call_con [] (fun β w' hs => Blocks_c w' A1 l.length c1) ?_
  rintro v Fs ⟨bx, rfl, rfl⟩
  refine reify_rule g 0 (fun _ => Sha.first.l.map u32) rfl rfl (fun _ => rfl) (fun sb => ?_)
  obtain ⟨q, hq⟩ : ∃ q, l ++ ends l.length = q := ⟨_, rfl⟩
  have hsum : Sha.sum l = out ((blks q (q.length / 64)).foldl Sha.step Sha.first) := by rw [← go_eq, ← hq]; rfl
  rw [hsum]
  refine range_rule (α := List UInt8) (ι := S8) (κ := S8) g rfl (cv := [.pointer (some ⟨bx, 0, none⟩)]) rfl (by kernel_rfl) 1 (Nat.le_refl 1)
    (fun pre s => s = pre.foldl Sha.step Sha.first) (fun _ => []) (fun s => [stF sb 125 s]) (fun _ => ⟨rfl, trivial⟩)
    (fun _ _ _ => False) (fun _ => []) (fun _ => []) (fun _ => trivial)
    [bkF bx ty_sl_uint8 [.slice A1 l.length c1]] [browF ty_uint8 A1 l c1] [oddF 1] ⟨rfl, trivial⟩ (fun g hg => by obtain rfl := List.mem_singleton.1 hg; rfl)
    Sha.first rfl (fun β w' hs => ⟨β, Agr.refl _ _, hs.perm [1, 2, 0, 3]⟩) insB
    (fun xs Fs' => xs = blks q (q.length / 64) ∧ Fs' = []) (fun _ Fs' => Fs' = [])
    (fun l' w' f0 R J Jx hJ0 hJo hRo hY hm => (blocks_it l' w' bx A1 l c1 f0 R J Jx hJ0 hJo hRo hY hn hm.lastRd).mono fun _ Fs h => by rw [hq] at h; exact h) ?_ ?_ ?_
  · rintro s pre x args X W S l' bs pn pn' hbs hpre ⟨hx, B, rfl, rfl⟩
    refine ⟨_, rfl, ?_⟩
    refine call_con [1] (fun β w' hs => step64_c w' sb 125 s B x hx (hs.mem.take (js := [1, 0, 2]) rfl)) ?_
    rintro v Fs ⟨rfl, rfl⟩
    refine ⟨Sha.step s x, by show Sha.step s x = (pre ++ [x]).foldl Sha.step Sha.first; rw [List.foldl_append, hpre]; rfl, Ent.mk' trivial rfl (fun β w' hs => ?_)⟩
    exact hs.weaken (List.Sublist.refl _) (List.Sublist.cons_cons _ (List.nil_sublist _))
  · rintro xs s Fs hpre ⟨rfl, rfl⟩
    refine call_con [0] (fun β w' hs => stbytes_c w' sb 125 s (hs.mem.take (js := [0]) rfl)) ?_
    rintro v Fs ⟨A3, c3, rfl, h5, h6, rfl⟩
    intro β w' hs
    refine hs.fin [1] ⟨A3, c3, rfl, h5, h6, ?_⟩
    rw [← hpre]
    rfl
  · rintro e pre s Fs h _
    exact h.elim
end Go.Proofs.YthkjfepbmnabkaaDoor.Sx

/- The document's words for sums. -/
namespace Go.Proofs.YthkjfepbmnabkaaDoor.Sx
open Go Sha
attribute [local irreducible] Calls

def stV (s : S8) : Value := .agg (s.l.map u32).toArray
theorem be4 (x : UInt32) : be 4 x.toNat = b4 x := by
  have hx := x.toNat_lt
  simp only [be, b4, List.nil_append, List.cons_append]
  have e : ∀ n, n < 256 → ∀ y : UInt8, y.toNat = n → UInt8.ofNat n = y := fun n _ y h => by rw [← h, UInt8.ofNat_toNat]
  have h1 : ∀ k : Nat, k < 32 → (x >>> UInt32.ofNat k).toNat = x.toNat / 2 ^ k := fun k hk => by
    rw [UInt32.toNat_shiftRight, UInt32.toNat_ofNat', Nat.mod_eq_of_lt (show k < 2 ^ 32 by omega), Nat.mod_eq_of_lt hk, Nat.shiftRight_eq_div_pow]
  congr 1
  · exact e _ (by omega) _ (by rw [UInt32.toNat_toUInt8, show (24 : UInt32) = UInt32.ofNat 24 from rfl, h1 24 (by omega)] <;> omega)
  congr 1
  · exact e _ (by omega) _ (by rw [UInt32.toNat_toUInt8, show (16 : UInt32) = UInt32.ofNat 16 from rfl, h1 16 (by omega)] <;> omega)
  congr 1
  · exact e _ (by omega) _ (by rw [UInt32.toNat_toUInt8, show (8 : UInt32) = UInt32.ofNat 8 from rfl, h1 8 (by omega)] <;> omega)
  congr 1
  exact e _ (by omega) _ (by rw [UInt32.toNat_toUInt8])
theorem ofNat_mod (n : Nat) : UInt8.ofNat (n % 256) = UInt8.ofNat n := by
  apply UInt8.toNat_inj.1
  rw [UInt8.toNat_ofNat', UInt8.toNat_ofNat']
  omega
theorem be8 (n : Nat) : be 8 n = Sha.long n := by
  simp only [be, Sha.long, List.nil_append, List.cons_append, ofNat_mod, List.map_cons, List.map_nil, Nat.div_div_eq_div_mul]
  simp

theorem first_c (w : World) : Pu Tryd.prog n_ostiaryref01_First #[] w (stV Sha.first) := by
  refine pu_of (calls_of_sx (cx := cx_ostiaryref01_First w None_) (good_ostiaryref01_First w None_) b_ostiaryref01_First rfl rfl (β := Va.z) [] 0 [] [] rfl rfl (Sat.start rfl) ?_)
  intro β w' hs
  exact ⟨rfl, hs.chg⟩

theorem be_con (w : World) (n k : Nat) (hn : n < 18446744073709551616) (hk : k ≤ 4096) :
    Con Tryd.prog n_ostiaryref01_Bytes #[.int .u64 n, .int .i64 k] w [] fun v Fs => ∃ A c, v = .slice A (be k n).length c ∧ (be k n).length ≤ c ∧ c ≤ maxLen ∧ Fs = [browF ty_uint8 A (be k n) c] := con_row (bytes_c w n k hn hk)
theorem tail_c (w : World) (n : Nat) (hn : n ≤ 140737488355328) :
    Con Tryd.prog n_ostiaryref01_Tail #[.int .u64 n] w [] fun v Fs => ∃ A c, v = .slice A (Sha.ends n).length c ∧ (Sha.ends n).length ≤ c ∧ c ≤ maxLen ∧ Fs = [browF ty_uint8 A (Sha.ends n) c] := by
  have g := good_ostiaryref01_Tail w (Un [])
  have hz : zeros n < 64 := by unfold zeros; omega
  refine con_of_sx (cx := cx_ostiaryref01_Tail w (Un [])) g b_ostiaryref01_Tail rfl rfl (β := Va.z) [.c (.v (.int .u64 n))] 0 [] [] rfl rfl (Sat.start rfl) ?_
  intro b0
  refine ⟨by decide, ((n % 64 : Nat) : Int), by rw [Int.tmod_eq_emod_of_nonneg (by omega)]; omega, ((n % 64 + 1 : Nat) : Int), by rw [wrap_u64']; omega, ?_⟩
  refine loop_rule (ι := Nat × Option Addr × Nat) 0 (fun i => [(0, .c (.v (.int .u64 n))), (4, .c (.v (.int .u64 ((n % 64 + 1 + i.1 : Nat) : Int)))), (3, .c (.v (.slice i.2.1 (i.1 + 1) i.2.2)))]) (fun _ => [])
    (fun i => [rowF ty_uint8 1 (.slice i.2.1 (i.1 + 1) i.2.2) (i.1 + 1) (((0x80 : UInt8) :: List.replicate i.1 0).map byte)])
    (fun i => i.1 ≤ zeros n ∧ i.1 + 1 ≤ i.2.2 ∧ i.2.2 ≤ maxLen) (fun i => zeros n - i.1) (0, some ⟨b0, 0, none⟩, 1) ⟨Nat.zero_le _, Nat.le_refl _, by show 1 ≤ maxLen; decide⟩ (Ent.same ⟨rfl, rfl, rfl, trivial⟩ rfl) g ?_
  rintro ⟨i, A, c⟩ ⟨hi, hc, hcm⟩
  simp only at hi hc hcm
  obtain ⟨r, hr⟩ : ∃ r : Nat, (n % 64 + 1 + i) % 64 = r := ⟨_, rfl⟩
  refine ⟨by decide, (r : Int), by dsimp only; rw [Int.tmod_eq_emod_of_nonneg (by omega)]; omega, ?_⟩
  refine BIf.not (BIf.dec (fun h0 => ?_) (fun h0 => ?_))
  · have hiz : i = zeros n := by unfold zeros at *; omega
    refine ⟨((8 * n : Nat) : Int), by rw [wrap_u64']; omega, ?_⟩
    refine call_con [] (fun β w' hs => be_con w' (8 * n) 8 (by omega) (by omega)) ?_
    rintro v Fs ⟨A2, c2, rfl, h1, h2, rfl⟩
    have hl : (Sha.ends n).length = i + 1 + 8 := by rw [Sha.ends_len, hiz]; omega
    refine ⟨1, i + 1, (Sha.ends n).length, _, (be 8 (8 * n)).map byte, (Sha.ends n).map byte, rfl, fun β w hs => row_rd (hs.get 0 rfl), bytes_one _, by rw [be_length]; exact hl.symm, by rw [← List.map_append, be8, hiz]; rfl, by rw [maxLen_eq, hl]; omega, by show (Sha.ends n).length * 1 ≤ _; omega, ?_⟩
    intro A' c' h3 h4 _
    intro β w' hs
    exact hs.fin [1] ⟨A', c', rfl, h3, h4, rfl⟩
  · have hiz : i < zeros n := by
      rcases Nat.lt_or_ge i (zeros n) with h | h
      · exact h
      · exfalso
        apply h0
        have : i = zeros n := by omega
        subst this
        unfold zeros at hr
        omega
    intro b2
    refine ⟨1, i + 1, i + 1 + 1, ((0x80 : UInt8) :: List.replicate i 0).map byte, [(0 : UInt8)].map byte, _, rfl, fun β w hs => row_rd (hs.get 0 rfl), bytes_one _, rfl, rfl, by rw [maxLen_eq]; omega, by show (i + 1 + 1) * 1 ≤ _; omega, ?_⟩
    intro A' c' h1 h2 _
    refine ⟨((n % 64 + 1 + (i + 1) : Nat) : Int), by dsimp only; rw [wrap_u64']; omega, ?_⟩
    refine ⟨(i + 1, A', c'), ⟨hiz, h1, h2⟩, by show zeros n - (i + 1) < zeros n - i; omega, Ent.mk' ⟨rfl, rfl, rfl, trivial⟩ rfl (fun β w' hs => ?_)⟩
    have h3 := hs.weaken (List.Sublist.refl _) (List.sublist_cons_self _ _)
    show Sat _ _ _ _ [rowF ty_uint8 1 (.slice A' (i + 1 + 1) c') (i + 1 + 1) (((0x80 : UInt8) :: List.replicate (i + 1) 0).map byte)] _
    rw [List.replicate_succ', ← List.cons_append, List.map_append]
    exact h3

theorem out_c (w : World) (s : S8) :
    Con Tryd.prog n_ostiaryref01_Out #[stV s] w [] fun v Fs => ∃ A c, v = .slice A 32 c ∧ 32 ≤ c ∧ c ≤ maxLen ∧ Fs = [browF ty_uint8 A (out s) c] := by
  have g := good_ostiaryref01_Out w (Un [])
  refine con_of_sx (cx := cx_ostiaryref01_Out w (Un [])) g b_ostiaryref01_Out rfl rfl (β := Va.z) [.agg (s.l.map sl32)] 0 [] [browF ty_uint8 none [] 0] rfl rfl ((Sat.start rfl).nilRow _ _) ?_
  refine loop_rule (ι := Nat × Option Addr × Nat) 1 (fun i => [(6, .agg (s.l.map sl32)), (7, .c (.v (.int .i64 i.1))), (3, .c (.v (.slice i.2.1 (4 * i.1) i.2.2)))]) (fun _ => [⟨0, 131, s.l.map sl32⟩])
    (fun i => [rowF ty_uint8 1 (.slice i.2.1 (4 * i.1) i.2.2) (4 * i.1) ((outN s i.1).map byte)])
    (fun i => i.1 ≤ 8 ∧ 4 * i.1 ≤ i.2.2 ∧ i.2.2 ≤ maxLen) (fun i => 8 - i.1) (0, none, 0) ⟨Nat.zero_le _, Nat.zero_le _, Nat.zero_le _⟩ (Ent.same ⟨rfl, rfl, rfl, trivial⟩ rfl) g ?_
  rintro ⟨i, A, c⟩ ⟨hi, hc, hcm⟩
  simp only at hi hc hcm
  refine BIf.dec (fun hlt => ?_) (fun hge => ?_)
  · have hlt : i < 8 := by omega
    obtain ⟨x, hx⟩ : ∃ x, s.l.getD i 0 = x := ⟨_, rfl⟩
    have hxl := x.toNat_lt
    refine ⟨i, sl32 x, rfl, hlt, by show (s.l.map sl32)[i * 1]? = _; rw [Nat.mul_one, ← hx]; exact l_get s i hlt, ?_⟩
    refine ⟨(x.toNat : Int), by rw [wrap_u64']; omega, ?_⟩
    refine call_con [] (fun β w' hs => be_con w' x.toNat 4 (by omega) (by omega)) ?_
    rintro v Fs ⟨A2, c2, rfl, h1, h2, rfl⟩
    refine ⟨1, 4 * i, 4 * (i + 1), (outN s i).map byte, (b4 x).map byte, _, rfl, fun β w hs => by rw [← be4]; exact row_rd (hs.get 0 rfl), bytes_one _, by rw [be_length]; omega, rfl, by rw [maxLen_eq]; omega, by show 4 * (i + 1) * 1 ≤ _; omega, ?_⟩
    intro A' c' h3 h4 _
    refine ⟨((i + 1 : Nat) : Int), by rw [wrap_i64 (by omega) (by omega)]; rfl, ?_⟩
    refine ⟨(i + 1, A', c'), ⟨by show i + 1 ≤ 8; omega, h3, h4⟩, by show 8 - (i + 1) < 8 - i; omega, Ent.mk' ⟨rfl, rfl, rfl, trivial⟩ rfl (fun β w' hs => ?_)⟩
    have e1 := outN_succ s i hlt
    rw [hx] at e1
    have h5 := hs.weaken (List.Sublist.refl _) (List.sublist_cons_self _ _)
    show Sat _ _ _ _ [rowF ty_uint8 1 (.slice A' (4 * (i + 1)) c') (4 * (i + 1)) ((outN s (i + 1)).map byte)] _
    rw [← e1, List.map_append]
    exact h5
  · obtain rfl : i = 8 := by omega
    intro β w' hs
    exact (hs.keepB (List.nil_sublist _)).fin [0] ⟨A, c, rfl, hc, hcm, rfl⟩
end Go.Proofs.YthkjfepbmnabkaaDoor.Sx

/- The document's step. -/
namespace Go.Proofs.YthkjfepbmnabkaaDoor.Sx
open Go Sha
attribute [local irreducible] Calls

theorem take4 (l : List UInt8) (k : Nat) (h : k + 4 ≤ l.length) : (l.drop k).take 4 = [l.getD k 0, l.getD (k + 1) 0, l.getD (k + 2) 0, l.getD (k + 3) 0] := by
  refine List.ext_getElem? fun j => ?_
  rw [List.getElem?_take]
  have g : ∀ j, j < 4 → (l.drop k)[j]? = some (l.getD (k + j) 0) := fun j hj => getD_drop l k j (by omega)
  match j with
  | 0 => simpa using g 0 (by omega)
  | 1 => simpa using g 1 (by omega)
  | 2 => simpa using g 2 (by omega)
  | 3 => simpa using g 3 (by omega)
  | n + 4 => simp; omega
theorem numB4 (a b c d : UInt8) : IntKind.u32.wrap (numB [a, b, c, d] : Int) = ((word a b c d).toNat : Int) := by
  have h1 := a.toNat_lt
  have h2 := b.toNat_lt
  have h3 := c.toNat_lt
  have h4 := d.toNat_lt
  have : numB [a, b, c, d] = a.toNat * 16777216 + b.toNat * 65536 + c.toNat * 256 + d.toNat := by
    simp only [numB, List.foldl_cons, List.foldl_nil]
    omega
  rw [this, wrap32_nat]
  rfl
theorem nxt_ac (a b c d : UInt32) : ((d + c) + b) + a = a + b + c + d := by ac_rfl

theorem odd_cell3 {g : Nat} {w : World} (h : (oddF g).p w) {i : Nat} (hi : i < 64) : w.cell? ((⟨g, 0, none⟩ : Addr).add (i * 1)) = some (u32 (K.getD i 0)) := odd_cell h hi
theorem rstep_c (w : World) (s : S8) (A : Option Addr) (l : List UInt8) (c : Nat) (hr : Bs w A l) (hk : (oddF 3).p w) (hc : l.length ≤ c) (hl : 64 ≤ l.length) (hm : c ≤ maxLen) :
    Pu Tryd.prog n_ostiaryref01_Step #[stV s, .slice A l.length c] w (stV (Sha.step s l)) := by
  have g := good_ostiaryref01_Step w (Un [])
  obtain ⟨ws, hws⟩ : ∃ ws, W l = ws := ⟨_, rfl⟩
  have hwl : ws.length = 64 := by rw [← hws]; exact W_len l
  have hst0 : Sha.step s l = s.add (rounds s ws 64) := by rw [Sha.step, hws]
  rw [hst0]
  have hs0 : Sat (cx_ostiaryref01_Step w (Un [])) Va.z 0 [] [oldF w] w := old_sat rfl
  have hs1 : Sat (cx_ostiaryref01_Step w (Un [])) Va.z 0 [] [bsF A l, oddF 3, oldF w] w := (hs0.sub 0 rfl rfl (oddF 3) rfl hk (rd_lt hk)).sub 1 rfl rfl (bsF A l) rfl hr (rd_lt hr)
  rw [maxLen_eq] at hm
  refine con_of_sx (cx := cx_ostiaryref01_Step w (Un [])) g b_ostiaryref01_Step rfl rfl (β := Va.z) [.agg (s.l.map sl32), .c (.v (.slice A l.length c))] 0 [] [bsF A l, oddF 3, oldF w] rfl rfl hs1 ?_
  have e0 : arr 64 [] = ti170.zero.map SL.v := by simp only [arr, List.nil_append, List.length_nil, List.map_replicate]; rfl
  refine loop_rule (ι := Nat) 3 (fun i => [(1, .c (.v (.slice A l.length c))), (2, .c (.p 0 0)), (4, .c (.p 1 0)), (5, .c (.p 2 0)), (6, .c (.v (.int .i64 i)))]) (fun i => [⟨2, 170, arr 64 (sched l i)⟩, ⟨1, 131, ti131.zero.map SL.v⟩, ⟨0, 131, s.l.map sl32⟩]) (fun _ => [bsF A l, oddF 3, oldF w])
    (fun i => i ≤ 64) (fun i => 64 - i) 0 (Nat.zero_le _) (Ent.mk' ⟨rfl, rfl, rfl, rfl, rfl, trivial⟩ rfl (fun β w' hs => by rw [show sched l 0 = [] from rfl, e0]; exact hs)) g ?_
  intro i hi
  refine BIf.dec (fun hlt => ?_) (fun hge => ?_)
  · have hlt : i < 64 := by omega
    have hsl : (sched l i).length = i := sched_len l i
    have ld : ∀ {k : Nat}, k < i → nth (arr 64 (sched l i)) (0 + k * 1) = some (sl32 ((sched l i).getD k 0)) := fun {k} hk => by
      rw [nth_eq, Nat.zero_add, Nat.mul_one]; exact arr_get (by omega)
    have fin : ∀ (x : UInt32), (if i < 16 then wordAt l i else nxt (sched l i) i) = x → putAll (arr 64 (sched l i)) (0 + i * 1) [sl32 x] = arr 64 (sched l (i + 1)) := fun x hx => by
      rw [putAll, putAll, putAt_eq, Nat.zero_add, Nat.mul_one]
      have := arr_set (n := 64) (ws := sched l i) (by omega) x
      rw [hsl] at this
      rw [this, sched, hx]
    have ble : Nat.ble (0 + i * 1 + 1) (arr 64 (sched l i)).length = true := by rw [arr_len (by omega), Nat.ble_eq]; omega
    refine BIf.dec (fun h16 => ?_) (fun h16 => ?_)
    · have h16 : i < 16 := by omega
      refine ⟨((4 * i : Nat) : Int), by rw [wrap_i64 (by omega) (by omega)]; omega, ((4 * i : Nat) : Int), by rw [wrap_i64 (by omega) (by omega)]; omega, ((4 * i + 4 : Nat) : Int), by rw [wrap_i64 (by omega) (by omega)]; omega, ?_⟩
      refine ⟨c, 4 * i + 4, 4 * i, 4, c - 4 * i, _, rfl, rfl, rfl, Nat.le_refl _, by omega, by omega, by omega, rfl, rfl, ?_⟩
      refine call_pu (fun β w' hs => pu_of (num_c w' (cutA A c (4 * i) 1) [l.getD (4 * i) 0, l.getD (4 * i + 1) 0, l.getD (4 * i + 2) 0, l.getD (4 * i + 3) 0] (c - 4 * i) ?_ (by show 4 ≤ lim; decide))) ?_
      · have h7 := Bs.cut (hs.get 0 rfl : Bs w' A l) (c := c) (m := c) (i := 4 * i) (j := 4 * i + 4) hc (.inl rfl) (by omega) (by omega) (Nat.le_refl _)
        rw [show 4 * i + 4 - 4 * i = 4 by omega, take4 l (4 * i) (by omega)] at h7
        exact h7
      refine ⟨_, numB4 _ _ _ _, i, rfl, by omega, ?_⟩
      conv => whnf
      generalize h1 : Nat.ble _ _ = b1
      obtain rfl : b1 = true := h1.symm.trans ble
      clear h1
      refine ⟨((i + 1 : Nat) : Int), by rw [wrap_i64 (by omega) (by omega)]; rfl, ?_⟩
      refine ⟨i + 1, by omega, by omega, Ent.mk' ⟨rfl, rfl, rfl, rfl, rfl, trivial⟩ rfl (fun β w' hs => ?_)⟩
      rw [← fin _ (if_pos h16)]
      exact hs
    · have h16 : ¬ i < 16 := by omega
      obtain ⟨xa, hxa⟩ : ∃ xa, (sched l i).getD (i - 15) 0 = xa := ⟨_, rfl⟩
      obtain ⟨xb, hxb⟩ : ∃ xb, (sched l i).getD (i - 2) 0 = xb := ⟨_, rfl⟩
      refine draw_rule g p_ostiaryref01_Step_7 (by kernel_rfl) _ _ Sub.refl ?_
      refine ⟨((i - 15 : Nat) : Int), by rw [wrap_i64 (by omega) (by omega)]; omega, i - 15, rfl, by omega, ?_⟩
      conv => whnf
      generalize hn : nth _ _ = o
      obtain rfl : o = some (sl32 xa) := hn.symm.trans (by rw [← hxa]; exact ld (by omega))
      clear hn
      refine ⟨((i - 15 : Nat) : Int), by rw [wrap_i64 (by omega) (by omega)]; omega, i - 15, rfl, by omega, ?_⟩
      conv => whnf
      generalize hn : nth _ _ = o
      obtain rfl : o = some (sl32 xa) := hn.symm.trans (by rw [← hxa]; exact ld (by omega))
      clear hn
      refine ⟨((i - 15 : Nat) : Int), by rw [wrap_i64 (by omega) (by omega)]; omega, i - 15, rfl, by omega, ?_⟩
      conv => whnf
      generalize hn : nth _ _ = o
      obtain rfl : o = some (sl32 xa) := hn.symm.trans (by rw [← hxa]; exact ld (by omega))
      clear hn
      refine ⟨by omega, _, shr32 xa 3 (by omega), ?_⟩
      refine call_pu (fun β w' hs => turn_c w' xa 7 (by omega) (by omega)) ?_
      refine ⟨Sub.refl, ?_⟩
      refine call_pu (fun β w' hs => turn_c w' xa 18 (by omega) (by omega)) ?_
      refine ⟨Sub.refl, _, xor32 _ _, _, xor32 _ _, ?_⟩
      refine draw_rule g p_ostiaryref01_Step_8 (by kernel_rfl) _ _ Sub.refl ?_
      refine ⟨((i - 2 : Nat) : Int), by rw [wrap_i64 (by omega) (by omega)]; omega, i - 2, rfl, by omega, ?_⟩
      conv => whnf
      generalize hn : nth _ _ = o
      obtain rfl : o = some (sl32 xb) := hn.symm.trans (by rw [← hxb]; exact ld (by omega))
      clear hn
      refine ⟨((i - 2 : Nat) : Int), by rw [wrap_i64 (by omega) (by omega)]; omega, i - 2, rfl, by omega, ?_⟩
      conv => whnf
      generalize hn : nth _ _ = o
      obtain rfl : o = some (sl32 xb) := hn.symm.trans (by rw [← hxb]; exact ld (by omega))
      clear hn
      refine ⟨((i - 2 : Nat) : Int), by rw [wrap_i64 (by omega) (by omega)]; omega, i - 2, rfl, by omega, ?_⟩
      conv => whnf
      generalize hn : nth _ _ = o
      obtain rfl : o = some (sl32 xb) := hn.symm.trans (by rw [← hxb]; exact ld (by omega))
      clear hn
      refine ⟨by omega, _, shr32 xb 10 (by omega), ?_⟩
      refine call_pu (fun β w' hs => turn_c w' xb 17 (by omega) (by omega)) ?_
      refine ⟨Sub.refl, ?_⟩
      refine call_pu (fun β w' hs => turn_c w' xb 19 (by omega) (by omega)) ?_
      refine ⟨Sub.refl, _, xor32 _ _, _, xor32 _ _, ?_⟩
      refine draw_rule g p_ostiaryref01_Step_9 (by kernel_rfl) _ _ Sub.refl ?_
      refine ⟨((i - 7 : Nat) : Int), by rw [wrap_i64 (by omega) (by omega)]; omega, i - 7, rfl, by omega, ?_⟩
      conv => whnf
      generalize hn : nth _ _ = o
      obtain rfl : o = some (sl32 ((sched l i).getD (i - 7) 0)) := hn.symm.trans (ld (by omega))
      clear hn
      refine ⟨_, add32 _ _, _, add32 _ _, ?_⟩
      refine ⟨((i - 16 : Nat) : Int), by rw [wrap_i64 (by omega) (by omega)]; omega, i - 16, rfl, by omega, ?_⟩
      conv => whnf
      generalize hn : nth _ _ = o
      obtain rfl : o = some (sl32 ((sched l i).getD (i - 16) 0)) := hn.symm.trans (ld (by omega))
      clear hn
      refine ⟨_, add32 _ _, i, rfl, by omega, ?_⟩
      conv => whnf
      generalize h1 : Nat.ble _ _ = b1
      obtain rfl : b1 = true := h1.symm.trans ble
      clear h1
      refine ⟨((i + 1 : Nat) : Int), by rw [wrap_i64 (by omega) (by omega)]; rfl, ?_⟩
      refine ⟨i + 1, by omega, by omega, Ent.mk' ⟨rfl, rfl, rfl, rfl, rfl, trivial⟩ rfl (fun β w' hs => ?_)⟩
      rw [← fin (((s1 xb + (sched l i).getD (i - 7) 0) + s0 xa) + (sched l i).getD (i - 16) 0) (by rw [if_neg h16, nxt, hxa, hxb, nxt_ac])]
      exact hs
  · have e2 : arr 64 (sched l i) = ws.map sl32 := by
      have hi64 : i = 64 := by omega
      rw [← hws, hi64]
      exact arr_full (sched_len l 64)
    clear hge hi
    rw [e2]
    clear e2
    have ldw : ∀ {k : Nat}, k < 64 → nth (ws.map sl32) (0 + k * 1) = some (sl32 (ws.getD k 0)) := fun {k} hk => by
      rw [nth_eq, Nat.zero_add, Nat.mul_one, List.getElem?_map, List.getElem?_eq_getElem (by omega)]
      simp [List.getD, List.getElem?_eq_getElem (show k < ws.length by omega)]
    refine loop_rule (ι := Nat) 4 (fun i => [(2, .c (.p 0 0)), (4, .c (.p 1 0)), (5, .c (.p 2 0)), (9, .c (.p 3 0)), (10, .c (.v (.int .i64 i)))]) (fun i => [⟨3, 131, (rounds s ws i).l.map sl32⟩, ⟨2, 170, ws.map sl32⟩, ⟨1, 131, ti131.zero.map SL.v⟩, ⟨0, 131, s.l.map sl32⟩]) (fun _ => [bsF A l, oddF 3, oldF w])
      (fun i => i ≤ 64) (fun i => 64 - i) 0 (Nat.zero_le _) (Ent.same ⟨rfl, rfl, rfl, rfl, rfl, trivial⟩ rfl) g ?_
    intro j hj
    obtain ⟨r, hr⟩ : ∃ r, rounds s ws j = r := ⟨_, rfl⟩
    rw [hr]
    obtain ⟨xa, xb, xc, xd, xe, xf, xg, xh⟩ := r
    refine BIf.dec (fun hlt => ?_) (fun hge => ?_)
    · have hlt : j < 64 := by omega
      refine ⟨4, rfl, by decide, ?_⟩
      refine draw_rule g p_ostiaryref01_Step_15 (by kernel_rfl) _ _ Sub.refl ?_
      refine ⟨7, rfl, by decide, 5, rfl, by decide, _, and32 _ _, _, not32 _, 6, rfl, by decide, _, and32 _ _, _, xor32 _ _, ?_⟩
      refine ⟨j, rfl, hlt, u32 (K.getD j 0), fun β w' hs => odd_cell3 (hs.get 1 rfl) hlt, j, rfl, hlt, ?_⟩
      conv => whnf
      generalize hn : nth _ _ = o
      obtain rfl : o = some (sl32 (ws.getD j 0)) := hn.symm.trans (ldw hlt)
      clear hn
      refine call_pu (fun β w' hs => turn_c w' xe 6 (by omega) (by omega)) ?_
      refine ⟨Sub.refl, ?_⟩
      refine call_pu (fun β w' hs => turn_c w' xe 11 (by omega) (by omega)) ?_
      refine ⟨Sub.refl, _, xor32 _ _, ?_⟩
      refine call_pu (fun β w' hs => turn_c w' xe 25 (by omega) (by omega)) ?_
      refine ⟨Sub.refl, _, xor32 _ _, _, add32 _ _, _, add32 _ _, _, add32 _ _, _, add32 _ _, ?_⟩
      refine ⟨0, rfl, by decide, ?_⟩
      refine draw_rule g p_ostiaryref01_Step_17 (by kernel_rfl) _ _ Sub.refl ?_
      refine ⟨1, rfl, by decide, _, and32 _ _, 2, rfl, by decide, _, and32 _ _, _, xor32 _ _, 1, rfl, by decide, 2, rfl, by decide, _, and32 _ _, _, xor32 _ _, ?_⟩
      refine call_pu (fun β w' hs => turn_c w' xa 2 (by omega) (by omega)) ?_
      refine ⟨Sub.refl, ?_⟩
      refine call_pu (fun β w' hs => turn_c w' xa 13 (by omega) (by omega)) ?_
      refine ⟨Sub.refl, _, xor32 _ _, ?_⟩
      refine call_pu (fun β w' hs => turn_c w' xa 22 (by omega) (by omega)) ?_
      refine ⟨Sub.refl, _, xor32 _ _, _, add32 _ _, ?_⟩
      refine ⟨_, add32 _ _, 0, rfl, by decide, 1, rfl, by decide, 2, rfl, by decide, 3, rfl, by decide, _, add32 _ _, 4, rfl, by decide, 5, rfl, by decide, 6, rfl, by decide, ?_⟩
      refine ⟨((j + 1 : Nat) : Int), by rw [wrap_i64 (by omega) (by omega)]; rfl, ?_⟩
      refine ⟨j + 1, by omega, by omega, Ent.mk' ⟨rfl, rfl, rfl, rfl, rfl, trivial⟩ rfl (fun β w' hs => ?_)⟩
      have e1 : (rounds s ws (j + 1)).l.map sl32 = (⟨(⟨xa, xb, xc, xd, xe, xf, xg, xh⟩ : S8).x (K.getD j 0) (ws.getD j 0) + ((⟨xa, xb, xc, xd, xe, xf, xg, xh⟩ : S8).y + (⟨xa, xb, xc, xd, xe, xf, xg, xh⟩ : S8).z), xa, xb, xc, xd + (⟨xa, xb, xc, xd, xe, xf, xg, xh⟩ : S8).x (K.getD j 0) (ws.getD j 0), xe, xf, xg⟩ : S8).l.map sl32 := by
        rw [rounds_succ, hr, S8.round, UInt32.add_assoc]
      rw [e1]
      exact hs
    · obtain ⟨t, ht⟩ : ∃ t, (⟨xa, xb, xc, xd, xe, xf, xg, xh⟩ : S8) = t := ⟨_, rfl⟩
      have hst : rounds s ws 64 = t := by
        have : j = 64 := by omega
        rw [← ht, ← hr, this]
      rw [hst, ht]
      clear hst ht hr hge hj
      refine loop_rule (ι := Nat) 4 (fun i => [(2, .c (.p 0 0)), (4, .c (.p 1 0)), (9, .c (.p 3 0)), (165, .c (.v (.int .i64 i)))]) (fun i => [⟨3, 131, t.l.map sl32⟩, ⟨2, 170, ws.map sl32⟩, ⟨1, 131, ti131.zero.map SL.v⟩, ⟨0, 131, mix s t i⟩]) (fun _ => [bsF A l, oddF 3, oldF w])
        (fun i => i ≤ 8) (fun i => 8 - i) 0 (Nat.zero_le _) (Ent.same ⟨rfl, rfl, rfl, rfl, trivial⟩ rfl) g ?_
      intro j hj
      refine BIf.dec (fun hlt => ?_) (fun hge => ?_)
      · have hlt : j < 8 := by omega
        refine draw_rule g p_ostiaryref01_Step_22 (by kernel_rfl) _ _ Sub.refl ?_
        refine ⟨j, rfl, hlt, ?_⟩
        conv => whnf
        generalize hn : nth _ _ = o
        obtain rfl : o = some (sl32 (s.l.getD j 0)) := hn.symm.trans (by
          show nth (mix s t j) (0 + j * 1) = _
          rw [Nat.zero_add, Nat.mul_one]
          exact mix_get s t j hlt)
        clear hn
        refine ⟨j, rfl, hlt, ?_⟩
        conv => whnf
        generalize hn : nth _ _ = o
        obtain rfl : o = some (sl32 (t.l.getD j 0)) := hn.symm.trans (by
          show nth (t.l.map sl32) (0 + j * 1) = _
          rw [Nat.zero_add, Nat.mul_one, nth_eq]
          exact l_get t j hlt)
        clear hn
        refine ⟨_, add32 _ _, j, rfl, hlt, ?_⟩
        conv => whnf
        generalize h1 : Nat.ble _ _ = b1
        obtain rfl : b1 = true := h1.symm.trans (by
          show Nat.ble (0 + j * 1 + 1) (mix s t j).length = true
          rw [mix_len s t j (by omega), Nat.ble_eq]; omega)
        clear h1
        refine ⟨((j + 1 : Nat) : Int), by rw [wrap_i64 (by omega) (by omega)]; rfl, ?_⟩
        refine ⟨j + 1, by omega, by omega, Ent.mk' ⟨rfl, rfl, rfl, rfl, trivial⟩ rfl (fun β w' hs => ?_)⟩
        have e3 : 0 + j * 1 = j := by omega
        rw [← mix_set s t j hlt]
        have hs2 : Sat (cx_ostiaryref01_Step w (Un [])) β 4 [⟨3, 131, t.l.map sl32⟩, ⟨2, 170, ws.map sl32⟩, ⟨1, 131, ti131.zero.map SL.v⟩, ⟨0, 131, putAll (mix s t j) (0 + j * 1) [sl32 (s.l.getD j 0 + t.l.getD j 0)]⟩] [bsF A l, oddF 3, oldF w] w' := hs
        rw [e3] at hs2
        exact hs2
      · obtain rfl : j = 8 := by omega
        intro β w' hs
        exact hs.fin [] ⟨rfl, rfl⟩
end Go.Proofs.YthkjfepbmnabkaaDoor.Sx

/- The document's sum. -/
namespace Go.Proofs.YthkjfepbmnabkaaDoor.Sx
open Go Sha
attribute [local irreducible] Calls

theorem rstep64_c (w : World) (s : S8) (A : Option Addr) (x : List UInt8) (c : Nat) (hx : x.length = 64) (hr : Bs w A x) (hk : (oddF 3).p w) (hc : 64 ≤ c) (hm : c ≤ maxLen) :
    Pu Tryd.prog n_ostiaryref01_Step #[stV s, .slice A 64 c] w (stV (Sha.step s x)) := by
  have := rstep_c w s A x c hr hk (by omega) (by omega) hm
  rw [hx] at this
  exact this
theorem rgo_c (w : World) (s : S8) (A : Option Addr) (l : List UInt8) (c : Nat) (hr : Bs w A l) (hk : (oddF 3).p w) (hc : l.length ≤ c) (hm : c ≤ maxLen) :
    Con Tryd.prog n_ostiaryref01_Go #[stV s, .slice A l.length c] w [] fun v Fs => ∃ A' n' c', v = .tuple #[stV (go (l.length / 64) s l), .slice A' n' c'] ∧ Fs = [] := by
  have g := good_ostiaryref01_Go w (Un [])
  rw [go_eq]
  have hs0 : Sat (cx_ostiaryref01_Go w (Un [])) Va.z 0 [] [oldF w] w := old_sat rfl
  have hs1 : Sat (cx_ostiaryref01_Go w (Un [])) Va.z 0 [] [bsF A l, oddF 3, oldF w] w := (hs0.sub 0 rfl rfl (oddF 3) rfl hk (rd_lt hk)).sub 1 rfl rfl (bsF A l) rfl hr (rd_lt hr)
  have hm' := hm
  rw [maxLen_eq] at hm'
  refine con_of_sx (cx := cx_ostiaryref01_Go w (Un [])) g b_ostiaryref01_Go rfl rfl (β := Va.z) [.agg (s.l.map sl32), .c (.v (.slice A l.length c))] 0 [] [bsF A l, oddF 3, oldF w] rfl rfl hs1 ?_
  refine loop_rule (ι := Nat × Option Addr × Nat) 2 (fun i => [(1, .c (.v (.slice i.2.1 (l.length - 64 * i.1) i.2.2))), (2, .c (.p 0 0)), (4, .c (.p 1 0))]) (fun i => [⟨1, 131, ti131.zero.map SL.v⟩, ⟨0, 131, ((blks l i.1).foldl Sha.step s).l.map sl32⟩]) (fun _ => [bsF A l, oddF 3, oldF w])
    (fun i => 64 * i.1 ≤ l.length ∧ l.length - 64 * i.1 ≤ i.2.2 ∧ i.2.2 ≤ 9223372036854775807 ∧ (∀ w, Bs w A l → Bs w i.2.1 (l.drop (64 * i.1)))) (fun i => l.length - 64 * i.1) (0, A, c)
    ⟨Nat.zero_le _, hc, hm', fun w h => h⟩ (Ent.same ⟨rfl, rfl, rfl, trivial⟩ rfl) g ?_
  rintro ⟨i, B, cap⟩ ⟨hi, hcap, hcm, hB⟩
  simp only at hi hcap hcm hB
  obtain ⟨m, hm2⟩ : ∃ m, l.length - 64 * i = m := ⟨_, rfl⟩
  have hmc : m ≤ cap := by omega
  rw [hm2]
  have hdl : (l.drop (64 * i)).length = m := by rw [List.length_drop]; omega
  obtain ⟨st, hst⟩ : ∃ st, (blks l i).foldl Sha.step s = st := ⟨_, rfl⟩
  rw [hst]
  refine BIf.dec (fun h0 => ?_) (fun h0 => ?_)
  · have hm64 : 64 ≤ m := by omega
    have hbl : (blk l i).length = 64 := by unfold blk; rw [List.length_take, hdl]; omega
    have hS : ∀ {H : List Bk} {n : Nat}, Sub (cx_ostiaryref01_Go w (Un [])) n H [bsF A l, oddF 3, oldF w] [] [bsF A l, oddF 3, oldF w] := fun {H n} => Sub.of (List.nil_sublist _) (List.Sublist.refl _)
    refine draw_rule g p_ostiaryref01_Go_2 (by kernel_rfl) [] [bsF A l, oddF 3, oldF w] hS ?_
    refine ⟨cap, 64, 0, 64, cap, _, rfl, rfl, rfl, Nat.le_refl _, by show 64 ≤ cap; omega, by omega, rfl, rfl, rfl, ?_⟩
    refine ⟨cap, m, 64, m - 64, cap - 64, _, rfl, rfl, rfl, Nat.le_refl _, hmc, hm64, rfl, rfl, rfl, ?_⟩
    refine ⟨hS, ?_⟩
    refine call_pu (fun β w' hs => rstep64_c w' st (cutA B cap 0 1) (blk l i) cap hbl ?_ (hs.get 1 rfl) (by omega) (by rw [maxLen_eq]; exact hcm)) ?_
    · have h7 := Bs.cut (hB w' (hs.get 0 rfl)) (c := cap) (m := cap) (i := 0) (j := 64) (by omega) (.inl rfl) (by omega) (by omega) (by omega)
      have h8 : Rd 1 (cutA B cap 0 1) (blk l i).length ((blk l i).map byte) w' := by rw [hbl]; exact h7
      exact h8
    refine ⟨hS, ?_⟩
    refine ⟨hS, ?_⟩
    refine ⟨(i + 1, cutA B cap 64 1, cap - 64), ⟨by show 64 * (i + 1) ≤ _; omega, by show l.length - 64 * (i + 1) ≤ cap - 64; omega, by show cap - 64 ≤ _; omega, fun w' h => ?_⟩, by show l.length - 64 * (i + 1) < m; omega, Ent.mk' ⟨?_, rfl, rfl, trivial⟩ rfl (fun β w' hs => ?_)⟩
    · have h7 := Bs.cutB (hB w' h) (c := cap) (i := 64) (j := m) (m := l.drop (64 * (i + 1))) (by omega) hm64 (by omega) (by
        rw [List.drop_drop, show 64 * i + 64 = 64 * (i + 1) by omega, List.take_of_length_le]
        rw [List.length_drop]; omega)
      exact h7
    · show _ = some (SV.c (.v (.slice _ (l.length - 64 * (i + 1)) _)))
      rw [show l.length - 64 * (i + 1) = m - 64 by omega]
      rfl
    · rw [blks_succ, List.foldl_append, hst]
      exact hs
  · have hi2 : i = l.length / 64 := by omega
    intro β w' hs
    rw [← hi2, hst]
    exact hs.fin [] ⟨B, m, cap, rfl, rfl⟩

theorem rsum_c (w : World) (A : Option Addr) (l : List UInt8) (c : Nat) (hr : Bs w A l) (hk : (oddF 3).p w) (hn : l.length ≤ 70368744177664) :
    Con Tryd.prog n_ostiaryref01_Sum #[.slice A l.length c] w [] fun v Fs => ∃ A' c', v = .slice A' 32 c' ∧ 32 ≤ c' ∧ c' ≤ maxLen ∧ Fs = [browF ty_uint8 A' (Sha.sum l) c'] := by
  have g := good_ostiaryref01_Sum w (Un [])
  have hs0 : Sat (cx_ostiaryref01_Sum w (Un [])) Va.z 0 [] [oldF w] w := old_sat rfl
  have hs1 : Sat (cx_ostiaryref01_Sum w (Un [])) Va.z 0 [] [bsF A l, oddF 3, oldF w] w := (hs0.sub 0 rfl rfl (oddF 3) rfl hk (rd_lt hk)).sub 1 rfl rfl (bsF A l) rfl hr (rd_lt hr)
  refine con_of_sx (cx := cx_ostiaryref01_Sum w (Un [])) g b_ostiaryref01_Sum rfl rfl (β := Va.z) [.c (.v (.slice A l.length c))] 0 [] [bsF A l, oddF 3, oldF w] rfl rfl hs1 ?_
  obtain ⟨q, hq⟩ : ∃ q, l ++ ends l.length = q := ⟨_, rfl⟩
  have hql : q.length = l.length + (ends l.length).length := by rw [← hq, List.length_append]
  have hel : (ends l.length).length < 73 := by rw [Sha.ends_len]; unfold zeros; omega
  have hsum : Sha.sum l = out (go (q.length / 64) Sha.first q) := by rw [← hq]; rfl
  rw [hsum]
  refine call_pu (fun β w' hs => first_c w') ?_
  intro b
  refine ⟨0, 0, l.length, [], l.map byte, _, rfl, fun β w' hs => hs.get 1 rfl, bytes_one l, Nat.zero_add _, rfl, by rw [maxLen_eq]; omega, by show l.length * 1 ≤ _; omega, ?_⟩
  intro A1 c1 h1 h2 _
  refine ⟨(l.length : Int), by rw [wrap_u64']; omega, ?_⟩
  refine call_con [] (fun β w' hs => tail_c w' l.length (by omega)) ?_
  rintro v Fs ⟨A2, c2, rfl, h3, h4, rfl⟩
  refine ⟨1, l.length, q.length, _, (ends l.length).map byte, q.map byte, rfl, fun β w hs => row_rd (hs.get 0 rfl), bytes_one _, hql.symm, by rw [← hq, List.map_append]; rfl, by rw [maxLen_eq]; omega, by show q.length * 1 ≤ _; omega, ?_⟩
  intro A3 c3 h5 h6 _
  refine call_con [] (fun β w' hs => rgo_c w' Sha.first A3 q c3 (row_rd (hs.get 1 rfl)) (hs.get 3 rfl) h5 h6) ?_
  rintro v Fs ⟨A4, n4, c4, rfl, rfl⟩
  generalize go (q.length / 64) Sha.first q = st
  refine call_con [] (fun β w' hs => out_c w' st) ?_
  rintro v Fs ⟨A5, c5, rfl, h7, h8, rfl⟩
  intro β w' hs
  exact (hs.keepB (List.nil_sublist _)).fin [0] ⟨A5, c5, rfl, h7, h8, rfl⟩
end Go.Proofs.YthkjfepbmnabkaaDoor.Sx

/- Nobody's secret: one of its sums. -/
namespace Go.Proofs.YthkjfepbmnabkaaDoor.Sx
open Go Sha
attribute [local irreducible] Calls

def bl_ (s : ByteArray) : List UInt8 := s.data.toList
theorem bl_app (s t : ByteArray) : bl_ (s ++ t) = bl_ s ++ bl_ t := by simp [bl_]
theorem bl_len (s : ByteArray) : (bl_ s).length = s.size := by simp [bl_]
def sp : ByteArray := ⟨#[32]⟩
def dtext (what t u : ByteArray) : ByteArray := what ++ sp ++ t ++ sp ++ u
theorem sz_app (s t : ByteArray) : (s ++ t).size = s.size + t.size := ByteArray.size_append
theorem dtext_size (what t u : ByteArray) : (dtext what t u).size = what.size + t.size + u.size + 2 := by
  have h : sp.size = 1 := rfl
  simp only [dtext, sz_app, h]; omega
/-- A block of one cell, read behind. -/
theorem old_cell {W w : World} {b ty : Nat} {v : Value} (h : W.heap[b]? = some (.cells #[v] ty (0, 0))) (ho : (oldF W).p w) : w.cell? ⟨b, 0, none⟩ = some v := by
  have hb : b < W.heap.size := (Array.getElem?_eq_some_iff.1 h).1
  have h2 := ho b hb
  rw [h] at h2
  rw [cell_of_row w b 0 _ _ _ h2]
  rfl

theorem of_c (w : World) (what t u : ByteArray) (b5 b6 : Nat) (h5 : w.heap[b5]? = some (.cells #[.string t] 9 (0, 0))) (h6 : w.heap[b6]? = some (.cells #[.string u] 9 (0, 0))) (hs : what.size + t.size + u.size ≤ 1000) (h1 : (oddF 1).p w) (h0 : (firstF 0).p w) :
    Con Tryd.prog n_proof_Dummy_1 #[.string what, .pointer (some ⟨b5, 0, none⟩), .pointer (some ⟨b6, 0, none⟩)] w [] fun v Fs => ∃ A c, v = .slice A 32 c ∧ 32 ≤ c ∧ c ≤ maxLen ∧ Fs = [browF ty_uint8 A (Sha.sum (bl_ (dtext what t u))) c] := by
  have g := good_proof_Dummy_1 w (Un [])
  have hsp : sp.size = 1 := rfl
  refine con_of_sx (cx := cx_proof_Dummy_1 w (Un [])) g b_proof_Dummy_1 rfl rfl (β := Va.z) [.c (.v (.string what)), .c (.v (.pointer (some ⟨b5, 0, none⟩))), .c (.v (.pointer (some ⟨b6, 0, none⟩)))] 0 [] [oldF w] rfl rfl (old_sat rfl) ?_
  refine ⟨by show what.size + sp.size ≤ maxLen; rw [maxLen_eq]; omega, .string t, fun β w' hs' => old_cell h5 (hs'.get 0 rfl), ?_⟩
  refine ⟨by show (what ++ sp).size + t.size ≤ maxLen; rw [maxLen_eq, sz_app]; omega, by show (what ++ sp ++ t).size + sp.size ≤ maxLen; rw [maxLen_eq, sz_app, sz_app]; omega, .string u, fun β w' hs' => old_cell h6 (hs'.get 0 rfl), ?_⟩
  refine ⟨by show (what ++ sp ++ t ++ sp).size + u.size ≤ maxLen; rw [maxLen_eq, sz_app, sz_app, sz_app]; omega, ?_⟩
  have hsz0 := dtext_size what t u
  have hds : what ++ (⟨#[32]⟩ : ByteArray) ++ t ++ (⟨#[32]⟩ : ByteArray) ++ u = dtext what t u := rfl
  rw [hds]
  generalize dtext what t u = s at hsz0 ⊢
  clear hds
  intro b c hc1 hc2 b2
  have hsm : s.size ≤ maxLen := by rw [maxLen_eq]; omega
  refine call_con [] (fun β w' hs' => sum1_c w' (some ⟨b2, 0, none⟩) (some ⟨b, 0, none⟩) 1 c (bl_ s) (row_rd (hs'.get 0 rfl)) (hs'.get 1 rfl) (by rw [bl_len]; omega) (Rd.old h1 (hs'.get 2 rfl)) (Rd.old h0 (hs'.get 2 rfl))) ?_
  rintro v Fs ⟨A3, c3, rfl, h3, h4, rfl⟩
  intro β w' hs'
  exact hs'.fin [0] ⟨A3, c3, rfl, h3, h4, rfl⟩
end Go.Proofs.YthkjfepbmnabkaaDoor.Sx

/- Nobody's secret. -/
namespace Go.Proofs.YthkjfepbmnabkaaDoor.Sx
open Go Sha
attribute [local irreducible] Calls

def lit (l : List UInt8) : ByteArray := ⟨l.toArray⟩
def w_salt : ByteArray := ⟨#[115, 97, 108, 116]⟩
def w_stored : ByteArray := ⟨#[115, 116, 111, 114, 101, 100]⟩
def w_server : ByteArray := ⟨#[115, 101, 114, 118, 101, 114]⟩
def w_ha1 : ByteArray := ⟨#[104, 97, 49]⟩
def itOf (i : Int) : Int := if i < 1 ∨ 64 < i then 1 else i
/-- What nobody's secret is, in memory. -/
def dumOut (t u : ByteArray) (i : Int) (v : Value) (Fs : List Fact) : Prop :=
  ∃ A0 c0 cs A1 c1 A2 c2 A3 c3, v = .agg #[.slice (cutA A0 16 0 1) 16 cs, .int .i64 (itOf i), .slice A1 32 c1, .slice A2 32 c2, .slice A3 32 c3] ∧ 16 ≤ cs ∧ cs ≤ maxLen ∧ 32 ≤ c0 ∧ c0 ≤ maxLen ∧ 32 ≤ c1 ∧ c1 ≤ maxLen ∧ 32 ≤ c2 ∧ c2 ≤ maxLen ∧ 32 ≤ c3 ∧ c3 ≤ maxLen ∧
    Fs = [browF ty_uint8 A3 (Sha.sum (bl_ (dtext w_ha1 t u))) c3, browF ty_uint8 A2 (Sha.sum (bl_ (dtext w_server t u))) c2, browF ty_uint8 A1 (Sha.sum (bl_ (dtext w_stored t u))) c1, browF ty_uint8 A0 (Sha.sum (bl_ (dtext w_salt t u))) c0]

def dumOutJ (t u : ByteArray) (j : Int) (v : Value) (Fs : List Fact) : Prop :=
  ∃ B c0 cs A1 c1 A2 c2 A3 c3, v = .agg #[.slice (cutA B 16 0 1) 16 cs, .int .i64 j, .slice A1 32 c1, .slice A2 32 c2, .slice A3 32 c3] ∧ 16 ≤ cs ∧ cs ≤ maxLen ∧ 32 ≤ c0 ∧ c0 ≤ maxLen ∧ 32 ≤ c1 ∧ c1 ≤ maxLen ∧ 32 ≤ c2 ∧ c2 ≤ maxLen ∧ 32 ≤ c3 ∧ c3 ≤ maxLen ∧
    Fs = [browF ty_uint8 A3 (Sha.sum (bl_ (dtext w_ha1 t u))) c3, browF ty_uint8 A2 (Sha.sum (bl_ (dtext w_server t u))) c2, browF ty_uint8 A1 (Sha.sum (bl_ (dtext w_stored t u))) c1, browF ty_uint8 B (Sha.sum (bl_ (dtext w_salt t u))) c0]
theorem dumOut_it {t u : ByteArray} {i j : Int} (h : itOf i = j) : dumOut t u i = dumOutJ t u j := by subst h; rfl
theorem dummy_c (w : World) (ad : Addr) (t u : ByteArray) (i : Int) (hs : t.size + u.size ≤ 900) (h1 : (oddF 1).p w) (h0 : (firstF 0).p w) :
    Con Tryd.prog n_proof_Dummy #[.pointer (some ad), .string t, .string u, .int .i64 i] w [] (dumOut t u i) := by
  have g := good_proof_Dummy w (Un [])
  refine con_of_sx (cx := cx_proof_Dummy w (Un [])) g b_proof_Dummy rfl rfl (β := Va.z) [.c (.v (.pointer (some ad))), .c (.v (.string t)), .c (.v (.string u)), .c (.v (.int .i64 i))] 0 [] [oldF w] rfl rfl (old_sat rfl) ?_
  refine BIf.dec (fun hlt => ?_) (fun hge => ?_)
  · have hit : itOf i = 1 := if_pos (.inl hlt)
    rw [dumOut_it hit]
    refine draw_rule g p_proof_Dummy_6 (by kernel_rfl) [] [] (Sub.of (List.nil_sublist _) (List.nil_sublist _)) ?_
    refine call_con [] (fun β w' hs' => of_c w' w_salt t u (β 0) (β 1) (hs'.blk ⟨0, 9, [.v (.string t)]⟩ (by simp)) (hs'.blk ⟨1, 9, [.v (.string u)]⟩ (by simp)) (by show 4 + _ + _ ≤ 1000; omega) (Rd.old h1 (hs'.get 0 rfl)) (Rd.old h0 (hs'.get 0 rfl))) ?_
    rintro v Fs ⟨A0, c0, rfl, q1, q2, rfl⟩
    refine ⟨Sub.of (List.nil_sublist _) (List.nil_sublist _), ?_⟩
    refine ⟨16, 16, 0, 16, 16, _, rfl, rfl, rfl, by omega, by omega, by omega, rfl, rfl, rfl, ?_⟩
    refine call_con [] (fun β w' hs' => of_c w' w_stored t u (β 0) (β 1) (hs'.blk ⟨0, 9, [.v (.string t)]⟩ (by simp)) (hs'.blk ⟨1, 9, [.v (.string u)]⟩ (by simp)) (by show 6 + _ + _ ≤ 1000; omega) (Rd.old h1 (hs'.get 1 rfl)) (Rd.old h0 (hs'.get 1 rfl))) ?_
    rintro v Fs ⟨A1, c1, rfl, q3, q4, rfl⟩
    refine ⟨Sub.of (List.nil_sublist _) (List.nil_sublist _), ?_⟩
    refine call_con [] (fun β w' hs' => of_c w' w_server t u (β 0) (β 1) (hs'.blk ⟨0, 9, [.v (.string t)]⟩ (by simp)) (hs'.blk ⟨1, 9, [.v (.string u)]⟩ (by simp)) (by show 6 + _ + _ ≤ 1000; omega) (Rd.old h1 (hs'.get 2 rfl)) (Rd.old h0 (hs'.get 2 rfl))) ?_
    rintro v Fs ⟨A2, c2, rfl, q5, q6, rfl⟩
    refine ⟨Sub.of (List.nil_sublist _) (List.nil_sublist _), ?_⟩
    refine call_con [] (fun β w' hs' => of_c w' w_ha1 t u (β 0) (β 1) (hs'.blk ⟨0, 9, [.v (.string t)]⟩ (by simp)) (hs'.blk ⟨1, 9, [.v (.string u)]⟩ (by simp)) (by show 3 + _ + _ ≤ 1000; omega) (Rd.old h1 (hs'.get 3 rfl)) (Rd.old h0 (hs'.get 3 rfl))) ?_
    rintro v Fs ⟨A3, c3, rfl, q7, q8, rfl⟩
    refine ⟨Sub.of (List.nil_sublist _) (List.nil_sublist _), ?_⟩
    refine ⟨Sub.of (List.nil_sublist _) (List.nil_sublist _), ?_⟩
    intro β w' hs'
    exact (hs'.keepB (List.nil_sublist _)).fin [0, 1, 2, 3] ⟨A0, c0, 16, A1, c1, A2, c2, A3, c3, rfl, by omega, by decide, q1, q2, q3, q4, q5, q6, q7, q8, rfl⟩ rfl rfl rfl ⟨rfl, rfl, rfl, rfl, trivial⟩
  refine BIf.dec (fun hgt => ?_) (fun hle => ?_)
  · have hit : itOf i = 1 := if_pos (.inr hgt)
    rw [dumOut_it hit]
    refine draw_rule g p_proof_Dummy_6 (by kernel_rfl) [] [] (Sub.of (List.nil_sublist _) (List.nil_sublist _)) ?_
    refine call_con [] (fun β w' hs' => of_c w' w_salt t u (β 0) (β 1) (hs'.blk ⟨0, 9, [.v (.string t)]⟩ (by simp)) (hs'.blk ⟨1, 9, [.v (.string u)]⟩ (by simp)) (by show 4 + _ + _ ≤ 1000; omega) (Rd.old h1 (hs'.get 0 rfl)) (Rd.old h0 (hs'.get 0 rfl))) ?_
    rintro v Fs ⟨A0, c0, rfl, q1, q2, rfl⟩
    refine ⟨Sub.of (List.nil_sublist _) (List.nil_sublist _), ?_⟩
    refine ⟨16, 16, 0, 16, 16, _, rfl, rfl, rfl, by omega, by omega, by omega, rfl, rfl, rfl, ?_⟩
    refine call_con [] (fun β w' hs' => of_c w' w_stored t u (β 0) (β 1) (hs'.blk ⟨0, 9, [.v (.string t)]⟩ (by simp)) (hs'.blk ⟨1, 9, [.v (.string u)]⟩ (by simp)) (by show 6 + _ + _ ≤ 1000; omega) (Rd.old h1 (hs'.get 1 rfl)) (Rd.old h0 (hs'.get 1 rfl))) ?_
    rintro v Fs ⟨A1, c1, rfl, q3, q4, rfl⟩
    refine ⟨Sub.of (List.nil_sublist _) (List.nil_sublist _), ?_⟩
    refine call_con [] (fun β w' hs' => of_c w' w_server t u (β 0) (β 1) (hs'.blk ⟨0, 9, [.v (.string t)]⟩ (by simp)) (hs'.blk ⟨1, 9, [.v (.string u)]⟩ (by simp)) (by show 6 + _ + _ ≤ 1000; omega) (Rd.old h1 (hs'.get 2 rfl)) (Rd.old h0 (hs'.get 2 rfl))) ?_
    rintro v Fs ⟨A2, c2, rfl, q5, q6, rfl⟩
    refine ⟨Sub.of (List.nil_sublist _) (List.nil_sublist _), ?_⟩
    refine call_con [] (fun β w' hs' => of_c w' w_ha1 t u (β 0) (β 1) (hs'.blk ⟨0, 9, [.v (.string t)]⟩ (by simp)) (hs'.blk ⟨1, 9, [.v (.string u)]⟩ (by simp)) (by show 3 + _ + _ ≤ 1000; omega) (Rd.old h1 (hs'.get 3 rfl)) (Rd.old h0 (hs'.get 3 rfl))) ?_
    rintro v Fs ⟨A3, c3, rfl, q7, q8, rfl⟩
    refine ⟨Sub.of (List.nil_sublist _) (List.nil_sublist _), ?_⟩
    refine ⟨Sub.of (List.nil_sublist _) (List.nil_sublist _), ?_⟩
    intro β w' hs'
    exact (hs'.keepB (List.nil_sublist _)).fin [0, 1, 2, 3] ⟨A0, c0, 16, A1, c1, A2, c2, A3, c3, rfl, by omega, by decide, q1, q2, q3, q4, q5, q6, q7, q8, rfl⟩ rfl rfl rfl ⟨rfl, rfl, rfl, rfl, trivial⟩
  · have hit : itOf i = i := if_neg (by omega)
    rw [dumOut_it hit]
    refine draw_rule g p_proof_Dummy_6 (by kernel_rfl) [] [] (Sub.of (List.nil_sublist _) (List.nil_sublist _)) ?_
    refine call_con [] (fun β w' hs' => of_c w' w_salt t u (β 0) (β 1) (hs'.blk ⟨0, 9, [.v (.string t)]⟩ (by simp)) (hs'.blk ⟨1, 9, [.v (.string u)]⟩ (by simp)) (by show 4 + _ + _ ≤ 1000; omega) (Rd.old h1 (hs'.get 0 rfl)) (Rd.old h0 (hs'.get 0 rfl))) ?_
    rintro v Fs ⟨A0, c0, rfl, q1, q2, rfl⟩
    refine ⟨Sub.of (List.nil_sublist _) (List.nil_sublist _), ?_⟩
    refine ⟨16, 16, 0, 16, 16, _, rfl, rfl, rfl, by omega, by omega, by omega, rfl, rfl, rfl, ?_⟩
    refine call_con [] (fun β w' hs' => of_c w' w_stored t u (β 0) (β 1) (hs'.blk ⟨0, 9, [.v (.string t)]⟩ (by simp)) (hs'.blk ⟨1, 9, [.v (.string u)]⟩ (by simp)) (by show 6 + _ + _ ≤ 1000; omega) (Rd.old h1 (hs'.get 1 rfl)) (Rd.old h0 (hs'.get 1 rfl))) ?_
    rintro v Fs ⟨A1, c1, rfl, q3, q4, rfl⟩
    refine ⟨Sub.of (List.nil_sublist _) (List.nil_sublist _), ?_⟩
    refine call_con [] (fun β w' hs' => of_c w' w_server t u (β 0) (β 1) (hs'.blk ⟨0, 9, [.v (.string t)]⟩ (by simp)) (hs'.blk ⟨1, 9, [.v (.string u)]⟩ (by simp)) (by show 6 + _ + _ ≤ 1000; omega) (Rd.old h1 (hs'.get 2 rfl)) (Rd.old h0 (hs'.get 2 rfl))) ?_
    rintro v Fs ⟨A2, c2, rfl, q5, q6, rfl⟩
    refine ⟨Sub.of (List.nil_sublist _) (List.nil_sublist _), ?_⟩
    refine call_con [] (fun β w' hs' => of_c w' w_ha1 t u (β 0) (β 1) (hs'.blk ⟨0, 9, [.v (.string t)]⟩ (by simp)) (hs'.blk ⟨1, 9, [.v (.string u)]⟩ (by simp)) (by show 3 + _ + _ ≤ 1000; omega) (Rd.old h1 (hs'.get 3 rfl)) (Rd.old h0 (hs'.get 3 rfl))) ?_
    rintro v Fs ⟨A3, c3, rfl, q7, q8, rfl⟩
    refine ⟨Sub.of (List.nil_sublist _) (List.nil_sublist _), ?_⟩
    refine ⟨Sub.of (List.nil_sublist _) (List.nil_sublist _), ?_⟩
    intro β w' hs'
    exact (hs'.keepB (List.nil_sublist _)).fin [0, 1, 2, 3] ⟨A0, c0, 16, A1, c1, A2, c2, A3, c3, rfl, by omega, by decide, q1, q2, q3, q4, q5, q6, q7, q8, rfl⟩ rfl rfl rfl ⟨rfl, rfl, rfl, rfl, trivial⟩
end Go.Proofs.YthkjfepbmnabkaaDoor.Sx

/- Secrets compared; texts cut; bytes compared. -/
namespace Go.Proofs.YthkjfepbmnabkaaDoor.Sx
open Go Sha
attribute [local irreducible] Calls

theorem cutText_c (w : World) (s : ByteArray) (k : Nat) (hs : s.size ≤ maxLen) (hk : k ≤ 1000) : Pu Tryd.prog n_ostiaryref01_CutText #[.string s, .int .i64 k] w (.string (s.extract 0 (min s.size k))) := by
  refine pu_of (calls_of_sx (cx := cx_ostiaryref01_CutText w None_) (good_ostiaryref01_CutText w None_) b_ostiaryref01_CutText rfl rfl (β := Va.z) [.c (.v (.string s)), .c (.v (.int .i64 k))] 0 [] [] rfl rfl (Sat.start rfl) ?_)
  refine ⟨((min s.size k : Nat) : Int), by dsimp only; omega, ?_⟩
  refine ⟨min s.size k, 0, rfl, rfl, by omega, Nat.zero_le _, ?_⟩
  intro β w' hs
  exact ⟨rfl, hs.chg⟩

/-- A secret as it lies in memory. -/
structure SecA where
  A0 : Option Addr
  A1 : Option Addr
  A2 : Option Addr
  A3 : Option Addr
  c0 : Nat
  c1 : Nat
  c2 : Nat
  c3 : Nat
  s0 : List UInt8
  s1 : List UInt8
  s2 : List UInt8
  s3 : List UInt8
  it : Int
def SecA.val (x : SecA) : Value := .agg #[.slice x.A0 x.s0.length x.c0, .int .i64 x.it, .slice x.A1 x.s1.length x.c1, .slice x.A2 x.s2.length x.c2, .slice x.A3 x.s3.length x.c3]
def SecA.cells (x : SecA) : List SL := [.v (.slice x.A0 x.s0.length x.c0), .v (.int .i64 x.it), .v (.slice x.A1 x.s1.length x.c1), .v (.slice x.A2 x.s2.length x.c2), .v (.slice x.A3 x.s3.length x.c3)]
structure SecA.Rd (x : SecA) (w : World) : Prop where
  h0 : Bs w x.A0 x.s0
  h1 : Bs w x.A1 x.s1
  h2 : Bs w x.A2 x.s2
  h3 : Bs w x.A3 x.s3

theorem salted_c (w : World) (A : Option Addr) (n c : Nat) (i : Int) : Pu Tryd.prog n_ostiaryref14_salted #[.slice A n c, .int .i64 i] w (.bool (decide (0 < n ∧ n ≤ 32 ∧ 0 < i ∧ i ≤ 64))) := by
  refine pu_of (calls_of_sx (cx := cx_ostiaryref14_salted w None_) (good_ostiaryref14_salted w None_) b_ostiaryref14_salted rfl rfl (β := Va.z) [.c (.v (.slice A n c)), .c (.v (.int .i64 i))] 0 [] [] rfl rfl (Sat.start rfl) ?_)
  refine BIf.dec (fun q0 => ?_) (fun q0 => ?_)
  · refine BIf.dec (fun q1 => ?_) (fun q1 => ?_)
    · refine BIf.dec (fun q2 => ?_) (fun q2 => ?_)
      · intro β w' hs
        refine ⟨?_, hs.chg⟩
        show Value.bool (decide (i ≤ 64)) = _
        congr 1
        exact decide_eq_decide.2 ⟨fun h => ⟨by omega, by omega, q2, h⟩, fun h => h.2.2.2⟩
      · intro β w' hs
        refine ⟨?_, hs.chg⟩
        show Value.bool false = _
        congr 1
        exact (decide_eq_false (fun h => q2 h.2.2.1)).symm
    · intro β w' hs
      refine ⟨?_, hs.chg⟩
      show Value.bool false = _
      congr 1
      exact (decide_eq_false (fun h => q1 (by have := h.2.1; omega))).symm
  · intro β w' hs
    refine ⟨?_, hs.chg⟩
    show Value.bool false = _
    congr 1
    exact (decide_eq_false (fun h => q0 (by have := h.1; omega))).symm

theorem right_c (w : World) (x : SecA) : Pu Tryd.prog n_ostiaryref14_Right #[x.val] w (.bool (decide ((0 < x.s0.length ∧ x.s0.length ≤ 32 ∧ 0 < x.it ∧ x.it ≤ 64) ∧ x.s1.length = 32 ∧ x.s2.length = 32 ∧ x.s3.length = 32))) := by
  refine pu_of (calls_of_sx (cx := cx_ostiaryref14_Right w None_) (good_ostiaryref14_Right w None_) b_ostiaryref14_Right rfl rfl (β := Va.z) [.agg x.cells] 0 [] [] rfl rfl (Sat.start rfl) ?_)
  refine call_pu (fun β w' hs => salted_c w' x.A0 x.s0.length x.c0 x.it) ?_
  have e : ∀ (n : Nat), (n : Int) = 32 ↔ n = 32 := fun n => by omega
  refine BIf.dec (fun q0 => ?_) (fun q0 => ?_)
  · refine BIf.dec (fun q1 => ?_) (fun q1 => ?_)
    · refine BIf.dec (fun q2 => ?_) (fun q2 => ?_)
      · intro β w' hs
        refine ⟨?_, hs.chg⟩
        show Value.bool (decide ((x.s3.length : Int) = 32)) = _
        congr 1
        exact decide_eq_decide.2 ⟨fun h => ⟨q0, (e _).1 q1, (e _).1 q2, (e _).1 h⟩, fun h => (e _).2 h.2.2.2⟩
      · intro β w' hs
        refine ⟨?_, hs.chg⟩
        show Value.bool false = _
        congr 1
        exact (decide_eq_false (fun h => q2 ((e _).2 h.2.2.1))).symm
    · intro β w' hs
      refine ⟨?_, hs.chg⟩
      show Value.bool false = _
      congr 1
      exact (decide_eq_false (fun h => q1 ((e _).2 h.2.1))).symm
  · intro β w' hs
    refine ⟨?_, hs.chg⟩
    show Value.bool false = _
    congr 1
    exact (decide_eq_false (fun h => q0 h.1)).symm

theorem sameSecret_c (w : World) (x y : SecA) (hx : x.Rd w) (hy : y.Rd w) : Pu Tryd.prog n_ostiaryref14_SameSecret #[x.val, y.val] w (.bool (decide (x.s0 = y.s0 ∧ x.it = y.it ∧ x.s1 = y.s1 ∧ x.s2 = y.s2 ∧ x.s3 = y.s3))) := by
  refine pu_of (calls_of_sx (cx := cx_ostiaryref14_SameSecret w None_) (good_ostiaryref14_SameSecret w None_) b_ostiaryref14_SameSecret rfl rfl (β := Va.z) [.agg x.cells, .agg y.cells] 0 [] [oldF w] rfl rfl (old_sat rfl) ?_)
  refine call_pu (fun β w' hs => pu_of (same_c w' x.A0 y.A0 x.s0 y.s0 x.c0 y.c0 (hx.h0.old (hs.get 0 rfl)) (hy.h0.old (hs.get 0 rfl)))) ?_
  refine BIf.dec (fun q0 => ?_) (fun q0 => ?_)
  · refine BIf.dec (fun q1 => ?_) (fun q1 => ?_)
    · refine call_pu (fun β w' hs => pu_of (same_c w' x.A1 y.A1 x.s1 y.s1 x.c1 y.c1 (hx.h1.old (hs.get 0 rfl)) (hy.h1.old (hs.get 0 rfl)))) ?_
      refine BIf.dec (fun q2 => ?_) (fun q2 => ?_)
      · refine call_pu (fun β w' hs => pu_of (same_c w' x.A2 y.A2 x.s2 y.s2 x.c2 y.c2 (hx.h2.old (hs.get 0 rfl)) (hy.h2.old (hs.get 0 rfl)))) ?_
        refine BIf.dec (fun q3 => ?_) (fun q3 => ?_)
        · refine call_pu (fun β w' hs => pu_of (same_c w' x.A3 y.A3 x.s3 y.s3 x.c3 y.c3 (hx.h3.old (hs.get 0 rfl)) (hy.h3.old (hs.get 0 rfl)))) ?_
          intro β w' hs
          refine ⟨?_, hs.chg⟩
          show Value.bool (decide (x.s3 = y.s3)) = _
          congr 1
          simp [q0, q1, q2, q3]
        · intro β w' hs
          refine ⟨?_, hs.chg⟩
          show Value.bool false = _
          congr 1
          simp [q3]
      · intro β w' hs
        refine ⟨?_, hs.chg⟩
        show Value.bool false = _
        congr 1
        simp [q2]
    · intro β w' hs
      refine ⟨?_, hs.chg⟩
      show Value.bool false = _
      congr 1
      simp [q1]
  · intro β w' hs
    refine ⟨?_, hs.chg⟩
    show Value.bool false = _
    congr 1
    simp [q0]
end Go.Proofs.YthkjfepbmnabkaaDoor.Sx

/- Bytes compared without haste. -/
namespace Go.Proofs.YthkjfepbmnabkaaDoor.Sx
open Go Sha
attribute [local irreducible] Calls

theorem ofInt8 (a : UInt8) : BitVec.ofInt 8 (a.toNat : Int) = a.toBitVec := by
  apply BitVec.eq_of_toNat_eq
  rw [BitVec.toNat_ofInt]
  have := a.toNat_lt
  have e : a.toBitVec.toNat = a.toNat := rfl
  rw [e]
  omega
theorem back8 (x : BitVec 8) : IntKind.u8.wrap (x.toNat : Int) = ((UInt8.ofBitVec x).toNat : Int) := by
  rw [wrap_u8]
  have := x.isLt
  have e : (UInt8.ofBitVec x).toNat = x.toNat := rfl
  rw [e]
  omega
theorem xor8 (a b : UInt8) : bits .xor .u8 (a.toNat : Int) (b.toNat : Int) = ((a ^^^ b).toNat : Int) := by
  show IntKind.u8.wrap (((BitVec.ofInt 8 (a.toNat : Int)) ^^^ (BitVec.ofInt 8 (b.toNat : Int))).toNat : Int) = _
  rw [ofInt8, ofInt8, back8]
  rfl
theorem or8 (a b : UInt8) : bits .or .u8 (a.toNat : Int) (b.toNat : Int) = ((a ||| b).toNat : Int) := by
  show IntKind.u8.wrap (((BitVec.ofInt 8 (a.toNat : Int)) ||| (BitVec.ofInt 8 (b.toNat : Int))).toNat : Int) = _
  rw [ofInt8, ofInt8, back8]
  rfl

theorem equal_c (w : World) (A B : Option Addr) (l m : List UInt8) (c d : Nat) (hl : Bs w A l) (hm : Bs w B m) (hn : l.length ≤ 70368744177664) : Pu Tryd.prog n_hmac_Equal #[.slice A l.length c, .slice B m.length d] w (.bool (decide (l = m))) := by
  have g := good_hmac_Equal w None_
  refine pu_of (calls_of_sx (cx := cx_hmac_Equal w None_) g b_hmac_Equal rfl rfl (β := Va.z) [.c (.v (.slice A l.length c)), .c (.v (.slice B m.length d))] 0 [] [oldF w] rfl rfl (old_sat rfl) ?_)
  refine BIf.not (BIf.dec (fun h0 => ?_) (fun h0 => ?_))
  · have hlen : m.length = l.length := by omega
    refine loop_rule (ι := Nat × UInt8) 0 (fun i => [(0, .c (.v (.slice A l.length c))), (1, .c (.v (.slice B m.length d))), (13, .c (.v (.int .i64 l.length))), (14, .c (.v (.int .i64 i.1))), (5, .c (.v (byte i.2)))]) (fun _ => []) (fun _ => [oldF w])
      (fun i => i.1 ≤ l.length ∧ (i.2 = 0 ↔ l.take i.1 = m.take i.1)) (fun i => l.length - i.1) (0, 0) ⟨Nat.zero_le _, by simp⟩ (Ent.same ⟨rfl, rfl, rfl, rfl, rfl, trivial⟩ rfl) g ?_
    rintro ⟨i, acc⟩ ⟨hi, hacc⟩
    simp only at hi hacc
    refine BIf.dec (fun hlt => ?_) (fun hge => ?_)
    · have hlt : i < l.length := by omega
      have hlt2 : i < m.length := by omega
      obtain ⟨ad, hA⟩ := Bs.addr hl (by omega)
      obtain ⟨bd, hB⟩ := Bs.addr hm (by omega)
      refine draw_rule g p_hmac_Equal_7 (by kernel_rfl) _ _ Sub.refl ?_
      refine ⟨ad, i, hA, rfl, hlt, byte l[i], fun β w' hs => Bs.cell (Rd.old hl (hs.get 0 rfl)) hA hlt, ?_⟩
      refine ⟨bd, i, hB, rfl, hlt2, byte m[i], fun β w' hs => Bs.cell (Rd.old hm (hs.get 0 rfl)) hB hlt2, ?_⟩
      refine ⟨_, xor8 _ _, _, or8 _ _, ?_⟩
      refine ⟨((i + 1 : Nat) : Int), by rw [wrap_i64 (by omega) (by omega)]; rfl, ?_⟩
      refine ⟨(i + 1, acc ||| (l[i] ^^^ m[i])), ⟨hlt, ?_⟩, by show l.length - (i + 1) < l.length - i; omega, Ent.same ⟨rfl, rfl, rfl, rfl, rfl, trivial⟩ rfl⟩
      show acc ||| (l[i] ^^^ m[i]) = 0 ↔ l.take (i + 1) = m.take (i + 1)
      rw [take_snoc l i hlt, take_snoc m i hlt2, UInt8.or_eq_zero_iff, UInt8.xor_eq_zero_iff, hacc]
      constructor
      · rintro ⟨h1, h2⟩; rw [h1, h2]
      · intro h
        have := List.append_inj' h rfl
        exact ⟨this.1, by simpa using this.2⟩
    · have hi2 : i = l.length := by omega
      intro β w' hs
      refine ⟨?_, hs.chg⟩
      show Value.bool (decide ((acc.toNat : Int) = 0)) = _
      congr 1
      rw [hi2, List.take_length, List.take_of_length_le (by omega)] at hacc
      refine decide_eq_decide.2 ⟨fun h => hacc.1 (UInt8.toNat_inj.1 (by show acc.toNat = 0; omega)), fun h => by rw [hacc.2 h]; rfl⟩
  · intro β w' hs
    refine ⟨?_, hs.chg⟩
    show Value.bool false = _
    congr 1
    exact (decide_eq_false (fun h => h0 (by rw [h]))).symm
theorem pequal_c (w : World) (A B : Option Addr) (l m : List UInt8) (c d : Nat) (hl : Bs w A l) (hm : Bs w B m) (hn : l.length ≤ 70368744177664) : Pu Tryd.prog n_proof_Equal #[.slice A l.length c, .slice B m.length d] w (.bool (decide (l = m))) := by
  refine pu_of (calls_of_sx (cx := cx_proof_Equal w None_) (good_proof_Equal w None_) b_proof_Equal rfl rfl (β := Va.z) [.c (.v (.slice A l.length c)), .c (.v (.slice B m.length d))] 0 [] [oldF w] rfl rfl (old_sat rfl) ?_)
  refine call_pu (fun β w' hs => equal_c w' A B l m c d (Rd.old hl (hs.get 0 rfl)) (Rd.old hm (hs.get 0 rfl)) hn) ?_
  intro β w' hs
  exact ⟨rfl, hs.chg⟩
end Go.Proofs.YthkjfepbmnabkaaDoor.Sx

/- Boxes: a new one; how many terms it has. -/
namespace Go.Proofs.YthkjfepbmnabkaaDoor.Sx
open Go Sha
attribute [local irreducible] Calls

/-- A box's own block: is it symbolic, is it full; its terms' slice, its map. -/
def boxF (b : Nat) (sym full : Bool) (L m : Value) : Fact := bkF b 77 [.bool sym, .bool full, L, m]
theorem new_c (w : World) (sym : Bool) : Con Tryd.prog n_box_New #[.bool sym] w [] fun v Fs => ∃ b m, v = .pointer (some ⟨b, 0, none⟩) ∧ Fs = [boxF b sym false (.slice none 0 0) (.map (some m)), mapF m []] := by
  refine con_of_sx (cx := cx_box_New w (Un [])) (good_box_New w (Un [])) b_box_New rfl rfl (β := Va.z) [.c (.v (.bool sym))] 0 [] [] rfl rfl (Sat.start rfl) ?_
  intro m
  intro β w' hs
  exact hs.ofBk.fin [0, 1] ⟨β 0, m, rfl, rfl⟩ rfl rfl rfl ⟨rfl, rfl, trivial⟩
theorem len_c (w : World) (b : Nat) (sym full : Bool) (A : Option Addr) (n c : Nat) (m : Value) (h : (boxF b sym full (.slice A n c) m).p w) : Pu Tryd.prog n_box_Box_Len #[.pointer (some ⟨b, 0, none⟩)] w (.int .i64 n) := by
  refine pu_of (calls_of_sx (cx := cx_box_Box_Len w None_) (good_box_Box_Len w None_) b_box_Box_Len rfl rfl (β := Va.z) [.c (.v (.pointer (some ⟨b, 0, none⟩)))] 0 [] [oldF w] rfl rfl (old_sat rfl) ?_)
  refine ⟨.slice A n c, fun β w' hs => ?_, ?_⟩
  · have hb : w.heap[b]? = some (.cells #[.bool sym, .bool full, .slice A n c, m] 77 (0, 0)) := h
    have hlt : b < w.heap.size := (Array.getElem?_eq_some_iff.1 hb).1
    have h2 := (hs.get 0 rfl : (oldF w).p w') b hlt
    rw [hb] at h2
    show w'.cell? ⟨b, 2, none⟩ = _
    rw [cell_of_row w' b 2 _ _ _ h2]
    rfl
  intro β w' hs
  exact ⟨rfl, hs.chg⟩
end Go.Proofs.YthkjfepbmnabkaaDoor.Sx

/- A plain box's hash of one part. -/
namespace Go.Proofs.YthkjfepbmnabkaaDoor.Sx
open Go Sha
attribute [local irreducible] Calls

theorem hash1_c (w : World) (b : Nat) (full : Bool) (L m : Value) (P A : Option Addr) (cP c : Nat) (l : List UInt8) (hb : (boxF b false full L m).p w) (hP : Rd 1 P 1 [.slice A l.length c] w) (hr : Bs w A l) (hn : l.length ≤ 70368744177664) (h1 : (oddF 1).p w) (h0 : (firstF 0).p w) :
    Con Tryd.prog n_box_Box_Hash #[.pointer (some ⟨b, 0, none⟩), .slice P 1 cP] w [] fun v Fs => ∃ A' c', v = .slice A' 32 c' ∧ 32 ≤ c' ∧ c' ≤ maxLen ∧ Fs = [browF ty_uint8 A' (Sha.sum l) c'] := by
  refine con_of_sx (cx := cx_box_Box_Hash w (Un [])) (good_box_Box_Hash w (Un [])) b_box_Box_Hash rfl rfl (β := Va.z) [.c (.v (.pointer (some ⟨b, 0, none⟩))), .c (.v (.slice P 1 cP))] 0 [] [oldF w] rfl rfl (old_sat rfl) ?_
  refine ⟨.bool false, fun β w' hs => ?_, ?_⟩
  · have hb' : w.heap[b]? = some (.cells #[.bool false, .bool full, L, m] 77 (0, 0)) := hb
    have hlt : b < w.heap.size := (Array.getElem?_eq_some_iff.1 hb').1
    have h2 := (hs.get 0 rfl : (oldF w).p w') b hlt
    rw [hb'] at h2
    show w'.cell? ⟨b, 0, none⟩ = _
    rw [cell_of_row w' b 0 _ _ _ h2]
    rfl
  refine call_con [] (fun β w' hs => sum1_c w' P A cP c l (hP.old (hs.get 0 rfl)) (hr.old (hs.get 0 rfl)) hn (Rd.old h1 (hs.get 0 rfl)) (Rd.old h0 (hs.get 0 rfl))) ?_
  rintro v Fs ⟨A3, c3, rfl, q1, q2, rfl⟩
  intro β w' hs
  exact hs.fin [0] ⟨A3, c3, rfl, q1, q2, rfl⟩
end Go.Proofs.YthkjfepbmnabkaaDoor.Sx

/- Texts joined: the library's contract as ours; the message. -/
namespace Go.Proofs.YthkjfepbmnabkaaDoor.Sx
open Go Sha
attribute [local irreducible] Calls

theorem chg_of {w w' : World} (h : RowKit.Below w.heap.size w w') : Chg None_ w w' := ⟨h.os, h.tape, h.output, h.size, fun k hk _ => h.block k hk⟩
def joinB (xs : List ByteArray) (sep : ByteArray) : ByteArray := ⟨(Lib.join (xs.map (·.data.toList)) sep.data.toList).toArray⟩
theorem join_c (w : World) (b c : Nat) (xs : List ByteArray) (sep : ByteArray) (hP : Rd 1 (some ⟨b, 0, none⟩) xs.length (xs.map Value.string) w) (hb : b < w.heap.size) (hN : xs.length ≤ 1000) (hcap : xs.length ≤ c) (hlen : (Lib.join (xs.map (·.data.toList)) sep.data.toList).length ≤ 140737488355328) :
    Pu Tryd.prog n_strings_Join #[.slice (some ⟨b, 0, none⟩) xs.length c, .string sep] w (.string (joinB xs sep)) := by
  refine pu_of (Calls.mono (Tryd.strings_Join b 0 c xs sep w (fun j x hx => ?_) hb (by omega) hcap hlen) ?_)
  · have hj : j < xs.length := (List.getElem?_eq_some_iff.1 hx).1
    obtain ⟨ad, h1, h2⟩ := hP.2 (by omega)
    obtain rfl := Option.some.inj h1
    have := h2 j (.string x) (by rw [List.getElem?_map, hx]; rfl)
    rw [add_none] at this
    exact this
  · rintro e w' ⟨rfl, hw⟩
    exact ⟨_, rfl, rfl, chg_of hw⟩
theorem byl (s : ByteArray) : (⟨(bl_ s).toArray⟩ : ByteArray) = s := by cases s; simp [bl_]
theorem message_c (w : World) (x y z : ByteArray) (hs : x.size + y.size + z.size ≤ 10000) : Pu Tryd.prog n_proof_Message #[.string x, .string y, .string z] w (.string (x ++ ⟨#[44]⟩ ++ y ++ ⟨#[44]⟩ ++ z)) := by
  refine pu_of (calls_of_sx (cx := cx_proof_Message w None_) (good_proof_Message w None_) b_proof_Message rfl rfl (β := Va.z) [.c (.v (.string x)), .c (.v (.string y)), .c (.v (.string z))] 0 [] [] rfl rfl (Sat.start rfl) ?_)
  have hj : Lib.join ([x, y, z].map (·.data.toList)) [44] = bl_ (x ++ ⟨#[44]⟩ ++ y ++ ⟨#[44]⟩ ++ z) := by
    simp only [bl_app, List.map_cons, List.map_nil]
    simp [Lib.join, List.intercalate, bl_]
  have hl : (Lib.join ([x, y, z].map (·.data.toList)) [44]).length ≤ 140737488355328 := by
    rw [hj, bl_len]
    simp only [sz_app]
    have : (⟨#[44]⟩ : ByteArray).size = 1 := rfl
    rw [this]
    omega
  intro b
  refine call_pu (fun β w' hs => join_c w' b 3 [x, y, z] ⟨#[44]⟩ (row_rd (hs.get 0 rfl)) (hs.getLt 0 rfl b rfl) (by show 3 ≤ 1000; decide) (Nat.le_refl 3) hl) ?_
  intro β w' hs
  refine ⟨?_, hs.chg⟩
  have : joinB [x, y, z] ⟨#[44]⟩ = x ++ ⟨#[44]⟩ ++ y ++ ⟨#[44]⟩ ++ z := by
    unfold joinB
    rw [show (⟨#[44]⟩ : ByteArray).data.toList = [44] from rfl, hj]
    exact byl _
  rw [← this]
  rfl
end Go.Proofs.YthkjfepbmnabkaaDoor.Sx

/- Parts of bytes joined; a term's print. -/
namespace Go.Proofs.YthkjfepbmnabkaaDoor.Sx
open Go
attribute [local irreducible] Calls

theorem Bs.holds {w : World} {A : Option Addr} {l : List UInt8} (h : Bs w A l) (c : Nat) : Lib.HoldsBytes w (.slice A l.length c) l := by
  refine ⟨A, c, rfl, fun q => ?_, fun a q i x hx => ?_⟩
  · subst q
    rcases Nat.eq_zero_or_pos l.length with h0 | h0
    · exact List.eq_nil_of_length_eq_zero h0
    · obtain ⟨ad, q, _⟩ := h.2 h0; cases q
  · have hi : i < l.length := (List.getElem?_eq_some_iff.1 hx).1
    obtain ⟨ad, q2, hc⟩ := h.2 (by omega)
    rw [q] at q2
    obtain rfl := Option.some.inj q2
    exact hc i (byte x) (by simp [hx])
theorem join_nil (ls : List (List UInt8)) : Lib.join ls [] = ls.flatten := by
  simp [Lib.join, List.intercalate]
  induction ls with
  | nil => rfl
  | cons a r ih =>
    cases r with
    | nil => simp
    | cons b r => simp [ih]
theorem lens_flat (ls : List (List UInt8)) : Lib.lens ls = ls.flatten.length := by
  simp [Lib.lens, List.length_flatten]
/-- A new slice of bytes, to be read. -/
def readOut (l : List UInt8) (v : Value) (Fs : List Fact) : Prop := ∃ A c, v = .slice A l.length c ∧ l.length ≤ c ∧ c ≤ maxLen ∧ Fs = [rdoF 1 A l.length (l.map byte)]
theorem fin_read {w w' : World} {A : Option Addr} {l : List UInt8} {c : Nat} (hr : Bs w' A l) (hc : Chg None_ w w') (hD : ∀ k, (bsF A l).D k → w.heap.size ≤ k) (h1 : l.length ≤ c) (h2 : c ≤ maxLen) : Fin w [] (readOut l) (.slice A l.length c) w' := by
  refine ⟨[rdoF 1 A l.length (l.map byte)], ⟨A, c, rfl, h1, h2, rfl⟩, by rw [Un.nil]; exact hc, ⟨fun g hg => ?_, fun g hg k hk => ?_, List.pairwise_singleton _ _⟩, ⟨rfl, trivial⟩, fun g hg k hk => ?_⟩
  · obtain rfl := List.mem_singleton.1 hg; exact hr
  · obtain rfl := List.mem_singleton.1 hg; exact rd_lt hr k hk
  · obtain rfl := List.mem_singleton.1 hg; exact .inr (hD k hk)
theorem fresh_fin {w w' : World} {v : Value} {l : List UInt8} (hf : Lib.FreshBytes w.heap.size w' v l) (hb : RowKit.Below w.heap.size w w') : Fin w [] (readOut l) v w' := by
  obtain ⟨g, cap, zs, rfl, hg, h1, h2, hz, hz2, hbo, hc, _⟩ := hf
  refine fin_read ?_ (chg_of hb) ?_ h1 h2
  · refine ⟨by simp, fun hp => ⟨_, rfl, fun j u hu => ?_⟩⟩
    rw [List.getElem?_map] at hu
    obtain ⟨x, hx, rfl⟩ := Option.map_eq_some_iff.1 hu
    have hj : j < l.length := (List.getElem?_eq_some_iff.1 hx).1
    rw [add_none, Nat.zero_add, hc j (by omega)]
    have hj2 : j < zs.length := by omega
    have h3 : (Lib.bytesOf (zs.take l.length))[j]? = some x := by rw [hbo]; exact hx
    rw [Lib.bytesOf, List.getElem?_map, List.getElem?_take, if_pos hj, List.getElem?_eq_getElem hj2] at h3
    have h4 : UInt8.ofNat zs[j].toNat = x := by simpa using h3
    have h5 : zs.getD j 0 = zs[j] := by simp [hj2]
    have h6 := hz2 zs[j] (List.getElem_mem hj2)
    have h7 : (x.toNat : Int) = zs[j] := by
      rw [← h4, UInt8.toNat_ofNat']
      omega
    rw [h5, ← h7]
    rfl
  · rintro k ⟨_, ad, q, rfl⟩
    obtain rfl := Option.some.inj q
    exact hg

/-- Two parts or more, joined. -/
theorem joinN_c (w : World) (b c : Nat) (vs : List Value) (ls : List (List UInt8)) (hP : Rd 1 (some ⟨b, 0, none⟩) ls.length vs w) (hH : ∀ (i : Nat) v l, vs[i]? = some v → ls[i]? = some l → Lib.HoldsBytes w v l) (h2 : 2 ≤ ls.length) (hcap : ls.length ≤ c) (hn : ls.length ≤ 1000) (hlen : ls.flatten.length ≤ 140737488355328) :
    Con Tryd.prog n_bytes_Join #[.slice (some ⟨b, 0, none⟩) ls.length c, .slice none 0 0] w [] (readOut ls.flatten) := by
  refine con_of_calls (Calls.mono (Tryd.bytes_Join_many b 0 ls.length c vs ls (.slice none 0 0) [] w rfl h2 ⟨by have := hP.1; omega, fun i v hv => ?_, hH⟩ hcap ⟨none, 0, rfl, fun _ => rfl, fun a q => by cases q⟩ (by omega) (by rw [lens_flat]; simpa using hlen)) ?_)
  · obtain ⟨ad, q, hc⟩ := hP.2 (by omega)
    obtain rfl := Option.some.inj q
    exact hc i v hv
  · rintro e w' ⟨v, rfl, hf, hb⟩
    rw [join_nil] at hf
    exact ⟨v, rfl, fresh_fin hf hb⟩
end Go.Proofs.YthkjfepbmnabkaaDoor.Sx

/- A term's print. -/
namespace Go.Proofs.YthkjfepbmnabkaaDoor.Sx
open Go
attribute [local irreducible] Calls

/-- Where a term's parts lie. -/
structure TA where
  k : Option Addr
  t : Option Addr
  l : Option Addr
  m : Option Addr
  kc : Nat
  tc : Nat
  lc : Nat
  mc : Nat
def ints (l : List Nat) : List Value := l.map fun (n : Nat) => Value.int .i64 (n : Int)
def termV (t : Bx.Term) (a : TA) : List Value := [.int .i64 t.kind, .slice a.k t.key.length a.kc, .slice a.t t.text.length a.tc, .int .i64 t.rounds, .slice a.l t.list.length a.lc, .slice a.m t.mask.length a.mc]
def termS (t : Bx.Term) (a : TA) : List SL := [.v (.int .i64 t.kind), .v (.slice a.k t.key.length a.kc), .v (.slice a.t t.text.length a.tc), .v (.int .i64 t.rounds), .v (.slice a.l t.list.length a.lc), .v (.slice a.m t.mask.length a.mc)]
/-- A term's parts can be read. -/
structure TRd (t : Bx.Term) (a : TA) (w : World) : Prop where
  hk : Bs w a.k t.key
  ht : Bs w a.t t.text
  hl : Rd 1 a.l t.list.length (ints t.list) w
  hm : Bs w a.m t.mask
theorem TRd.old {t : Bx.Term} {a : TA} {W w : World} (h : TRd t a W) (ho : (oldF W).p w) : TRd t a w := ⟨Rd.old h.hk ho, Rd.old h.ht ho, Rd.old h.hl ho, Rd.old h.hm ho⟩
/-- A term that isn't too great. -/
structure TSz (t : Bx.Term) : Prop where
  kind : t.kind < 1000
  rounds : t.rounds < 1000
  key : t.key.length ≤ 1000000
  text : t.text.length ≤ 1000000
  list : t.list.length ≤ 10000
  nums : ∀ n ∈ t.list, n < 1000000
  mask : t.mask.length ≤ 1000000

theorem vints_len : ∀ (l : List Nat), (∀ n ∈ l, n < 4611686018427387904) → (l.flatMap Bx.vint).length ≤ 9 * l.length
  | [], _ => by simp
  | a :: r, h => by
    have h1 := vint_nine (h a List.mem_cons_self)
    have h2 := vints_len r (fun n hn => h n (List.mem_cons_of_mem _ hn))
    rw [List.flatMap_cons, List.length_append, List.length_cons]
    omega
theorem flat_take {l : List Nat} {k x : Nat} (h : l[k]? = some x) : (l.take (k + 1)).flatMap Bx.vint = (l.take k).flatMap Bx.vint ++ Bx.vint x := by
  obtain ⟨hk, rfl⟩ := List.getElem?_eq_some_iff.1 h
  rw [List.take_succ_eq_append_getElem hk, List.flatMap_append, List.flatMap_singleton]
theorem ints_at {l : List Nat} {k x : Nat} (h : l[k]? = some x) : (ints l)[k]? = some (.int .i64 (x : Int)) := by
  simp [ints, h]
structure PrS where
  k : Nat
  A : Option Addr
  c : Nat
def heads5 (t : Bx.Term) : List Nat := [t.kind, t.rounds, t.key.length, t.text.length, t.list.length]
theorem print_c (w : World) (t : Bx.Term) (a : TA) (hr : TRd t a w) (hs : TSz t) : Pu Tryd.prog n_box_Term_print #[.agg (termV t a).toArray] w (.string ⟨(Bx.print t).toArray⟩) := by
  have g := good_box_Term_print w (Un [])
  have h5 : ∀ n ∈ heads5 t, n < 4611686018427387904 := by
    have := hs.kind; have := hs.rounds; have := hs.key; have := hs.text; have := hs.list
    intro n hn
    simp only [heads5, List.mem_cons, List.not_mem_nil, or_false] at hn
    rcases hn with rfl | rfl | rfl | rfl | rfl <;> omega
  have h6 : ∀ n ∈ t.list, n < 4611686018427387904 := fun n hn => by have := hs.nums n hn; omega
  refine con_of_sx (cx := cx_box_Term_print w (Un [])) g b_box_Term_print rfl rfl (β := Va.z) [.agg (termS t a)] 0 [] [oldF w] rfl rfl (old_sat rfl) ?_
  intro b5
  refine reify_rule g 1 (fun _ => [.slice none 0 0]) rfl rfl (fun _ => rfl) (fun b => ?_)
  refine loop_rule (ι := PrS) 2 (fun i => [(23, .c (.v (.slice (some ⟨b5, 0, none⟩) 5 5))), (24, .c (.v (.int .i64 5))), (25, .c (.v (.int .i64 i.k))), (1, .c (.p 0 0)), (3, .c (.v (.pointer (some ⟨b, 0, none⟩)))), (4, .fn (.func n_box_Term_print_1) [] [.v (.pointer (some ⟨b, 0, none⟩))])]) (fun _ => [⟨0, ty_box_Term, termS t a⟩])
    (fun i => varF b i.A (((heads5 t).take i.k).flatMap Bx.vint) i.c ++ [rowF ty_int 1 (.slice (some ⟨b5, 0, none⟩) 5 5) 5 (ints (heads5 t)), oldF w])
    (fun i => i.k ≤ 5) (fun i => 5 - i.k) ⟨0, none, 0⟩ (Nat.zero_le _) (Ent.mk' ⟨rfl, rfl, rfl, rfl, rfl, rfl, trivial⟩ rfl ?_) g ?_
  · intro β w' hs
    exact (hs.nilRow ty_uint8 1).perm [1, 0, 2, 3]
  rintro ⟨k, A1, c1⟩ hk
  simp only at hk
  have hb1 : (((heads5 t).take k).flatMap Bx.vint).length ≤ 45 := by
    have := vints_len ((heads5 t).take k) (fun n hn => h5 n (List.take_subset _ _ hn))
    have h7 : ((heads5 t).take k).length ≤ 5 := by rw [List.length_take]; show min k 5 ≤ 5; omega
    omega
  refine BIf.dec (fun hlt => ?_) (fun hge => ?_)
  · have hlt0 : (k : Int) < 5 := hlt
    have hkl : k < (heads5 t).length := by show k < 5; omega
    obtain ⟨x, hx, hxm⟩ := at_lt hkl
    have hu := ints_at hx
    refine ⟨⟨b5, 0, none⟩, k, rfl, rfl, by omega, _, fun β w' hs => Rd.cell1 (row_rd (hs.get 2 rfl)) hu, ?_⟩
    refine call_con [0, 1] (fun β w' hs => long7_c w' b x A1 (((heads5 t).take k).flatMap Bx.vint) c1 (h5 _ hxm) (by omega) (hs.mem.take (js := [0, 1]) rfl)) ?_
    rintro v Fs ⟨rfl, A2, c2, rfl⟩
    refine ⟨((k + 1 : Nat) : Int), by rw [wrap_i64 (by omega) (by omega)]; rfl, ?_⟩
    refine ⟨⟨k + 1, A2, c2⟩, by show k + 1 ≤ 5; omega, by show 5 - (k + 1) < 5 - k; omega, Ent.mk' ⟨rfl, rfl, rfl, rfl, rfl, rfl, trivial⟩ rfl ?_⟩
    intro β w' hs
    show Sat _ _ _ _ (varF b A2 (((heads5 t).take (k + 1)).flatMap Bx.vint) c2 ++ _) _
    rw [flat_take hx]
    exact hs
  have hge0 : ¬ (k : Int) < 5 := hge
  have hke : k = 5 := by omega
  subst hke
  have hpre : ((heads5 t).take 5).flatMap Bx.vint = (heads5 t).flatMap Bx.vint := rfl
  rw [hpre] at hb1
  refine loop_rule (ι := PrS) 2 (fun i => [(34, .c (.v (.slice a.l t.list.length a.lc))), (35, .c (.v (.int .i64 t.list.length))), (36, .c (.v (.int .i64 i.k))), (1, .c (.p 0 0)), (3, .c (.v (.pointer (some ⟨b, 0, none⟩)))), (4, .fn (.func n_box_Term_print_1) [] [.v (.pointer (some ⟨b, 0, none⟩))])]) (fun _ => [⟨0, ty_box_Term, termS t a⟩])
    (fun i => varF b i.A ((heads5 t).flatMap Bx.vint ++ (t.list.take i.k).flatMap Bx.vint) i.c ++ [oldF w])
    (fun i => i.k ≤ t.list.length) (fun i => t.list.length - i.k) ⟨0, A1, c1⟩ (Nat.zero_le _) (Ent.mk' ⟨rfl, rfl, rfl, rfl, rfl, rfl, trivial⟩ rfl ?_) g ?_
  · intro β w' hs
    have e : (heads5 t).flatMap Bx.vint ++ (t.list.take 0).flatMap Bx.vint = (heads5 t).flatMap Bx.vint := by simp
    show Sat _ _ _ _ (varF b A1 ((heads5 t).flatMap Bx.vint ++ (t.list.take 0).flatMap Bx.vint) c1 ++ _) _
    rw [e]
    exact hs.perm [0, 1, 3]
  rintro ⟨k, A2, c2⟩ hk
  simp only at hk
  have hll := hs.list
  have hb2 : ((heads5 t).flatMap Bx.vint ++ (t.list.take k).flatMap Bx.vint).length ≤ 100000 := by
    have := vints_len (t.list.take k) (fun n hn => h6 n (List.take_subset _ _ hn))
    have h7 : (t.list.take k).length ≤ t.list.length := by simp; omega
    rw [List.length_append]
    omega
  refine BIf.dec (fun hlt => ?_) (fun hge => ?_)
  · have hlt0 : (k : Int) < t.list.length := hlt
    have hkl : k < t.list.length := by omega
    obtain ⟨x, hx, hxm⟩ := at_lt hkl
    have hu := ints_at hx
    obtain ⟨ad, hA, hc⟩ := hr.hl.2 (by omega)
    have hr2 := hr.hl
    rw [hA] at hr2
    refine ⟨ad, k, hA, rfl, hkl, _, fun β w' hs => Rd.cell1 (Rd.old hr2 (hs.get 2 rfl)) hu, ?_⟩
    refine call_con [0, 1] (fun β w' hs => long7_c w' b x A2 ((heads5 t).flatMap Bx.vint ++ (t.list.take k).flatMap Bx.vint) c2 (h6 _ hxm) (by omega) (hs.mem.take (js := [0, 1]) rfl)) ?_
    rintro v Fs ⟨rfl, A3, c3, rfl⟩
    refine ⟨((k + 1 : Nat) : Int), by rw [wrap_i64 (by omega) (by omega)]; rfl, ?_⟩
    refine ⟨⟨k + 1, A3, c3⟩, by show k + 1 ≤ t.list.length; omega, by show t.list.length - (k + 1) < t.list.length - k; omega, Ent.mk' ⟨rfl, rfl, rfl, rfl, rfl, rfl, trivial⟩ rfl ?_⟩
    intro β w' hs
    show Sat _ _ _ _ (varF b A3 ((heads5 t).flatMap Bx.vint ++ (t.list.take (k + 1)).flatMap Bx.vint) c3 ++ _) _
    rw [flat_take hx, ← List.append_assoc]
    exact hs
  have hge0 : ¬ (k : Int) < t.list.length := hge
  have hke : k = t.list.length := by omega
  subst hke
  have hpre2 : (heads5 t).flatMap Bx.vint ++ (t.list.take t.list.length).flatMap Bx.vint = (heads5 t).flatMap Bx.vint ++ t.list.flatMap Bx.vint := by rw [List.take_length]
  rw [hpre2] at hb2
  rw [hpre2]
  generalize hq : (heads5 t).flatMap Bx.vint ++ t.list.flatMap Bx.vint = q at hb2 ⊢
  have hcell : ∀ (w' : World) (A : Option Addr) (l : List UInt8) (c : Nat), (bkF b ty_sl_uint8 [.slice A l.length c]).p w' → w'.cell? ⟨b, 0, none⟩ = some (.slice A l.length c) := fun w' A l c h => by
    have hb : w'.heap[b]? = some (.cells #[.slice A l.length c] ty_sl_uint8 (0, 0)) := h
    rw [cell_of_row w' b 0 _ _ _ hb]; rfl
  refine ⟨.slice A2 q.length c2, fun β w' hs => hcell _ _ _ _ (hs.get 0 rfl), ?_⟩
  intro b6
  have hkey := hs.key
  have htext := hs.text
  have hmask := hs.mask
  have hfl : [q, t.key, t.text, t.mask].flatten = Bx.print t := by
    rw [Bx.print, ← hq]
    simp [heads5]
  refine call_con [] (R := readOut (Bx.print t)) (fun β w' hs => by
    have h := joinN_c w' b6 4 [.slice A2 q.length c2, .slice a.k t.key.length a.kc, .slice a.t t.text.length a.tc, .slice a.m t.mask.length a.mc] [q, t.key, t.text, t.mask] (row_rd (hs.get 0 rfl)) (fun i v l hv hl => by
      match i, hv, hl with
      | 0, hv, hl => obtain rfl := Option.some.inj hv; obtain rfl := Option.some.inj hl; exact Bs.holds (row_rd (hs.get 2 rfl)) _
      | 1, hv, hl => obtain rfl := Option.some.inj hv; obtain rfl := Option.some.inj hl; exact Bs.holds (Rd.old hr.hk (hs.get 3 rfl)) _
      | 2, hv, hl => obtain rfl := Option.some.inj hv; obtain rfl := Option.some.inj hl; exact Bs.holds (Rd.old hr.ht (hs.get 3 rfl)) _
      | 3, hv, hl => obtain rfl := Option.some.inj hv; obtain rfl := Option.some.inj hl; exact Bs.holds (Rd.old hr.hm (hs.get 3 rfl)) _
      | n + 4, hv, hl => cases hv) (by show 2 ≤ 4; decide) (Nat.le_refl 4) (by show 4 ≤ 1000; decide) (by simp; omega)
    rw [hfl] at h
    exact h) ?_
  rintro v Fs ⟨A, c, rfl, h1, h2, rfl⟩
  refine ⟨Bx.print t, fun β w hs => hs.get 0 rfl, ?_⟩
  intro β w' hs
  exact hs.fin [] ⟨rfl, rfl⟩
end Go.Proofs.YthkjfepbmnabkaaDoor.Sx

/- Lists of numbers: copied, looked through; a term of its own. -/
namespace Go.Proofs.YthkjfepbmnabkaaDoor.Sx
open Go
attribute [local irreducible] Calls

theorem ints_one (l : List Nat) : ∀ u ∈ ints l, u.oneCell' = true := by
  intro u hu
  obtain ⟨x, _, rfl⟩ := List.mem_map.1 hu
  rfl
theorem ints_len (l : List Nat) : (ints l).length = l.length := by simp [ints]
abbrev irowF (A : Option Addr) (l : List Nat) (c : Nat) : Fact := rowF ty_int 1 (.slice A l.length c) l.length (ints l)
theorem cloneI_c (w : World) (A : Option Addr) (l : List Nat) (c : Nat) (hr : Rd 1 A l.length (ints l) w) (hn : l.length ≤ 10000000000000) :
    Con Tryd.prog 120 #[.slice A l.length c] w [] fun v Fs => ∃ A' c', v = .slice A' l.length c' ∧ l.length ≤ c' ∧ c' ≤ maxLen ∧ Fs = [irowF A' l c'] := by
  refine con_of_sx (cx := cx_slices_Clone_int_int w (Un [])) (good_slices_Clone_int_int w (Un [])) b_slices_Clone_int_int rfl rfl (β := Va.z) [.c (.v (.slice A l.length c))] 0 [] [rdF 1 A l.length (ints l)] rfl rfl ((Sat.start rfl).rd (fun _ h => by cases h) hr) ?_
  refine BIf.mk (fun h => ?_) (fun h => ?_)
  · intro β w' hs
    have hA : A = none := by simpa using h
    subst hA
    have hl : l = [] := by
      cases l with
      | nil => rfl
      | cons x r => obtain ⟨ad, q, _⟩ := hr.2 (by simp); cases q
    subst hl
    exact (hs.nilRow ty_int 1).fin [0] ⟨none, 0, rfl, Nat.le_refl _, Nat.zero_le _, rfl⟩
  intro b
  refine ⟨0, 0, l.length, [], ints l, _, rfl, fun β w hs => hs.get 1 rfl, ints_one l, Nat.zero_add _, rfl, by rw [maxLen_eq]; omega, by show l.length * 8 ≤ _; omega, ?_⟩
  intro A' c' h1 h2 h3 β w' hs
  exact hs.fin [0] ⟨A', c', rfl, h1, h2, rfl⟩
theorem indexI_c (w : World) (A : Option Addr) (l : List Nat) (c x : Nat) (hr : Rd 1 A l.length (ints l) w) (hn : l.length ≤ 10000000000000) :
    Con Tryd.prog 138 #[.slice A l.length c, .int .i64 x] w [] fun v Fs => (∃ r : Int, v = .int .i64 r ∧ (0 ≤ r ↔ x ∈ l)) ∧ Fs = [] := by
  have g := good_slices_Index_int_int w (Un [])
  refine con_of_sx (cx := cx_slices_Index_int_int w (Un [])) g b_slices_Index_int_int rfl rfl (β := Va.z) [.c (.v (.slice A l.length c)), .c (.v (.int .i64 x))] 0 [] [rdF 1 A l.length (ints l)] rfl rfl ((Sat.start rfl).rd (fun _ h => by cases h) hr) ?_
  refine loop_rule 0 (fun k : Nat => [(0, .c (.v (.slice A l.length c))), (1, .c (.v (.int .i64 x))), (7, .c (.v (.int .i64 l.length))), (8, .c (.v (.int .i64 k)))]) (fun _ => []) (fun _ => [rdF 1 A l.length (ints l)])
    (fun k => k ≤ l.length ∧ x ∉ l.take k) (fun k => l.length - k) 0 ⟨Nat.zero_le _, by simp⟩ (Ent.same ⟨rfl, rfl, rfl, rfl, trivial⟩ rfl) g ?_
  rintro k ⟨hk, hx⟩
  refine BIf.dec (fun hlt => ?_) (fun hge => ?_)
  · have hkl : k < l.length := by omega
    obtain ⟨y, hy, hym⟩ := at_lt hkl
    obtain ⟨ad, rfl, _⟩ := hr.2 (by omega)
    refine ⟨ad, k, rfl, rfl, hkl, _, fun β w' hs => Rd.cell1 (hs.get 0 rfl) (ints_at hy), ?_⟩
    refine BIf.dec (fun he => ?_) (fun hne => ?_)
    · intro β w' hs
      refine hs.fin [] ⟨⟨(k : Int), rfl, ?_⟩, rfl⟩
      have hxy : x = y := by omega
      subst hxy
      exact ⟨fun _ => hym, fun _ => by omega⟩
    · refine ⟨((k + 1 : Nat) : Int), by rw [wrap_i64 (by omega) (by omega)]; rfl, ?_⟩
      refine ⟨k + 1, ⟨hkl, ?_⟩, by omega, Ent.same ⟨rfl, rfl, rfl, rfl, trivial⟩ rfl⟩
      rw [List.take_add_one, hy]
      intro q
      rcases List.mem_append.1 q with q | q
      · exact hx q
      · have hq : x = y := by simpa using q
        exact hne (by rw [hq])
  · intro β w' hs
    refine hs.fin [] ⟨⟨-1, rfl, ?_⟩, rfl⟩
    have hke : k = l.length := by omega
    rw [hke, List.take_length] at hx
    exact ⟨fun h => by omega, fun h => (hx h).elim⟩
open Classical in
theorem containsI_c (w : World) (A : Option Addr) (l : List Nat) (c x : Nat) (hr : Rd 1 A l.length (ints l) w) (hn : l.length ≤ 10000000000000) :
    Pu Tryd.prog 122 #[.slice A l.length c, .int .i64 x] w (.bool (decide (x ∈ l))) := by
  have g := good_slices_Contains_int_int w (Un [])
  refine con_of_sx (cx := cx_slices_Contains_int_int w (Un [])) g b_slices_Contains_int_int rfl rfl (β := Va.z) [.c (.v (.slice A l.length c)), .c (.v (.int .i64 x))] 0 [] [rdF 1 A l.length (ints l)] rfl rfl ((Sat.start rfl).rd (fun _ h => by cases h) hr) ?_
  refine call_con [] (fun β w' hs => indexI_c w' A l c x (hs.get 0 rfl) hn) ?_
  rintro v Fs ⟨⟨r, rfl, hri⟩, rfl⟩
  intro β w' hs
  refine hs.fin [] ⟨?_, rfl⟩
  show Value.bool (decide (0 ≤ r)) = _
  congr 1
  exact decide_eq_decide.2 hri
/-- A copy's parts. -/
def copyFs (t : Bx.Term) (a : TA) : List Fact := [browF ty_uint8 a.m t.mask a.mc, irowF a.l t.list a.lc, browF ty_uint8 a.t t.text a.tc, browF ty_uint8 a.k t.key a.kc]
theorem copyOf_c (w : World) (t : Bx.Term) (a : TA) (hr : TRd t a w) (hs : TSz t) :
    Con Tryd.prog n_box_copyOf #[.agg (termV t a).toArray] w [] fun v Fs => ∃ a', v = .agg (termV t a').toArray ∧ Fs = copyFs t a' := by
  have g := good_box_copyOf w (Un [])
  have hkey := hs.key
  have htext := hs.text
  have hmask := hs.mask
  have hlist := hs.list
  refine con_of_sx (cx := cx_box_copyOf w (Un [])) g b_box_copyOf rfl rfl (β := Va.z) [.agg (termS t a)] 0 [] [oldF w] rfl rfl (old_sat rfl) ?_
  have hS : ∀ {n : Nat} {F : List Fact}, Sub (cx_box_copyOf w (Un [])) n [⟨1, ty_box_Term, ti150.zero.map SL.v⟩, ⟨0, ty_box_Term, termS t a⟩] F [⟨0, ty_box_Term, termS t a⟩] [] := fun {n F} => Sub.of (List.sublist_cons_self _ _) (List.nil_sublist _)
  refine draw_rule g p_box_copyOf_1 (by kernel_rfl) [⟨0, ty_box_Term, termS t a⟩] [] hS ?_
  refine call_con [] (fun β w' hs => clone_c w' a.k t.key a.kc (Rd.old hr.hk (hs.get 0 rfl)) (by omega)) ?_
  rintro v Fs ⟨A1, c1, rfl, _, _, rfl⟩
  refine ⟨hS, ?_⟩
  refine call_con [] (fun β w' hs => clone_c w' a.t t.text a.tc (Rd.old hr.ht (hs.get 1 rfl)) (by omega)) ?_
  rintro v Fs ⟨A2, c2, rfl, _, _, rfl⟩
  refine ⟨hS, ?_⟩
  refine call_con [] (fun β w' hs => cloneI_c w' a.l t.list a.lc (Rd.old hr.hl (hs.get 2 rfl)) (by omega)) ?_
  rintro v Fs ⟨A3, c3, rfl, _, _, rfl⟩
  refine ⟨hS, ?_⟩
  refine call_con [] (fun β w' hs => clone_c w' a.m t.mask a.mc (Rd.old hr.hm (hs.get 3 rfl)) (by omega)) ?_
  rintro v Fs ⟨A4, c4, rfl, _, _, rfl⟩
  refine ⟨hS, ?_⟩
  intro β w' hs
  exact (hs.keepB (List.nil_sublist _)).fin [0, 1, 2, 3] ⟨⟨A1, A2, A3, A4, c1, c2, c3, c4⟩, rfl, rfl⟩ rfl rfl rfl ⟨rfl, rfl, rfl, rfl, trivial⟩
end Go.Proofs.YthkjfepbmnabkaaDoor.Sx

/- slices.Sort at numbers, as a contract. -/
namespace Go.Proofs.YthkjfepbmnabkaaDoor.Sx
open Go
attribute [local irreducible] Calls

def sortN (l : List Nat) : List Nat := l.mergeSort (fun x y => decide (x ≤ y))
theorem sortN_len (l : List Nat) : (sortN l).length = l.length := by simp [sortN]
theorem sortN_map (l : List Nat) : (l.map Int.ofNat).mergeSort (fun x y => decide (x ≤ y)) = (sortN l).map Int.ofNat := by
  refine (List.map_mergeSort fun a _ b _ => ?_).symm
  exact decide_eq_decide.2 (Int.ofNat_le).symm
theorem insI_c (w : World) : Con Tryd.prog n_slices_insertionSortOrdered_int #[.slice none 0 0, .int .i64 0, .int .i64 0] w [] fun v Fs => v = .tuple #[] ∧ Fs = [] := by
  refine con_of_sx (cx := cx_slices_insertionSortOrdered_int w (Un [])) (good_slices_insertionSortOrdered_int w (Un [])) b_slices_insertionSortOrdered_int rfl rfl (β := Va.z) [.c (.v (.slice none 0 0)), .c (.v (.int .i64 0)), .c (.v (.int .i64 0))] 0 [] [] rfl rfl (Sat.start rfl) ?_
  have g := good_slices_insertionSortOrdered_int w (Un [])
  refine ⟨1, rfl, ?_⟩
  refine loop_rule 0 (fun _ : Unit => [(0, .c (.v (.slice none 0 0))), (1, .c (.v (.int .i64 0))), (2, .c (.v (.int .i64 0))), (6, .c (.v (.int .i64 1)))]) (fun _ => []) (fun _ => []) (fun _ => True) (fun _ => 0) () trivial (Ent.same ⟨rfl, rfl, rfl, rfl, trivial⟩ rfl) g ?_
  rintro ⟨⟩ -
  intro β w' hs
  exact hs.fin [] ⟨rfl, rfl⟩
theorem pdqI_c (w : World) (m : Int) : Con Tryd.prog n_slices_pdqsortOrdered_int #[.slice none 0 0, .int .i64 0, .int .i64 0, .int .i64 m] w [] fun v Fs => v = .tuple #[] ∧ Fs = [] := by
  refine con_of_sx (cx := cx_slices_pdqsortOrdered_int w (Un [])) (good_slices_pdqsortOrdered_int w (Un [])) b_slices_pdqsortOrdered_int rfl rfl (β := Va.z) [.c (.v (.slice none 0 0)), .c (.v (.int .i64 0)), .c (.v (.int .i64 0)), .c (.v (.int .i64 m))] 0 [] [] rfl rfl (Sat.start rfl) ?_
  have g := good_slices_pdqsortOrdered_int w (Un [])
  refine loop_rule 0 (fun _ : Unit => [(0, .c (.v (.slice none 0 0))), (1, .c (.v (.int .i64 0))), (2, .c (.v (.int .i64 0)))]) (fun _ => []) (fun _ => []) (fun _ => True) (fun _ => 0) () trivial (Ent.same ⟨rfl, rfl, rfl, trivial⟩ rfl) g ?_
  rintro ⟨⟩ -
  refine ⟨0, rfl, ?_⟩
  refine call_con [] (fun β w' hs => insI_c w') ?_
  rintro v Fs ⟨rfl, rfl⟩
  intro β w' hs
  exact hs.fin [] ⟨rfl, rfl⟩
theorem bits0_c (w : World) : Pu Tryd.prog n_math_bits_Len #[.int .u64 0] w (.int .i64 0) := by
  refine pu_of (Calls.mono (Tryd.bits_Len 0 w (by decide) (by decide)) ?_)
  rintro e w' ⟨rfl, rfl⟩
  exact ⟨_, rfl, rfl, Chg.refl _ _⟩
theorem sortNil_c (w : World) : Con Tryd.prog n_slices_Sort_int_int #[.slice none 0 0] w [] fun v Fs => v = .tuple #[] ∧ Fs = [] := by
  refine con_of_sx (cx := cx_slices_Sort_int_int w (Un [])) (good_slices_Sort_int_int w (Un [])) b_slices_Sort_int_int rfl rfl (β := Va.z) [.c (.v (.slice none 0 0))] 0 [] [] rfl rfl (Sat.start rfl) ?_
  refine ⟨0, rfl, ?_⟩
  refine call_pu (fun β w' hs => bits0_c w') ?_
  refine call_con [] (fun β w' hs => pdqI_c w' 0) ?_
  rintro v Fs ⟨rfl, rfl⟩
  intro β w' hs
  exact hs.fin [] ⟨rfl, rfl⟩
theorem sort_c (w : World) (A : Option Addr) (l : List Nat) (c : Nat) (hm : Mem w [irowF A l c]) (hn : l.length ≤ 10000000000000) :
    Con Tryd.prog n_slices_Sort_int_int #[.slice A l.length c] w [irowF A l c] fun v Fs => v = .tuple #[] ∧ Fs = [irowF A (sortN l) c] := by
  have hp : w.ownsRow 0 ty_int 1 (.slice A l.length c) l.length (ints l) := hm.fact _ (List.mem_singleton.2 rfl)
  have hi : ints l = (l.map Int.ofNat).map (Value.int .i64) := by simp [ints]
  rcases hp.2 with ⟨hv, h0⟩ | ⟨g, cap, cur, hv, hbase, hb, h1, h2, h3, h4⟩
  · obtain rfl : l = [] := List.length_eq_zero_iff.1 h0
    cases hv
    refine Calls.mono (sortNil_c w) ?_
    rintro e w' ⟨v, rfl, Fs, ⟨rfl, rfl⟩, hc, _⟩
    rw [Un.nil] at hc
    refine ⟨_, rfl, [irowF none [] 0], ⟨rfl, by simp [sortN]⟩, ⟨hc.os, hc.tape, hc.output, hc.size, fun k hk _ => hc.same k hk (fun h => h)⟩, ⟨fun f hf => ?_, fun f hf k hk => ?_, List.pairwise_singleton _ _⟩, ⟨rfl, trivial⟩, fun f hf k hk => ?_⟩
    · obtain rfl := List.mem_singleton.1 hf; exact World.ownsRow_nil _ _ _ _
    · obtain rfl := List.mem_singleton.1 hf; cases hk
    · obtain rfl := List.mem_singleton.1 hf; cases hk
  · cases hv
    have hlt : g < w.heap.size := (Array.getElem?_eq_some_iff.1 hb).1
    refine Calls.mono (show Calls Tryd.prog _ #[.slice (some ⟨g, 0, none⟩) l.length c] w _ from by
      have := Tryd.slices_Sort_int g 0 c (l.map Int.ofNat) w (holds_of_blockI hb (by rw [← hi, List.length_map]; simpa using h4)) hlt (by rw [List.length_map]; omega)
      rw [List.length_map] at this
      exact this) ?_
    rintro e w' ⟨rfl, n, os, rfl⟩
    rw [sortN_map]
    have hg := grownBy_sortedI (w := w) (g := g) (n := n) (os := os) ((sortN l).map Int.ofNat).toArray
    have ho := ownsRow_sortedI (w := w) (base := 0) (n := n) (os := os) (ss := l.map Int.ofNat) (ts := (sortN l).map Int.ofNat) (by simp [sortN_len]) hbase hb (by simpa using h1) h2 h3
    refine ⟨_, rfl, [irowF (some ⟨g, 0, none⟩) (sortN l) c], ⟨rfl, rfl⟩, ?_, ⟨fun f hf => ?_, fun f hf k hk => ?_, List.pairwise_singleton _ _⟩, ⟨rfl, trivial⟩, fun f hf k hk => ?_⟩
    · exact ⟨hg.os, hg.tape, hg.output, hg.size, fun k hk hnk => hg.block k hk (fun e => hnk ⟨_, List.mem_singleton.2 rfl, e.symm⟩)⟩
    · obtain rfl := List.mem_singleton.1 hf
      rw [List.length_map] at ho
      show World.ownsRow _ 0 ty_int 1 (.slice (some ⟨g, 0, none⟩) (sortN l).length c) (sortN l).length (ints (sortN l))
      rw [sortN_len, show ints (sortN l) = ((sortN l).map Int.ofNat).map (Value.int .i64) from by simp [ints]]
      exact ho
    · obtain rfl := List.mem_singleton.1 hf
      have : some g = some k := hk
      cases this
      exact Nat.lt_of_lt_of_le hlt hg.size
    · obtain rfl := List.mem_singleton.1 hf
      exact .inl ⟨_, List.mem_singleton.2 rfl, hk⟩
end Go.Proofs.YthkjfepbmnabkaaDoor.Sx

/- A box in memory. -/
namespace Go.Proofs.YthkjfepbmnabkaaDoor.Sx
open Go
attribute [local irreducible] Calls

def str (l : List UInt8) : ByteArray := ⟨l.toArray⟩
theorem str_inj {l m : List UInt8} : str l = str m ↔ l = m := by
  constructor
  · intro h
    have := congrArg (fun s : ByteArray => s.data.toList) h
    simpa [str] using this
  · rintro rfl; rfl
def numV (n : Nat) : Value := .int .i64 (n : Int)
/-- The map of prints: from number k on. -/
def mapL : List Bx.Term → Nat → ML
  | [], _ => []
  | t :: r, k => (str (Bx.print t), numV (k + 1)) :: mapL r (k + 1)
theorem mapL_look (t : Bx.Term) : ∀ (L : List Bx.Term) (k : Nat), mlook (mapL L k) (str (Bx.print t)) = (Bx.place t L).map fun i => numV (i + k + 1)
  | [], _ => rfl
  | x :: r, k => by
    simp only [mapL, mlook, Bx.place]
    by_cases h : x = t
    · subst h
      simp
    · have h' : ¬ str (Bx.print x) = str (Bx.print t) := fun q => h (Bx.print_inj (str_inj.1 q))
      rw [if_neg h', if_neg h, mapL_look t r (k + 1), Option.map_map]
      congr 1
      funext i
      simp only [Function.comp]
      rw [show i + (k + 1) + 1 = i + 1 + k + 1 by omega]
theorem mput_new : ∀ {l : ML} {s : ByteArray} {v : Value}, mlook l s = none → mput l s v = l ++ [(s, v)]
  | [], _, _, _ => rfl
  | (k, u) :: r, s, v, h => by
    simp only [mlook] at h
    split at h
    · cases h
    · rename_i hne
      simp only [mput, if_neg hne, List.cons_append]
      rw [mput_new h]
theorem mapL_snoc (t : Bx.Term) : ∀ (L : List Bx.Term) (k : Nat), mapL (L ++ [t]) k = mapL L k ++ [(str (Bx.print t), numV (L.length + k + 1))]
  | [], k => by simp [mapL]
  | x :: r, k => by
    simp only [List.cons_append, mapL, List.length_cons]
    rw [mapL_snoc t r (k + 1), show r.length + (k + 1) + 1 = r.length + 1 + k + 1 by omega]

/-- A term's parts, to be read. -/
def TD_ (t : Bx.Term) (a : TA) (k : Nat) : Prop := (bsF a.k t.key).D k ∨ (bsF a.t t.text).D k ∨ (rdF 1 a.l t.list.length (ints t.list)).D k ∨ (bsF a.m t.mask).D k
theorem TRd.st {t : Bx.Term} {a : TA} {w w' : World} (hs : ∀ k, TD_ t a k → w'.heap[k]? = w.heap[k]?) (h : TRd t a w) : TRd t a w' :=
  ⟨(bsF a.k t.key).st w w' (fun k hk => hs k (.inl hk)) h.hk, (bsF a.t t.text).st w w' (fun k hk => hs k (.inr (.inl hk))) h.ht, (rdF 1 a.l t.list.length (ints t.list)).st w w' (fun k hk => hs k (.inr (.inr (.inl hk)))) h.hl, (bsF a.m t.mask).st w w' (fun k hk => hs k (.inr (.inr (.inr hk)))) h.hm⟩
def trdF (t : Bx.Term) (a : TA) : Fact where
  own := false
  D := TD_ t a
  p := TRd t a
  st := fun w w' hs h => TRd.st hs h
/-- All terms' parts. -/
def partsF (ts : List (Bx.Term × TA)) : Fact where
  own := true
  D := fun k => ∃ p ∈ ts, TD_ p.1 p.2 k
  p := fun w => ∀ p ∈ ts, TRd p.1 p.2 w
  st := fun w w' hs h p hp => TRd.st (fun k hk => hs k ⟨p, hp, hk⟩) (h p hp)
/-- Where a box's parts lie. -/
structure Lay where
  A : Option Addr
  c : Nat
  m : Nat
  ts : List (Bx.Term × TA)
def boxCells (B : Bx.Box) (y : Lay) : List Value := [.bool B.sym, .bool B.full, .slice y.A B.L.length y.c, .map (some y.m)]
def termsV (ts : List (Bx.Term × TA)) : List Value := ts.flatMap fun p => termV p.1 p.2
def bxFs (b : Nat) (B : Bx.Box) (y : Lay) : List Fact := [bkF b ty_box_Box (boxCells B y), rowF ty_box_Term 6 (.slice y.A B.L.length y.c) B.L.length (termsV y.ts), mapF y.m (mapL B.L 0), partsF y.ts]
/-- A box, whole. -/
def bxF (b : Nat) (B : Bx.Box) (y : Lay) : Fact := sepF (bxFs b B y)
theorem box_cell {b : Nat} {B : Bx.Box} {y : Lay} {w : World} (h : (bkF b ty_box_Box (boxCells B y)).p w) {o : Nat} {v : Value} (ho : (boxCells B y)[o]? = some v) : w.cell? ⟨b, o, none⟩ = some v := by
  have hb : w.heap[b]? = some (.cells (boxCells B y).toArray ty_box_Box (0, 0)) := h
  rw [cell_of_row w b o _ _ _ hb]
  simpa using ho
theorem bk_cell {b ty : Nat} {cs : List Value} {w : World} (h : (bkF b ty cs).p w) {o : Nat} {v : Value} (ho : cs[o]? = some v) : w.cell? ⟨b, o, none⟩ = some v := by
  have hb : w.heap[b]? = some (.cells cs.toArray ty (0, 0)) := h
  rw [cell_of_row w b o _ _ _ hb]
  simpa using ho
theorem termV_one (t : Bx.Term) (a : TA) : ∀ u ∈ termV t a, u.oneCell' = true := by
  intro u hu
  simp only [termV, List.mem_cons, List.not_mem_nil, or_false] at hu
  rcases hu with rfl | rfl | rfl | rfl | rfl | rfl <;> rfl
theorem one_mem {v : Value} (h : v.oneCell' = true) : ∀ u ∈ [v], u.oneCell' = true := fun u hu => by obtain rfl := List.mem_singleton.1 hu; exact h
/-- What a term's handle is, in memory; the box behind it. -/
def tagOut (b : Nat) (B : Bx.Box) (t : Bx.Term) (v : Value) (Fs : List Fact) : Prop :=
  ∃ A c y', v = .slice A 32 c ∧ 32 ≤ c ∧ c ≤ maxLen ∧ y'.ts.map (·.1) = (B.tag t).2.L ∧ Fs = [browF ty_uint8 A (B.tag t).1 c, bxF b (B.tag t).2 y']
theorem zero_int (w : World) : (zeroValue ty_int).run Tryd.prog w = .ok (.int .i64 0) w := by kernel_rfl
theorem tag_c (w : World) (b : Nat) (B : Bx.Box) (y : Lay) (t : Bx.Term) (a : TA) (hts : y.ts.map (·.1) = B.L) (hL : B.L.length ≤ 4096) (hs : TSz t) (hm : Mem w [bxF b B y, trdF t a]) :
    Con Tryd.prog n_box_Box_tag #[.pointer (some ⟨b, 0, none⟩), .agg (termV t a).toArray] w [bxF b B y] (tagOut b B t) := by
  have g := good_box_Box_tag w (Un [bxF b B y])
  have hs0 : Sat (cx_box_Box_tag w (Un [bxF b B y])) Va.z 0 [] [bxF b B y, trdF t a] w := hm.sat0 rfl (fun f hf ho k hk => by
    simp only [List.mem_cons, List.not_mem_nil, or_false] at hf
    rcases hf with rfl | rfl
    · exact ⟨_, List.mem_singleton.2 rfl, hk⟩
    · cases ho)
  have hs1 := hs0.unsep 0 rfl
  refine con_of_sx (cx := cx_box_Box_tag w (Un [bxF b B y])) g b_box_Box_tag rfl rfl (β := Va.z) [.c (.v (.pointer (some ⟨b, 0, none⟩))), .agg (termS t a)] 0 [] (bxFs b B y ++ [trdF t a]) rfl rfl hs1 ?_
  refine call_pu (fun β w' hs' => print_c w' t a (hs'.get 4 rfl) hs) ?_
  refine ⟨.map (some y.m), fun β w' hs' => box_cell (hs'.get 0 rfl) (o := 3) rfl, ?_⟩
  have hlook := mapL_look t B.L 0
  cases hpl : Bx.place t B.L with
  | some i =>
    rw [hpl] at hlook
    refine ⟨.int .i64 0, zero_int, mapL B.L 0, some (numV (i + 1)), fun β w' hs' => hs'.get 2 rfl, hlook, ?_⟩
    refine call_con [] (fun β w' hs' => handle_c w' (i + 1)) ?_
    rintro v Fs ⟨A1, c1, rfl, q1, q2, rfl⟩
    have htag : B.tag t = (Bx.handle (i + 1), B) := by unfold Bx.Box.tag; rw [hpl]
    intro β w' hs'
    have hs2 := (hs'.keepB (List.nil_sublist _)).sep [1, 2, 3, 4] rfl ⟨rfl, rfl, rfl, rfl, trivial⟩
    exact hs2.fin [1, 0] ⟨A1, c1, y, rfl, q1, q2, by rw [htag]; exact hts, by rw [htag]; rfl⟩
  | none =>
    rw [hpl] at hlook
    refine ⟨.int .i64 0, zero_int, mapL B.L 0, none, fun β w' hs' => hs'.get 2 rfl, hlook, ?_⟩
    refine ⟨.slice y.A B.L.length y.c, fun β w' hs' => box_cell (hs'.get 0 rfl) (o := 2) rfl, ?_⟩
    refine BIf.dec (fun hge => ?_) (fun hlt => ?_)
    · have hge0 : (4096 : Int) ≤ (B.L.length : Int) := hge
      have hge1 : 4096 ≤ B.L.length := by omega
      refine ⟨_, fun β w' hs' => hs'.bkSet 0 (o := 1) (us := [.bool true]) rfl (by show 2 ≤ 4; decide) (one_mem rfl), ?_⟩
      refine ⟨32, 32, rfl, rfl, Nat.le_refl _, by decide, by decide, ?_⟩
      intro b2
      have htag : B.tag t = (Bx.noughts, { B with full := true }) := by unfold Bx.Box.tag; rw [hpl]; simp only; rw [if_pos hge1]
      intro β w' hs'
      have hs2 := (hs'.keepB (List.nil_sublist _)).sep [1, 2, 3, 4] rfl ⟨rfl, rfl, rfl, rfl, trivial⟩
      exact hs2.fin [1, 0] ⟨some ⟨b2, 0, none⟩, 32, y, rfl, Nat.le_refl _, by decide, by rw [htag]; exact hts, by rw [htag]; rfl⟩
    · have hlt0 : ¬ (4096 : Int) ≤ (B.L.length : Int) := hlt
      have hlt1 : ¬ 4096 ≤ B.L.length := by omega
      have htag : B.tag t = (Bx.handle (B.L.length + 1), { B with L := B.L ++ [t] }) := by unfold Bx.Box.tag; rw [hpl]; simp only; rw [if_neg hlt1]
      refine draw_rule g p_box_Box_tag_8 (by kernel_rfl) [⟨0, ty_box_Term, termS t a⟩] [bkF b ty_box_Box (boxCells B y)] (subPerm [0]) ?_
      refine ⟨.slice y.A B.L.length y.c, fun β w' hs' => box_cell (hs'.get 0 rfl) (o := 2) rfl, ?_⟩
      refine call_con [] (fun β w' hs' => copyOf_c w' t a (hs'.get 4 rfl) hs) ?_
      rintro v Fs ⟨a', rfl, rfl⟩
      refine ⟨subPerm [4], ?_⟩
      intro b7
      refine ⟨subPerm [5], ?_⟩
      refine ⟨6, B.L.length, B.L.length + 1, termsV y.ts, termV t a', termsV (y.ts ++ [(t, a')]), rfl, fun β w' hs' => row_rd (hs'.get 0 rfl), termV_one t a', rfl, by simp [termsV], by rw [maxLen_eq]; omega, by show (B.L.length + 1) * 112 ≤ _; omega, ?_⟩
      intro A' c' q1 q2 q3
      refine ⟨subPerm [5], ?_⟩
      refine ⟨subPerm [5], ?_⟩
      refine ⟨_, fun β w' hs' => hs'.bkSet 5 (o := 2) (us := [.slice A' (B.L.length + 1) c']) rfl (by show 3 ≤ 4; decide) (one_mem rfl), ?_⟩
      have hbx : putAll (boxCells B y) 2 [.slice A' (B.L.length + 1) c'] = [.bool B.sym, .bool B.full, .slice A' (B.L.length + 1) c', .map (some y.m)] := rfl
      rw [hbx]
      refine draw_rule g p_box_Box_tag_9 (by kernel_rfl) [⟨0, ty_box_Term, termS t a⟩] [bkF b ty_box_Box [.bool B.sym, .bool B.full, .slice A' (B.L.length + 1) c', .map (some y.m)]] (subPerm [5]) ?_
      refine ⟨.map (some y.m), fun β w' hs' => bk_cell (hs'.get 0 rfl) (o := 3) rfl, ?_⟩
      refine ⟨.slice A' (B.L.length + 1) c', fun β w' hs' => bk_cell (hs'.get 0 rfl) (o := 2) rfl, ?_⟩
      refine ⟨_, fun _ => _, fun β w' hs' => hs'.mapPutY g 7 rfl (t := ty_map_string_int) (str (Bx.print t)) (numV (B.L.length + 1)), fun _ => ?_⟩
      refine ⟨subPerm [5], ?_⟩
      refine ⟨.slice A' (B.L.length + 1) c', fun β w' hs' => bk_cell (hs'.get 5 rfl) (o := 2) rfl, ?_⟩
      refine call_con [] (fun β w' hs' => handle_c w' (B.L.length + 1)) ?_
      rintro v Fs ⟨A9, c9, rfl, r1, r2, rfl⟩
      have hmap : mput (mapL B.L 0) (str (Bx.print t)) (numV (B.L.length + 1)) = mapL (B.L ++ [t]) 0 := by rw [mput_new hlook, mapL_snoc]
      have hbF : bxF b { B with L := B.L ++ [t] } ⟨A', c', y.m, y.ts ++ [(t, a')]⟩ = sepF [bkF b ty_box_Box [.bool B.sym, .bool B.full, .slice A' (B.L.length + 1) c', .map (some y.m)], rowF ty_box_Term 6 (.slice A' (B.L.length + 1) c') (B.L.length + 1) (termsV (y.ts ++ [(t, a')])), mapF y.m (mapL (B.L ++ [t]) 0), partsF (y.ts ++ [(t, a')])] := by
        simp [bxF, bxFs, boxCells]
      intro β w' hs'
      have hs2 := (hs'.keepB (List.nil_sublist _)).fuse [2, 3, 4, 5, 9] (partsF (y.ts ++ [(t, a')])) (fun w hm => ?_) (fun k hk => ?_) rfl ⟨rfl, rfl, rfl, rfl, rfl, trivial⟩
      · have hs3 := hs2.sep [3, 4, 5, 0] rfl ⟨rfl, rfl, rfl, rfl, trivial⟩
        refine hs3.fin [1, 0] ⟨A9, c9, ⟨A', c', y.m, y.ts ++ [(t, a')]⟩, rfl, r1, r2, ?_, ?_⟩
        · rw [htag]
          show (y.ts ++ [(t, a')]).map (·.1) = B.L ++ [t]
          rw [List.map_append, hts]
          rfl
        · rw [htag]
          show _ = [browF ty_uint8 A9 (Bx.handle (B.L.length + 1)) c9, bxF b { B with L := B.L ++ [t] } ⟨A', c', y.m, y.ts ++ [(t, a')]⟩]
          rw [hbF, ← hmap]
          rfl
      · have hm' : Mem w [browF ty_uint8 a'.m t.mask a'.mc, irowF a'.l t.list a'.lc, browF ty_uint8 a'.t t.text a'.tc, browF ty_uint8 a'.k t.key a'.kc, partsF y.ts] := hm
        intro p hp
        rcases List.mem_append.1 hp with hp | hp
        · exact hm'.fact (partsF y.ts) (by simp) p hp
        · obtain rfl := List.mem_singleton.1 hp
          exact ⟨row_rd (hm'.fact (browF ty_uint8 a'.k t.key a'.kc) (by simp)), row_rd (hm'.fact (browF ty_uint8 a'.t t.text a'.tc) (by simp)), row_rd (hm'.fact (irowF a'.l t.list a'.lc) (by simp)), row_rd (hm'.fact (browF ty_uint8 a'.m t.mask a'.mc) (by simp))⟩
      · show Un [browF ty_uint8 a'.m t.mask a'.mc, irowF a'.l t.list a'.lc, browF ty_uint8 a'.t t.text a'.tc, browF ty_uint8 a'.k t.key a'.kc, partsF y.ts] k
        obtain ⟨p, hp, hk⟩ := hk
        rcases List.mem_append.1 hp with hp | hp
        · exact ⟨partsF y.ts, by simp, p, hp, hk⟩
        · obtain rfl := List.mem_singleton.1 hp
          have hrow : ∀ {size e n c : Nat} {A : Option Addr} {xs : List Value}, (rdF size A n xs).D k → (rowF e size (.slice A n c) n xs).D k := by
            rintro size e n c A xs ⟨_, ad, rfl, rfl⟩
            rfl
          rcases hk with hk | hk | hk | hk
          · exact ⟨browF ty_uint8 a'.k t.key a'.kc, by simp, hrow hk⟩
          · exact ⟨browF ty_uint8 a'.t t.text a'.tc, by simp, hrow hk⟩
          · exact ⟨irowF a'.l t.list a'.lc, by simp, hrow hk⟩
          · exact ⟨browF ty_uint8 a'.m t.mask a'.mc, by simp, hrow hk⟩
end Go.Proofs.YthkjfepbmnabkaaDoor.Sx

/- A symbolic box's hash of one part. -/
namespace Go.Proofs.YthkjfepbmnabkaaDoor.Sx
open Go
attribute [local irreducible] Calls

theorem bx_bk {b : Nat} {B : Bx.Box} {y : Lay} {w : World} (h : (bxF b B y).p w) : (bkF b ty_box_Box (boxCells B y)).p w := h.1 _ (by simp [bxFs])
theorem bx_rd {b : Nat} {B : Bx.Box} {y : Lay} {w : World} (h : (bxF b B y).p w) : Rd 6 y.A B.L.length (termsV y.ts) w := row_rd (h.1 (rowF ty_box_Term 6 (.slice y.A B.L.length y.c) B.L.length (termsV y.ts)) (by simp [bxFs]))
theorem bx_parts {b : Nat} {B : Bx.Box} {y : Lay} {w : World} (h : (bxF b B y).p w) : (partsF y.ts).p w := h.1 (partsF y.ts) (by simp [bxFs])
/-- A term of a text alone. -/
def hashT (l : List UInt8) : Bx.Term := ⟨1, [], l, 0, [], []⟩
theorem hashT_sz {l : List UInt8} (hl : l.length ≤ 1000000) : TSz (hashT l) := ⟨by show 1 < 1000; decide, by show 0 < 1000; decide, Nat.zero_le _, hl, Nat.zero_le _, fun _ h => (by cases h), Nat.zero_le _⟩
theorem rd_nil (w : World) (A : Option Addr) : Rd 1 A 0 [] w := ⟨rfl, fun h => by cases h⟩
theorem hashS1_c (w : World) (b : Nat) (B : Bx.Box) (y : Lay) (P A : Option Addr) (cP c : Nat) (l : List UInt8) (hsym : B.sym = true) (hts : y.ts.map (·.1) = B.L) (hL : B.L.length ≤ 4096) (hl : l.length ≤ 1000000) (hm : Mem w [bxF b B y, rdF 1 P 1 [.slice A l.length c], bsF A l]) :
    Con Tryd.prog n_box_Box_Hash #[.pointer (some ⟨b, 0, none⟩), .slice P 1 cP] w [bxF b B y] (tagOut b B (hashT l)) := by
  have g := good_box_Box_Hash w (Un [bxF b B y])
  have hs0 : Sat (cx_box_Box_Hash w (Un [bxF b B y])) Va.z 0 [] [bxF b B y, rdF 1 P 1 [.slice A l.length c], bsF A l] w := hm.sat0 rfl (fun f hf ho k hk => by
    simp only [List.mem_cons, List.not_mem_nil, or_false] at hf
    rcases hf with rfl | rfl | rfl
    · exact ⟨_, List.mem_singleton.2 rfl, hk⟩
    · cases ho
    · cases ho)
  refine con_of_sx (cx := cx_box_Box_Hash w (Un [bxF b B y])) g b_box_Box_Hash rfl rfl (β := Va.z) [.c (.v (.pointer (some ⟨b, 0, none⟩))), .c (.v (.slice P 1 cP))] 0 [] _ rfl rfl hs0 ?_
  refine ⟨.bool true, fun β w' hs => box_cell (bx_bk (hs.get 0 rfl)) (o := 0) (by simp [boxCells, hsym]), ?_⟩
  refine call_con [] (fun β w' hs => join1_c w' P A cP c l (hs.get 1 rfl) (hs.get 2 rfl) (by omega)) ?_
  rintro v Fs ⟨A1, c1, rfl, q1, q2, rfl⟩
  refine call_con [1] (R := tagOut b B (hashT l)) (fun β w' hs => by
    have h2 := hs.fuse [0] (trdF (hashT l) ⟨none, A1, none, none, 0, c1, 0, 0⟩) (fun w hm => ⟨Bs.nil w none, row_rd (hm.fact _ List.mem_cons_self), rd_nil w none, Bs.nil w none⟩) (fun k hk => by
      refine ⟨browF ty_uint8 A1 l c1, List.mem_singleton.2 rfl, ?_⟩
      rcases hk with ⟨q, _⟩ | ⟨_, ad, hA, rfl⟩ | ⟨q, _⟩ | ⟨q, _⟩
      · exact absurd q (Nat.lt_irrefl 0)
      · have hA' : A1 = some ad := hA
        subst hA'
        rfl
      · exact absurd q (Nat.lt_irrefl 0)
      · exact absurd q (Nat.lt_irrefl 0)) rfl ⟨rfl, trivial⟩
    exact tag_c w' b B y (hashT l) ⟨none, A1, none, none, 0, c1, 0, 0⟩ hts hL (hashT_sz hl) (h2.mem.take (js := [1, 0]) rfl)) ?_
  rintro v Fs ⟨A2, c2, y2, rfl, r1, r2, r3, rfl⟩
  intro β w' hs
  exact hs.fin [0, 1] ⟨A2, c2, y2, rfl, r1, r2, r3, rfl⟩
end Go.Proofs.YthkjfepbmnabkaaDoor.Sx

/- What looks like a handle, and its number. -/
namespace Go.Proofs.YthkjfepbmnabkaaDoor.Sx
open Go
attribute [local irreducible] Calls

theorem beq_c (w : World) (A B : Option Addr) (l m : List UInt8) (c d : Nat) (hl : Bs w A l) (hm : Bs w B m) : Pu Tryd.prog n_bytes_Equal #[.slice A l.length c, .slice B m.length d] w (.bool (decide (l = m))) := by
  refine pu_of (calls_of_sx (cx := cx_bytes_Equal w None_) (good_bytes_Equal w None_) b_bytes_Equal rfl rfl (β := Va.z) [.c (.v (.slice A l.length c)), .c (.v (.slice B m.length d))] 0 [] [oldF w] rfl rfl (old_sat rfl) ?_)
  refine ⟨l, fun β w hs => Rd.old hl (hs.get 0 rfl), ?_⟩
  refine ⟨m, fun β w hs => Rd.old hm (hs.get 0 rfl), ?_⟩
  intro β w' hs
  refine ⟨?_, hs.chg⟩
  show Value.bool (decide ((⟨l.toArray⟩ : ByteArray) = ⟨m.toArray⟩)) = _
  congr 1
  simp
theorem or_i64 {x y : Nat} (hx : x < 36028797018963968) (hy : y < 256) : bits .or .i64 ((x * 256 : Nat) : Int) (y : Int) = ((x * 256 + y : Nat) : Int) := by
  show IntKind.i64.wrap (((BitVec.ofInt 64 ((x * 256 : Nat) : Int)) ||| (BitVec.ofInt 64 (y : Int))).toNat : Int) = _
  have h1 : (BitVec.ofInt 64 ((x * 256 : Nat) : Int)).toNat = x <<< 8 := by
    rw [BitVec.toNat_ofInt, Nat.shiftLeft_eq]
    omega
  have h2 : (BitVec.ofInt 64 (y : Int)).toNat = y := by
    rw [BitVec.toNat_ofInt]
    omega
  rw [BitVec.toNat_or, h1, h2, ← Nat.shiftLeft_add_eq_or_of_lt (by omega) x, Nat.shiftLeft_eq, wrap_i64 (by omega) (by omega)]
theorem shl_i64 {x : Nat} (hx : x < 36028797018963968) : IntKind.i64.wrap ((x : Int) * 2 ^ (min (8 : Int).toNat IntKind.i64.bits)) = ((x * 256 : Nat) : Int) := by
  have h1 : min (8 : Int).toNat IntKind.i64.bits = 8 := rfl
  rw [h1, wrap_i64 (by omega) (by omega)]
  omega
def numberV (l : List UInt8) : Value := match Bx.looks l with
  | some n => .tuple #[.int .i64 (n : Int), .bool (decide ((0 : Int) < (n : Int)))]
  | none => .tuple #[.int .i64 0, .bool false]
theorem num_snoc (l : List UInt8) (x : UInt8) : Bx.num (l ++ [x]) = Bx.num l * 256 + x.toNat := by simp [Bx.num]
theorem num_lt : ∀ (l : List UInt8), Bx.num l < 256 ^ l.length := by
  intro l
  have key : ∀ (l : List UInt8) (a : Nat), List.foldl (fun n (b : UInt8) => n * 256 + b.toNat) a l < (a + 1) * 256 ^ l.length := by
    intro l
    induction l with
    | nil => intro a; simp
    | cons x r ih =>
      intro a
      have := ih (a * 256 + x.toNat)
      have hx := x.toNat_lt
      have h1 : (a * 256 + x.toNat + 1) * 256 ^ r.length ≤ ((a + 1) * 256) * 256 ^ r.length := Nat.mul_le_mul_right _ (by omega)
      rw [List.foldl_cons, List.length_cons, Nat.pow_succ]
      have h2 : (a + 1) * (256 ^ r.length * 256) = ((a + 1) * 256) * 256 ^ r.length := by rw [Nat.mul_comm (256 ^ r.length) 256, ← Nat.mul_assoc]
      rw [h2]
      omega
  have := key l 0
  simpa [Bx.num] using this
theorem number_c (w : World) (A : Option Addr) (l : List UInt8) (c : Nat) (hr : Bs w A l) (hc : l.length ≤ c) (hn : l.length ≤ 1000000000) : Pu Tryd.prog n_box_Number #[.slice A l.length c] w (numberV l) := by
  have g := good_box_Number w (Un [])
  refine con_of_sx (cx := cx_box_Number w (Un [])) g b_box_Number rfl rfl (β := Va.z) [.c (.v (.slice A l.length c))] 0 [] [oldF w] rfl rfl (old_sat rfl) ?_
  refine draw_rule g p_box_Number_1 (by kernel_rfl) [] [oldF w] Sub.refl ?_
  have none_ : (Bx.looks l = none) → ∀ (n : Nat) (H : List Bk) (F : List Fact), ∀ β w', Sat (cx_box_Number w (Un [])) β n H F w' → Fin w [] (fun u Fs => u = numberV l ∧ Fs = []) (.tuple #[.int .i64 0, .bool false]) w' := fun h n H F β w' hs => hs.fin [] ⟨by unfold numberV; rw [h], rfl⟩
  refine BIf.not (BIf.dec (fun h32 => ?_) (fun h32 => ?_))
  · have hl : l.length = 32 := by omega
    refine ⟨c, 28, 0, 28, c, _, rfl, rfl, rfl, by omega, by omega, Nat.zero_le _, rfl, rfl, rfl, ?_⟩
    refine call_con [] (fun β w' hs => mark_c w') ?_
    rintro v Fs ⟨b, rfl, rfl⟩
    refine ⟨subPerm [1], ?_⟩
    have e28 : (l.take 28).length = 28 := by simp; omega
    refine call_pu (v := .bool (decide (l.take 28 = Bx.front))) (fun β w' hs => by
      have h := beq_c w' (cutA A c 0 1) (some ⟨b, 0, none⟩) (l.take 28) Bx.front c 28 (Bs.cutB (Rd.old hr (hs.get 1 rfl)) hc (Nat.zero_le 28) (by omega) (by simp)) (row_rd (hs.get 0 rfl))
      rw [e28] at h
      exact h) ?_
    refine ⟨subPerm [1], ?_⟩
    refine BIf.not (BIf.dec (fun hf => ?_) (fun hf => ?_))
    · have hlk : Bx.looks l = some (Bx.num (l.drop 28)) := by unfold Bx.looks; rw [if_pos ⟨hl, hf⟩]
      refine ⟨c, 32, 28, 4, c - 28, _, rfl, hl.symm, rfl, by omega, by omega, by omega, rfl, rfl, rfl, ?_⟩
      have hd : (l.drop 28).length = 4 := by simp; omega
      have hrd : ∀ w', (oldF w).p w' → Bs w' (cutA A c 28 1) (l.drop 28) := fun w' ho => Bs.cutB (Rd.old hr ho) hc (show 28 ≤ 32 by decide) (by omega) (by rw [List.take_of_length_le (by omega)])
      refine loop_rule 0 (fun k : Nat => [(18, .c (.v (.slice (cutA A c 28 1) 4 (c - 28)))), (19, .c (.v (.int .i64 4))), (20, .c (.v (.int .i64 k))), (4, .c (.v (.int .i64 (Bx.num ((l.drop 28).take k)))))]) (fun _ => []) (fun _ => [oldF w])
        (fun k => k ≤ 4) (fun k => 4 - k) 0 (Nat.zero_le _) (Ent.mk' ⟨rfl, rfl, rfl, rfl, trivial⟩ rfl (fun β w' hs => hs.perm [1])) g ?_
      intro k hk
      refine BIf.dec (fun hlt => ?_) (fun hge => ?_)
      · have hk4 : k < (l.drop 28).length := by omega
        obtain ⟨x, hx, _⟩ := at_lt hk4
        obtain ⟨ad, hA⟩ := Bs.addr (hrd w (fun _ _ => rfl)) (by omega)
        have hnum : Bx.num ((l.drop 28).take k) < 36028797018963968 := by
          have h1 := num_lt ((l.drop 28).take k)
          have h2 : ((l.drop 28).take k).length ≤ 4 := by rw [List.length_take]; omega
          have h3 : 256 ^ ((l.drop 28).take k).length ≤ 256 ^ 4 := Nat.pow_le_pow_right (by decide) h2
          have h4 : 256 ^ 4 < 36028797018963968 := by decide
          omega
        have hxl := x.toNat_lt
        refine ⟨ad, k, hA, rfl, by omega, byte x, fun β w' hs => by
          have h := hrd w' (hs.get 0 rfl)
          rw [hA] at h
          exact Rd.cell1 h (by rw [List.getElem?_map, hx]; rfl), ?_⟩
        refine ⟨by decide, _, shl_i64 hnum, ?_⟩
        refine ⟨((x.toNat : Nat) : Int), wrap_i64 (by omega) (by omega), ?_⟩
        refine ⟨_, or_i64 hnum hxl, ?_⟩
        refine ⟨((k + 1 : Nat) : Int), by rw [wrap_i64 (by omega) (by omega)]; rfl, ?_⟩
        have e : Bx.num ((l.drop 28).take (k + 1)) = Bx.num ((l.drop 28).take k) * 256 + x.toNat := by
          rw [List.take_add_one, hx]
          exact num_snoc _ _
        refine ⟨k + 1, by omega, by omega, Ent.same ⟨rfl, rfl, rfl, ?_, trivial⟩ rfl⟩
        rw [e]
        rfl
      · have hk4 : k = 4 := by omega
        subst hk4
        intro β w' hs
        refine hs.fin [] ⟨?_, rfl⟩
        unfold numberV
        rw [hlk]
        have e : (l.drop 28).take 4 = l.drop 28 := List.take_of_length_le (by omega)
        rw [e]
        rfl
    · exact none_ (by unfold Bx.looks; rw [if_neg (fun q => hf q.2)]) _ _ _
  · exact ⟨Sub.refl, Sub.refl, none_ (by unfold Bx.looks; rw [if_neg (fun q => h32 (by have := q.1; omega))]) _ _ _⟩
end Go.Proofs.YthkjfepbmnabkaaDoor.Sx

/- A tag, opened. -/
namespace Go.Proofs.YthkjfepbmnabkaaDoor.Sx
open Go
attribute [local irreducible] Calls

theorem fact_old {f : Fact} {W w : World} (h : f.p W) (hD : ∀ k, f.D k → k < W.heap.size) (ho : (oldF W).p w) : f.p w := f.st W w (fun k hk => ho k (hD k hk)) h
/-- A sum, in memory. -/
def sumV (A1 : Option Addr) (l : List Nat) (c1 : Nat) (A2 : Option Addr) (m : List UInt8) (c2 : Nat) : Value := .agg #[.slice A1 l.length c1, .slice A2 m.length c2]
def openOut (B : Bx.Box) (tag : List UInt8) (v : Value) (Fs : List Fact) : Prop := match B.opens tag with
  | none => v = .tuple #[.agg #[.slice none 0 0, .slice none 0 0], .bool false] ∧ Fs = []
  | some (l, m) => ∃ A1 c1 A2 c2, v = .tuple #[sumV A1 l c1 A2 m c2, .bool true] ∧ m.length ≤ c2 ∧ Fs = [irowF A1 l c1, browF ty_uint8 A2 m c2]
theorem openOut_none {B : Bx.Box} {tag : List UInt8} (h : B.opens tag = none) : openOut B tag = fun v Fs => v = .tuple #[.agg #[.slice none 0 0, .slice none 0 0], .bool false] ∧ Fs = [] := by funext v Fs; unfold openOut; rw [h]
theorem openOut_some {B : Bx.Box} {tag : List UInt8} {l : List Nat} {m : List UInt8} (h : B.opens tag = some (l, m)) : openOut B tag = fun v Fs => ∃ A1 c1 A2 c2, v = .tuple #[sumV A1 l c1 A2 m c2, .bool true] ∧ m.length ≤ c2 ∧ Fs = [irowF A1 l c1, browF ty_uint8 A2 m c2] := by funext v Fs; unfold openOut; rw [h]
theorem noughts_row : repl ti5.zero 32 = Bx.noughts.map byte := rfl
theorem number_v (l : List UInt8) : ∃ (n : Nat) (ok : Bool), numberV l = .tuple #[.int .i64 (n : Int), .bool ok] ∧ (l.length = 32 → l.take 28 = Bx.front → n = Bx.num (l.drop 28)) := by
  by_cases h : l.length = 32 ∧ l.take 28 = Bx.front
  · exact ⟨Bx.num (l.drop 28), decide ((0 : Int) < ((Bx.num (l.drop 28) : Nat) : Int)), by unfold numberV Bx.looks; rw [if_pos h], fun _ _ => rfl⟩
  · exact ⟨0, false, by unfold numberV Bx.looks; rw [if_neg h]; rfl, fun h1 h2 => (h ⟨h1, h2⟩).elim⟩
theorem open_c (w : World) (b : Nat) (B : Bx.Box) (y : Lay) (A : Option Addr) (l : List UInt8) (c : Nat) (hts : y.ts.map (·.1) = B.L) (hL : B.L.length ≤ 4096) (hsz : ∀ t ∈ B.L, TSz t) (hb : (bxF b B y).p w) (hbD : ∀ k, (bxF b B y).D k → k < w.heap.size) (hr : Bs w A l) (hc : l.length ≤ c) (hl : l.length ≤ 1000000) :
    Con Tryd.prog n_box_Box_open #[.pointer (some ⟨b, 0, none⟩), .slice A l.length c] w [] (openOut B l) := by
  have g := good_box_Box_open w (Un [])
  refine con_of_sx (cx := cx_box_Box_open w (Un [])) g b_box_Box_open rfl rfl (β := Va.z) [.c (.v (.pointer (some ⟨b, 0, none⟩))), .c (.v (.slice A l.length c))] 0 [] [oldF w] rfl rfl (old_sat rfl) ?_
  refine ⟨32, 32, rfl, rfl, Nat.le_refl _, by decide, by decide, ?_⟩
  intro b1
  obtain ⟨n, ok, hnv, hnn⟩ := number_v l
  refine call_pu (v := .tuple #[.int .i64 (n : Int), .bool ok]) (fun β w' hs => by
    have h := number_c w' A l c (Rd.old hr (hs.get 1 rfl)) hc (by omega)
    rw [hnv] at h
    exact h) ?_
  have hbx : ∀ w', (oldF w).p w' → (bxF b B y).p w' := fun w' ho => fact_old hb hbD ho
  refine BIf.not (BIf.dec (fun h32 => ?_) (fun h32 => ?_))
  · have hl32 : l.length = 32 := by omega
    -- what isn't taken for a handle
    have raw : ¬ (B.sym = true ∧ l.take 28 = Bx.front) → ∀ {A2 : Option Addr} {c2 : Nat}, l.length ≤ c2 → ∀ {n : Nat} {H : List Bk} {F : List Fact} (j : Nat) (_ : nth F j = some (browF ty_uint8 A2 l c2)) (β : Va) (w' : World), Sat (cx_box_Box_open w (Un [])) β n H F w' → Fin w [] (openOut B l) (.tuple #[sumV none [] 0 A2 l c2, .bool true]) w' := by
      intro hno A2 c2 hc2 n H F j hj β w' hs
      rw [openOut_some (Bx.opens_raw hl32 hno)]
      have hs2 := ((hs.keepB (List.nil_sublist _)).perm [j]).nilRow ty_int 1
      have e : takeIx F [j] = [browF ty_uint8 A2 l c2] := by simp only [takeIx, hj]
      rw [e] at hs2
      exact hs2.fin [0, 1] ⟨none, 0, A2, c2, rfl, hc2, rfl⟩
    cases hsym : B.sym with
    | false =>
      refine draw_rule g p_box_Box_open_5 (by kernel_rfl) [] [oldF w] (Sub.of (List.nil_sublist _) (List.sublist_cons_self _ _)) ?_
      refine ⟨.bool false, fun β w' hs => box_cell (bx_bk (hbx w' (hs.get 0 rfl))) (o := 0) (by simp [boxCells, hsym]), ?_⟩
      refine ⟨Sub.of (List.nil_sublist _) (List.sublist_cons_self _ _), Sub.of (List.nil_sublist _) (List.sublist_cons_self _ _), ?_⟩
      refine call_con [] (fun β w' hs => clone_c w' A l c (Rd.old hr (hs.get 1 rfl)) (by omega)) ?_
      rintro v Fs ⟨A2, c2, rfl, q1, _, rfl⟩
      exact fun β w' hs => raw (fun q => by rw [hsym] at q; cases q.1) q1 0 rfl β w' hs
    | true =>
      refine draw_rule g p_box_Box_open_5 (by kernel_rfl) [] [oldF w] (Sub.of (List.nil_sublist _) (List.sublist_cons_self _ _)) ?_
      refine ⟨.bool true, fun β w' hs => box_cell (bx_bk (hbx w' (hs.get 0 rfl))) (o := 0) (by simp [boxCells, hsym]), ?_⟩
      refine ⟨c, 28, 0, 28, c, _, rfl, rfl, rfl, by omega, by omega, Nat.zero_le _, rfl, rfl, rfl, ?_⟩
      refine call_con [] (fun β w' hs => mark_c w') ?_
      rintro v Fs ⟨b2, rfl, rfl⟩
      have hSS : ∀ {n : Nat} {H : List Bk} {f1 f2 : Fact}, Sub (cx_box_Box_open w (Un [])) n H [f1, f2, oldF w] [] [oldF w] := fun {n H f1 f2} => Sub.of (List.nil_sublist _) ((List.sublist_cons_self _ _).trans (List.sublist_cons_self _ _))
      refine ⟨hSS, ?_⟩
      have e28 : (l.take 28).length = 28 := by simp; omega
      refine call_pu (v := .bool (decide (l.take 28 = Bx.front))) (fun β w' hs => by
        have h := beq_c w' (cutA A c 0 1) (some ⟨b2, 0, none⟩) (l.take 28) Bx.front c 28 (Bs.cutB (Rd.old hr (hs.get 2 rfl)) hc (Nat.zero_le 28) (by omega) (by simp)) (row_rd (hs.get 0 rfl))
        rw [e28] at h
        exact h) ?_
      refine ⟨hSS, ?_⟩
      refine BIf.not (BIf.dec (fun hf => ?_) (fun hf => ?_))
      · have hn := hnn hl32 hf
        have out_ : (n < 1 ∨ B.L.length < n) → ∀ {m : Nat} {H : List Bk} {F : List Fact} (β : Va) (w' : World), Sat (cx_box_Box_open w (Un [])) β m H F w' → Fin w [] (openOut B l) (.tuple #[.agg #[.slice none 0 0, .slice none 0 0], .bool false]) w' := by
          intro ho m H F β w' hs
          rw [openOut_none (Bx.opens_out hl32 hsym hf hn.symm ho)]
          exact (hs.keepB (List.nil_sublist _)).fin [] ⟨rfl, rfl⟩
        refine BIf.dec (fun hn1 => ?_) (fun hn1 => ?_)
        · have hn1' : (n : Int) < 1 := hn1
          exact fun β w' hs => out_ (.inl (by omega)) β w' hs
        have hn1' : ¬ (n : Int) < 1 := hn1
        refine ⟨.slice y.A B.L.length y.c, fun β w' hs => box_cell (bx_bk (hbx w' (hs.get 2 rfl))) (o := 2) rfl, ?_⟩
        refine BIf.dec (fun hgt => ?_) (fun hgt => ?_)
        · have hgt' : (B.L.length : Int) < (n : Int) := hgt
          exact fun β w' hs => out_ (.inr (by omega)) β w' hs
        have hgt' : ¬ (B.L.length : Int) < (n : Int) := hgt
        have hlen : y.ts.length = B.L.length := by rw [← hts, List.length_map]
        obtain ⟨q, hq, hqm⟩ := at_lt (l := y.ts) (k := n - 1) (by omega)
        have hqL : B.L[n - 1]? = some q.1 := by rw [← hts, List.getElem?_map, hq]; rfl
        have hqB : q.1 ∈ B.L := List.mem_of_getElem? hqL
        have hqs := hsz _ hqB
        have hin := Bx.opens_in hl32 hsym hf hn.symm (by omega) hqL
        obtain ⟨ad, hA, _⟩ := (bx_rd hb).2 (by omega)
        refine ⟨.slice y.A B.L.length y.c, fun β w' hs => box_cell (bx_bk (hbx w' (hs.get 2 rfl))) (o := 2) rfl, ?_⟩
        refine ⟨((n - 1 : Nat) : Int), by rw [wrap_i64 (by omega) (by omega)]; omega, ?_⟩
        refine ⟨ad, n - 1, hA, rfl, by omega, ?_⟩
        refine ⟨termV q.1 q.2, rfl, fun β w' hs => ?_, ?_⟩
        · have h := bx_rd (hbx w' (hs.get 2 rfl))
          rw [← hlen] at h
          obtain ⟨hil, hie⟩ := List.getElem?_eq_some_iff.1 hq
          have h2 := Rd.elem (f := fun p : Bx.Term × TA => termV p.1 p.2) (fun _ => rfl) h hA hil
          rw [hie] at h2
          exact h2
        have hpt : ∀ w', (oldF w).p w' → TRd q.1 q.2 w' := fun w' ho => bx_parts (hbx w' ho) q hqm
        have hkey := hqs.mask
        have hlst := hqs.list
        refine BIf.dec (fun hk => ?_) (fun hk => ?_)
        · have hk' : ((q.1.kind : Nat) : Int) = 4 := hk
          have hk4 : q.1.kind = 4 := by omega
          rw [if_pos hk4] at hin
          rw [openOut_some hin]
          have hH : ∀ {n : Nat} {H : List Bk} {F : List Fact}, Sub (cx_box_Box_open w (Un [])) n (⟨1, ty_box_Term, termS q.1 q.2⟩ :: H) F [⟨1, ty_box_Term, termS q.1 q.2⟩] [] := fun {n H F} => Sub.of ((List.nil_sublist _).cons_cons _) (List.nil_sublist _)
          refine draw_rule g p_box_Box_open_11 (by kernel_rfl) [⟨1, ty_box_Term, termS q.1 q.2⟩] [] hH ?_
          refine call_con [] (fun β w' hs => cloneI_c w' q.2.l q.1.list q.2.lc (hpt w' (hs.get 2 rfl)).hl (by omega)) ?_
          rintro v Fs ⟨A3, c3, rfl, _, _, rfl⟩
          refine ⟨hH, ?_⟩
          refine call_con [] (fun β w' hs => clone_c w' q.2.m q.1.mask q.2.mc (hpt w' (hs.get 3 rfl)).hm (by omega)) ?_
          rintro v Fs ⟨A4, c4, rfl, q4, _, rfl⟩
          refine ⟨hH, ?_⟩
          refine ⟨hH, ?_⟩
          intro β w' hs
          exact (hs.keepB (List.nil_sublist _)).fin [1, 0] ⟨A3, c3, A4, c4, rfl, q4, rfl⟩
        · have hk' : ¬ ((q.1.kind : Nat) : Int) = 4 := hk
          have hk4 : ¬ q.1.kind = 4 := by omega
          rw [if_neg hk4] at hin
          rw [openOut_some hin]
          intro b5
          intro β w' hs
          exact (hs.keepB (List.nil_sublist _)).fin [0, 2] ⟨some ⟨b5, 0, none⟩, 1, some ⟨b1, 0, none⟩, 32, rfl, Nat.le_refl _, rfl⟩
      · refine call_con [] (fun β w' hs => clone_c w' A l c (Rd.old hr (hs.get 2 rfl)) (by omega)) ?_
        rintro v Fs ⟨A2, c2, rfl, q1, _, rfl⟩
        exact fun β w' hs => raw (fun q => hf q.2) q1 0 rfl β w' hs
  · have hl32 : l.length ≠ 32 := by omega
    intro β w' hs
    rw [openOut_none (Bx.opens_len hl32)]
    exact (hs.keepB (List.nil_sublist _)).fin [] ⟨rfl, rfl⟩
end Go.Proofs.YthkjfepbmnabkaaDoor.Sx

/- Bytes, one by one. -/
namespace Go.Proofs.YthkjfepbmnabkaaDoor.Sx
open Go
attribute [local irreducible] Calls

theorem xorB_len (a b : List UInt8) : (Bx.xorB a b).length = min a.length b.length := by simp [Bx.xorB]
theorem xorB_snoc (a b : List UInt8) {i : Nat} (ha : i < a.length) (hb : i < b.length) : (Bx.xorB a b).take (i + 1) = (Bx.xorB a b).take i ++ [a[i] ^^^ b[i]] := by
  have h : i < (Bx.xorB a b).length := by rw [xorB_len]; omega
  rw [take_snoc _ i h]
  congr 1
  simp [Bx.xorB]
theorem xor_c (w : World) (A B : Option Addr) (l m : List UInt8) (c d : Nat) (hl : Bs w A l) (hm : Bs w B m) (hn : l.length ≤ 70368744177664) :
    Con Tryd.prog n_hmac_Xor #[.slice A l.length c, .slice B m.length d] w [] fun v Fs => ∃ A' c', v = .slice A' (Bx.xorB l m).length c' ∧ (Bx.xorB l m).length ≤ c' ∧ c' ≤ maxLen ∧ Fs = [browF ty_uint8 A' (Bx.xorB l m) c'] := by
  have g := good_hmac_Xor w (Un [])
  refine con_of_sx (cx := cx_hmac_Xor w (Un [])) g b_hmac_Xor rfl rfl (β := Va.z) [.c (.v (.slice A l.length c)), .c (.v (.slice B m.length d))] 0 [] [browF ty_uint8 none [] 0, oldF w] rfl rfl ((old_sat rfl).nilRow _ _) ?_
  have hx := xorB_len l m
  obtain ⟨r, hr⟩ : ∃ r, (Bx.xorB l m).length = r := ⟨_, rfl⟩
  refine ⟨(r : Int), ?_, ?_⟩
  · show min (l.length : Int) (m.length : Int) = _
    omega
  refine loop_rule (ι := Nat × Option Addr × Nat) 0 (fun i => [(0, .c (.v (.slice A l.length c))), (1, .c (.v (.slice B m.length d))), (11, .c (.v (.int .i64 r))), (12, .c (.v (.int .i64 i.1))), (5, .c (.v (.slice i.2.1 i.1 i.2.2)))]) (fun _ => [])
    (fun i => [rowF ty_uint8 1 (.slice i.2.1 i.1 i.2.2) i.1 (((Bx.xorB l m).take i.1).map byte), oldF w])
    (fun i => i.1 ≤ r ∧ i.1 ≤ i.2.2 ∧ i.2.2 ≤ maxLen) (fun i => r - i.1) (0, none, 0) ⟨Nat.zero_le _, Nat.zero_le _, Nat.zero_le _⟩ (Ent.same ⟨rfl, rfl, rfl, rfl, rfl, trivial⟩ rfl) g ?_
  rintro ⟨i, A1, c1⟩ ⟨hi, hc, hcm⟩
  simp only at hi hc hcm
  refine BIf.dec (fun hlt => ?_) (fun hge => ?_)
  · have hlt0 : (i : Int) < (r : Int) := hlt
    have h1 : i < l.length := by omega
    have h2 : i < m.length := by omega
    obtain ⟨ad, hA⟩ := Bs.addr hl (by omega)
    obtain ⟨bd, hB⟩ := Bs.addr hm (by omega)
    have hSS : ∀ {n : Nat} {H : List Bk} {f1 : Fact}, Sub (cx_hmac_Xor w (Un [])) n H [f1, oldF w] [] [oldF w] := fun {n H f1} => Sub.of (List.nil_sublist _) (List.sublist_cons_self _ _)
    have hSS2 : ∀ {n : Nat} {H : List Bk} {f1 f2 : Fact}, Sub (cx_hmac_Xor w (Un [])) n H [f1, f2, oldF w] [] [oldF w] := fun {n H f1 f2} => Sub.of (List.nil_sublist _) ((List.sublist_cons_self _ _).trans (List.sublist_cons_self _ _))
    refine draw_rule g p_hmac_Xor_5 (by kernel_rfl) [] [oldF w] hSS ?_
    refine ⟨ad, i, hA, rfl, h1, byte l[i], fun β w' hs => Bs.cell (Rd.old hl (hs.get 0 rfl)) hA h1, ?_⟩
    refine ⟨bd, i, hB, rfl, h2, byte m[i], fun β w' hs => Bs.cell (Rd.old hm (hs.get 0 rfl)) hB h2, ?_⟩
    refine ⟨_, xor8 _ _, ?_⟩
    intro b2
    refine ⟨hSS2, ?_⟩
    refine ⟨1, i, i + 1, ((Bx.xorB l m).take i).map byte, [l[i] ^^^ m[i]].map byte, _, rfl, fun β w hs => row_rd (hs.get 0 rfl), bytes_one _, rfl, rfl, by rw [maxLen_eq]; omega, by show (i + 1) * 1 ≤ _; omega, ?_⟩
    intro A' c' q1 q2 _
    refine ⟨hSS2, ?_⟩
    refine ⟨((i + 1 : Nat) : Int), by rw [wrap_i64 (by omega) (by omega)]; rfl, ?_⟩
    refine ⟨(i + 1, A', c'), ⟨by show i + 1 ≤ r; omega, q1, q2⟩, by show r - (i + 1) < r - i; omega, Ent.mk' ⟨rfl, rfl, rfl, rfl, rfl, trivial⟩ rfl (fun β w' hs => ?_)⟩
    have h3 := hs.weaken (List.Sublist.refl _) (List.sublist_cons_self _ _)
    show Sat _ _ _ _ [rowF ty_uint8 1 (.slice A' (i + 1) c') (i + 1) (((Bx.xorB l m).take (i + 1)).map byte), oldF w] _
    rw [xorB_snoc l m h1 h2, List.map_append]
    exact h3
  · have hge0 : ¬ (i : Int) < (r : Int) := hge
    obtain rfl : i = r := by omega
    intro β w' hs
    refine hs.fin [0] ⟨A1, c1, by rw [hr]; rfl, by rw [hr]; exact hc, hcm, ?_⟩
    show [rowF ty_uint8 1 (.slice A1 i c1) i _] = [rowF ty_uint8 1 (.slice A1 (Bx.xorB l m).length c1) (Bx.xorB l m).length _]
    rw [hr, List.take_of_length_le (by omega)]
end Go.Proofs.YthkjfepbmnabkaaDoor.Sx

/- Two sums, turned. -/
namespace Go.Proofs.YthkjfepbmnabkaaDoor.Sx
open Go
attribute [local irreducible] Calls

/-- What stands in one list and not in the other. -/
def notIn (l m : List Nat) : List Nat := l.filter fun x => !decide (x ∈ m)
theorem notIn_len (l m : List Nat) : (notIn l m).length ≤ l.length := List.length_filter_le _ _
theorem notIn_snoc {l : List Nat} {k x : Nat} (m : List Nat) (h : l[k]? = some x) : notIn (l.take (k + 1)) m = notIn (l.take k) m ++ (if x ∈ m then [] else [x]) := by
  unfold notIn
  rw [List.take_add_one, h, List.filter_append]
  congr 1
  by_cases hx : x ∈ m <;> simp [hx]
structure TuS where
  k : Nat
  A : Option Addr
  c : Nat
def sumS (A1 : Option Addr) (l : List Nat) (c1 : Nat) (A2 : Option Addr) (m : List UInt8) (c2 : Nat) : List SL := [.v (.slice A1 l.length c1), .v (.slice A2 m.length c2)]
theorem turned_c (w : World) (A1 A2 B1 B2 : Option Addr) (l1 l2 : List Nat) (m1 m2 : List UInt8) (c1 c2 d1 d2 : Nat) (hl1 : Rd 1 A1 l1.length (ints l1) w) (hl2 : Rd 1 B1 l2.length (ints l2) w) (hm1 : Bs w A2 m1) (hm2 : Bs w B2 m2)
    (hn1 : l1.length ≤ 1000000) (hn2 : l2.length ≤ 1000000) (hk1 : m1.length ≤ 1000000) :
    Con Tryd.prog n_box_turned #[sumV A1 l1 c1 A2 m1 c2, sumV B1 l2 d1 B2 m2 d2] w [] fun v Fs => ∃ A c B d, v = sumV A (sortN (notIn l1 l2 ++ notIn l2 l1)) c B (Bx.xorB m1 m2) d ∧ (Bx.xorB m1 m2).length ≤ d ∧ d ≤ maxLen ∧ (∀ x ∈ sortN (notIn l1 l2 ++ notIn l2 l1), ∃ ad, A = some ad) ∧ Fs = [irowF A (sortN (notIn l1 l2 ++ notIn l2 l1)) c, browF ty_uint8 B (Bx.xorB m1 m2) d] := by
  have g := good_box_turned w (Un [])
  refine con_of_sx (cx := cx_box_turned w (Un [])) g b_box_turned rfl rfl (β := Va.z) [.agg (sumS A1 l1 c1 A2 m1 c2), .agg (sumS B1 l2 d1 B2 m2 d2)] 0 [] [oldF w] rfl rfl (old_sat rfl) ?_
  refine call_con [] (fun β w' hs => xor_c w' A2 B2 m1 m2 c2 d2 (Rd.old hm1 (hs.get 0 rfl)) (Rd.old hm2 (hs.get 0 rfl)) (by omega)) ?_
  rintro v Fs ⟨B, d, rfl, hd, hdm, rfl⟩
  refine loop_rule (ι := TuS) 4 (fun i => [(17, .c (.v (.slice A1 l1.length c1))), (18, .c (.v (.int .i64 l1.length))), (19, .c (.v (.int .i64 i.k))), (2, .c (.p 0 0)), (3, .c (.p 1 0)), (4, .c (.p 2 0)), (5, .c (.p 3 0))])
    (fun i => [⟨3, ty_box_sum, sumS i.A (notIn (l1.take i.k) l2) i.c B (Bx.xorB m1 m2) d⟩, ⟨2, ty_box_sum, ti152.zero.map SL.v⟩, ⟨1, ty_box_sum, sumS B1 l2 d1 B2 m2 d2⟩, ⟨0, ty_box_sum, sumS A1 l1 c1 A2 m1 c2⟩])
    (fun i => [irowF i.A (notIn (l1.take i.k) l2) i.c, browF ty_uint8 B (Bx.xorB m1 m2) d, oldF w]) (fun i => i.k ≤ l1.length) (fun i => l1.length - i.k) ⟨0, none, 0⟩ (Nat.zero_le _) (Ent.mk' ⟨rfl, rfl, rfl, rfl, rfl, rfl, rfl, trivial⟩ rfl (fun β w hs => hs.nilRow ty_int 1)) g ?_
  rintro ⟨k, A, c⟩ hk
  simp only at hk
  have ha := notIn_len (l1.take k) l2
  have hat : (l1.take k).length ≤ l1.length := by simp; omega
  refine BIf.dec (fun hlt => ?_) (fun hge => ?_)
  · have hlt0 : (k : Int) < l1.length := hlt
    have hkl : k < l1.length := by omega
    obtain ⟨x, hx, hxm⟩ := at_lt hkl
    obtain ⟨ad, hA, _⟩ := hl1.2 (by omega)
    refine ⟨ad, k, hA, rfl, hkl, _, fun β w' hs => Rd.cell1 (by have h := Rd.old hl1 (hs.get 2 rfl); rw [hA] at h; exact h) (ints_at hx), ?_⟩
    refine call_pu (fun β w' hs => containsI_c w' B1 l2 d1 x (Rd.old hl2 (hs.get 2 rfl)) (by omega)) ?_
    have hsn := notIn_snoc l2 hx
    refine BIf.not (BIf.dec (fun hin => ?_) (fun hin => ?_))
    · refine ⟨((k + 1 : Nat) : Int), by rw [wrap_i64 (by omega) (by omega)]; rfl, ?_⟩
      rw [if_pos hin, List.append_nil] at hsn
      refine ⟨⟨k + 1, A, c⟩, hkl, by show l1.length - (k + 1) < l1.length - k; omega, ?_⟩
      simp only [hsn]
      exact Ent.same ⟨rfl, rfl, rfl, rfl, rfl, rfl, rfl, trivial⟩ rfl
    · rw [if_neg hin] at hsn
      intro b2
      refine ⟨1, (notIn (l1.take k) l2).length, (notIn (l1.take k) l2).length + 1, ints (notIn (l1.take k) l2), ints [x], ints (notIn (l1.take k) l2 ++ [x]), rfl, fun β w hs => row_rd (hs.get 0 rfl), ints_one _, rfl, by simp [ints], by rw [maxLen_eq]; omega, by show ((notIn (l1.take k) l2).length + 1) * 8 ≤ _; omega, ?_⟩
      intro A' c' q1 q2 _
      refine ⟨((k + 1 : Nat) : Int), by rw [wrap_i64 (by omega) (by omega)]; rfl, ?_⟩
      refine ⟨⟨k + 1, A', c'⟩, hkl, by show l1.length - (k + 1) < l1.length - k; omega, ?_⟩
      simp only [hsn]
      refine Ent.mk' ⟨rfl, rfl, rfl, rfl, rfl, rfl, rfl, trivial⟩ rfl (fun β w' hs => ?_)
      simp only [irowF, sumS, List.length_append, List.length_cons, List.length_nil]
      exact hs.weaken (List.Sublist.refl _) (List.sublist_cons_self _ _)
  · have hge0 : ¬ (k : Int) < l1.length := hge
    obtain rfl : k = l1.length := by omega
    rw [List.take_length]
    refine loop_rule (ι := TuS) 4 (fun i => [(36, .c (.v (.slice B1 l2.length d1))), (37, .c (.v (.int .i64 l2.length))), (38, .c (.v (.int .i64 i.k))), (2, .c (.p 0 0)), (3, .c (.p 1 0)), (4, .c (.p 2 0)), (5, .c (.p 3 0))])
      (fun i => [⟨3, ty_box_sum, sumS i.A (notIn l1 l2 ++ notIn (l2.take i.k) l1) i.c B (Bx.xorB m1 m2) d⟩, ⟨2, ty_box_sum, ti152.zero.map SL.v⟩, ⟨1, ty_box_sum, sumS B1 l2 d1 B2 m2 d2⟩, ⟨0, ty_box_sum, sumS A1 l1 c1 A2 m1 c2⟩])
      (fun i => [irowF i.A (notIn l1 l2 ++ notIn (l2.take i.k) l1) i.c, browF ty_uint8 B (Bx.xorB m1 m2) d, oldF w]) (fun i => i.k ≤ l2.length) (fun i => l2.length - i.k) ⟨0, A, c⟩ (Nat.zero_le _) (by
        simp only [List.take_zero, notIn, List.filter_nil, List.append_nil]
        exact Ent.same ⟨rfl, rfl, rfl, rfl, rfl, rfl, rfl, trivial⟩ rfl) g ?_
    clear hk ha hat hge hge0
    rintro ⟨k, A, c⟩ hk
    simp only at hk
    have ha := notIn_len l1 l2
    have ha2 := notIn_len (l2.take k) l1
    have hat : (l2.take k).length ≤ l2.length := by simp; omega
    refine BIf.dec (fun hlt => ?_) (fun hge => ?_)
    · have hlt0 : (k : Int) < l2.length := hlt
      have hkl : k < l2.length := by omega
      obtain ⟨x, hx, hxm⟩ := at_lt hkl
      obtain ⟨ad, hA, _⟩ := hl2.2 (by omega)
      refine ⟨ad, k, hA, rfl, hkl, _, fun β w' hs => Rd.cell1 (by have h := Rd.old hl2 (hs.get 2 rfl); rw [hA] at h; exact h) (ints_at hx), ?_⟩
      refine call_pu (fun β w' hs => containsI_c w' A1 l1 c1 x (Rd.old hl1 (hs.get 2 rfl)) (by omega)) ?_
      have hsn := notIn_snoc l1 hx
      refine BIf.not (BIf.dec (fun hin => ?_) (fun hin => ?_))
      · refine ⟨((k + 1 : Nat) : Int), by rw [wrap_i64 (by omega) (by omega)]; rfl, ?_⟩
        rw [if_pos hin, List.append_nil] at hsn
        refine ⟨⟨k + 1, A, c⟩, hkl, by show l2.length - (k + 1) < l2.length - k; omega, ?_⟩
        simp only [hsn]
        exact Ent.same ⟨rfl, rfl, rfl, rfl, rfl, rfl, rfl, trivial⟩ rfl
      · rw [if_neg hin] at hsn
        intro b2
        have hal : (notIn l1 l2 ++ notIn (l2.take k) l1).length ≤ 2000000 := by rw [List.length_append]; omega
        refine ⟨1, (notIn l1 l2 ++ notIn (l2.take k) l1).length, (notIn l1 l2 ++ notIn (l2.take k) l1).length + 1, ints (notIn l1 l2 ++ notIn (l2.take k) l1), ints [x], ints (notIn l1 l2 ++ notIn (l2.take k) l1 ++ [x]), rfl, fun β w hs => row_rd (hs.get 0 rfl), ints_one _, rfl, by simp [ints], by rw [maxLen_eq]; omega, by show ((notIn l1 l2 ++ notIn (l2.take k) l1).length + 1) * 8 ≤ _; omega, ?_⟩
        intro A' c' q1 q2 _
        refine ⟨((k + 1 : Nat) : Int), by rw [wrap_i64 (by omega) (by omega)]; rfl, ?_⟩
        refine ⟨⟨k + 1, A', c'⟩, hkl, by show l2.length - (k + 1) < l2.length - k; omega, ?_⟩
        simp only [hsn]
        refine Ent.mk' ⟨rfl, rfl, rfl, rfl, rfl, rfl, rfl, trivial⟩ rfl (fun β w' hs => ?_)
        have e : (notIn l1 l2 ++ (notIn (l2.take k) l1 ++ [x])) = notIn l1 l2 ++ notIn (l2.take k) l1 ++ [x] := (List.append_assoc _ _ _).symm
        have e2 : (notIn l1 l2 ++ notIn (l2.take k) l1 ++ [x]).length = (notIn l1 l2 ++ notIn (l2.take k) l1).length + 1 := by rw [List.length_append (bs := [x])]; rfl
        rw [e]
        simp only [irowF, sumS, e2]
        exact hs.weaken (List.Sublist.refl _) (List.sublist_cons_self _ _)
    · have hge0 : ¬ (k : Int) < l2.length := hge
      obtain rfl : k = l2.length := by omega
      rw [List.take_length]
      have ha3 := notIn_len l2 l1
      refine call_con [0] (fun β w' hs => sort_c w' A (notIn l1 l2 ++ notIn l2 l1) c (hs.mem.take (js := [0]) rfl) (by rw [List.length_append]; omega)) ?_
      rintro v Fs ⟨rfl, rfl⟩
      intro β w' hs
      refine (hs.keepB (List.nil_sublist _)).fin [0, 1] ⟨A, c, B, d, ?_, hd, hdm, fun x hx => ?_, rfl⟩
      · unfold sumV
        rw [sortN_len]
        rfl
      · obtain ⟨ad, h, _⟩ := (row_rd (hs.get 0 rfl)).2 (by have := List.length_pos_of_mem hx; omega)
        exact ⟨ad, h⟩
end Go.Proofs.YthkjfepbmnabkaaDoor.Sx
