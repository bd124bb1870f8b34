/- Texts joined: Shelf, Bld, BoxL, Bk1, Hex, Sha1, Sha2, Sha3, Sha4, Sha5, Sha6, Sha7, Sha8, Sha9, Pd0, Pd4, Pd5, Nam1, Nam2, Nam3, Nam4, Nam5, Nam6, Nam7, Nam8, Nam9, RnP, NamP, NmT, NamI, Iter, StrS, RoF, StoL, Sto1, Sto2, Keys, Mk1, Sto3, Sto4. -/
import Derived.Test.YtloeaiafphkjnaaGreatDoorMRollTurned2
import Derived.Shelf.Strings.Builder1
import Derived.Shelf.Strings.Builder2
import Derived.Shelf.Strings.OnBuilder
import Derived.Shelf.Small.Bits
import Derived.Shelf.Small.Strs
import Derived.Shelf.Small.Wraps
import Derived.Shelf.Utf8.RuneCount
import Derived.Shelf.Strconv.Itoa0
import Derived.Shelf.Strconv.Itoa1
import Derived.Shelf.LaysM
import Derived.Shelf.Strconv.Itoa2
import Derived.Shelf.Strconv.Itoa3
import Derived.Shelf.Strconv.Clone
import Derived.Shelf.Strconv.SyntaxError
import Derived.Shelf.LaysC
import Derived.Shelf.Strconv.ToError
import Derived.Shelf.Strconv.Lower
import Derived.Shelf.Strconv.ParseUint10
import Derived.Shelf.Strconv.RangeError
import Derived.Shelf.Strconv.ToErrorRange
import Derived.Shelf.Strconv.ParseUintEmpty
import Derived.Shelf.Strconv.ParseUint10b64
import Derived.Shelf.Strconv.ParseUint10b32
import Derived.Shelf.Strconv.ParseUint10b16
import Derived.Shelf.Strconv.ParseUint10b8
import Derived.Shelf.Strconv.ParseUint10At
import Derived.Shelf.Strings.Search1
import Derived.Shelf.Strings.Search2
import Derived.Shelf.Strings.Search3
import Derived.Shelf.Strings.Cut
import Derived.Shelf.Strings.Count
import Derived.Shelf.Strings.Shaped
import Derived.Shelf.Sort.Plain
import Derived.Shelf.Strings.Prefix
import Derived.Shelf.Strings.Split
import Derived.Shelf.Unicode.Decode
import Derived.Shelf.Strings.RuneCount
import Derived.Shelf.Strings.Explode
import Derived.Shelf.Bits.Mul64
import Derived.Shelf.Unicode.DecodeSlow
import Derived.Shelf.Unicode.DecodeAny
import Derived.Ground.Names2Prog
import Derived.Shelf.Slices.ReverseS
import Derived.Shelf.Slices.Clone
import Derived.Shelf.Slices.Cells
import Derived.Ground.SlbCloneProg
import Derived.Shelf.Bytes.SlClone
import Derived.Ground.SlbNamesProg
import Derived.Shelf.Bytes.SlJoin
import Derived.Ground.SlgnProg
import Derived.Shelf.SlicesE.Clone
import Derived.Ground.SlgmProg
import Derived.Shelf.SortM.SortNone
import Derived.Test.YtloeaiafphkjnaaGreatDoorProg
import Derived.Shelf.SlGeneric
import Derived.Shelf.SlIter.Nil
import Derived.Shelf.SortM.Plain
import Derived.Ground.GgzProg
import Derived.Maps.Keyed
set_option linter.unusedVariables false
set_option linter.unusedSimpArgs false
namespace Go.Proofs
open Go.Shelf
def Tryz.lays156_ren:Go.Shelf.Ren:=⟨fun | 156=>129 | 165=>176 | 166=>32 | 169=>33 | 240=>82 | 241=>213 | 276=>133 | 277=>164 | n=>n,fun | 31=>32 | 9=>9 | 3=>3 | 4=>4 | 0=>0 | 20=>20 | 72=>69 | 76=>75 | 70=>67 | 37=>43 | 75=>74 | 127=>142 | 164=>191 | 5=>5 | 80=>77 | n=>n,fun | n=>n⟩
theorem Tryz.lays156:Go.Proofs.Lays.n156 Tryz.prog Tryz.lays156_ren:= {
 mixed:=by kernel_rfl
 f156:=Tryz.func129.trans (congrArg some (by kernel_rfl))
 f165:=Tryz.func176.trans (congrArg some (by kernel_rfl))
 f166:=Tryz.func32.trans (congrArg some (by kernel_rfl))
 f169:=Tryz.func33.trans (congrArg some (by kernel_rfl))
 f240:=Tryz.func82.trans (congrArg some (by kernel_rfl))
 f241:=Tryz.func213.trans (congrArg some (by kernel_rfl))
 f276:=Tryz.func133.trans (congrArg some (by kernel_rfl))
 f277:=Tryz.func164.trans (congrArg some (by kernel_rfl))
 t0:=Tryz.underlying0
 a0:=Tryz.isAgg0
 z0:=Tryz.sizeOf0
 v0:=Tryz.zeroValue0
 t3:=Tryz.underlying3
 a3:=Tryz.isAgg3
 z3:=Tryz.sizeOf3
 v3:=Tryz.zeroValue3
 t4:=Tryz.underlying4
 a4:=Tryz.isAgg4
 z4:=Tryz.sizeOf4
 v4:=Tryz.zeroValue4
 t9:=Tryz.underlying9
 a9:=Tryz.isAgg9
 z9:=Tryz.sizeOf9
 v9:=Tryz.zeroValue9
 t20:=Tryz.underlying20
 a20:=Tryz.isAgg20
 z20:=Tryz.sizeOf20
 v20:=Tryz.zeroValue20
 t31:=Tryz.underlying32
 a31:=Tryz.isAgg32
 z31:=Tryz.sizeOf32
 v31:=Tryz.zeroValue32
 t37:=Tryz.underlying43
 a37:=Tryz.isAgg43
 z37:=Tryz.sizeOf43
 v37:=Tryz.zeroValue43
 t70:=Tryz.underlying67
 a70:=Tryz.isAgg67
 z70:=Tryz.sizeOf67
 v70:=Tryz.zeroValue67
 t72:=Tryz.underlying69
 a72:=Tryz.isAgg69
 z72:=Tryz.sizeOf69
 v72:=Tryz.zeroValue69
 t75:=Tryz.underlying74
 a75:=Tryz.isAgg74
 z75:=Tryz.sizeOf74
 v75:=Tryz.zeroValue74
 t76:=Tryz.underlying75
 a76:=Tryz.isAgg75
 z76:=Tryz.sizeOf75
 v76:=Tryz.zeroValue75
 t127:=Tryz.underlying142
 a127:=Tryz.isAgg142
 z127:=Tryz.sizeOf142
 v127:=Tryz.zeroValue142
 t164:=Tryz.underlying191
 a164:=Tryz.isAgg191
 z164:=Tryz.sizeOf191
 v164:=Tryz.zeroValue191}
theorem Tryz.Builder_Extra_156:Builder.Extra Tryz.prog Tryz.lays156_ren:= {
 sizeBuilder:=by kernel_rfl
 liesBuilder:=by kernel_rfl
 t5:=Tryz.underlying5
 a5:=Tryz.isAgg5
 z5:=Tryz.sizeOf5
 v5:=Tryz.zeroValue5
 infoByte:=by kernel_rfl
 cellsByte:=by kernel_rfl
 sizeByte:=by kernel_rfl
 neB5:=by decide}
open Go.RowKit in
theorem Tryz.strings_Join (bk o c:Nat) (xs:List ByteArray) (sep:ByteArray) (w:World) (hcells: ∀(j:Nat) x,xs[j]?=some x->w.cell? ⟨bk,o+j,none⟩=some (.string x)) (hbk:bk<w.heap.size) (hN:xs.length<=140737488355328) (hcap:xs.length<=c) (hlen:(Lib.join (xs.map (·.data.toList)) sep.data.toList).length<=140737488355328):
  Calls Tryz.prog 129 #[.slice (some ⟨bk,o,none⟩) xs.length c,.string sep] w fun e w'=>e= .returned (.string ⟨(Lib.join (xs.map (·.data.toList)) sep.data.toList).toArray⟩)/\Below w.heap.size w w':=Any.strings_Join Tryz.lays156 Tryz.Builder_Extra_156 bk o c xs sep w hcells hbk hN hcap hlen
def Tryz.lays137_ren:Go.Shelf.Ren:=⟨fun | 137=>67 | 217=>118 | 266=>167 | n=>n,fun | 9=>9 | 5=>5 | 3=>3 | n=>n,fun | n=>n⟩
theorem Tryz.lays137:Go.Proofs.Lays.n137 Tryz.prog Tryz.lays137_ren:= {
 mixed:=by kernel_rfl
 f137:=Tryz.func67.trans (congrArg some (by kernel_rfl))
 f217:=Tryz.func118.trans (congrArg some (by kernel_rfl))
 f266:=Tryz.func167.trans (congrArg some (by kernel_rfl))
 t3:=Tryz.underlying3
 a3:=Tryz.isAgg3
 z3:=Tryz.sizeOf3
 v3:=Tryz.zeroValue3
 t5:=Tryz.underlying5
 a5:=Tryz.isAgg5
 z5:=Tryz.sizeOf5
 v5:=Tryz.zeroValue5
 t9:=Tryz.underlying9
 a9:=Tryz.isAgg9
 z9:=Tryz.sizeOf9
 v9:=Tryz.zeroValue9}
open Go.RowKit in
theorem Tryz.strings_IndexByte (s:ByteArray) (c:Int) (w:World):
  Calls Tryz.prog 67 #[.string s,.int .u8 c] w fun e w'=>e= .returned (.int .i64 (Lib.indexByte s.data.toList c.toNat.toUInt8))/\w'=w:=Any.strings_IndexByte Tryz.lays137 s c w
def Tryz.lays103_ren:Go.Shelf.Ren:=⟨fun | 103=>24 | 210=>65 | 206=>116 | n=>n,fun | 9=>9 | 4=>4 | 24=>57 | 3=>3 | n=>n,fun | n=>n⟩
theorem Tryz.lays103:Go.Proofs.Lays.n103 Tryz.prog Tryz.lays103_ren:= {
 mixed:=by kernel_rfl
 f103:=Tryz.func24.trans (congrArg some (by kernel_rfl))
 f206:=Tryz.func116.trans (congrArg some (by kernel_rfl))
 f210:=Tryz.func65.trans (congrArg some (by kernel_rfl))
 t3:=Tryz.underlying3
 a3:=Tryz.isAgg3
 z3:=Tryz.sizeOf3
 v3:=Tryz.zeroValue3
 t4:=Tryz.underlying4
 a4:=Tryz.isAgg4
 z4:=Tryz.sizeOf4
 v4:=Tryz.zeroValue4
 t9:=Tryz.underlying9
 a9:=Tryz.isAgg9
 z9:=Tryz.sizeOf9
 v9:=Tryz.zeroValue9
 t24:=Tryz.underlying57
 a24:=Tryz.isAgg57
 z24:=Tryz.sizeOf57
 v24:=Tryz.zeroValue57}
open Go.RowKit in
theorem Tryz.strings_CutPrefix (s p:ByteArray) (w:World):
  Calls Tryz.prog 24 #[.string s,.string p] w fun e w'=>e= .returned (.tuple #[.string ⟨(Lib.trimPrefix s.data.toList p.data.toList).toArray⟩,.bool (Lib.hasPrefix s.data.toList p.data.toList)])/\w'=w:=Any.strings_CutPrefix Tryz.lays103 s p w
def Tryz.lays283_ren:Go.Shelf.Ren:=⟨fun | 283=>208 | n=>n,fun | 3=>3 | 9=>9 | 4=>4 | n=>n,fun | n=>n⟩
theorem Tryz.lays283:Go.Proofs.Lays.n283 Tryz.prog Tryz.lays283_ren:= {
 mixed:=by kernel_rfl
 f283:=Tryz.func208.trans (congrArg some (by kernel_rfl))
 t3:=Tryz.underlying3
 a3:=Tryz.isAgg3
 z3:=Tryz.sizeOf3
 v3:=Tryz.zeroValue3
 t4:=Tryz.underlying4
 a4:=Tryz.isAgg4
 z4:=Tryz.sizeOf4
 v4:=Tryz.zeroValue4
 t9:=Tryz.underlying9
 a9:=Tryz.isAgg9
 z9:=Tryz.sizeOf9
 v9:=Tryz.zeroValue9}
open Go.Lib in
theorem Tryz.internal_strconv_small (i:Nat) (h:i<100) (w:World):
  Calls Tryz.prog 208 #[.int .i64 i] w fun e w'=>e= .returned (.string ⟨(Lib.decDigits i).toArray⟩)/\w'=w:=Any.internal_strconv_small Tryz.lays283 i h w
def Tryz.laysM284_ren:Go.Shelf.Ren:=⟨fun | 284=>209 | 129=>157 | 317=>233 | 318=>234 | n=>n,fun | 53=>50 | 3=>3 | 212=>273 | 0=>0 | 4=>4 | 46=>127 | 5=>5 | 9=>9 | n=>n,fun | 17=>7 | n=>n⟩
theorem Tryz.laysM284:Go.Proofs.LaysM.n284 Tryz.prog Tryz.laysM284_ren:= {
 mixed:=by kernel_rfl
 f129:=Tryz.func157.trans (congrArg some (by kernel_rfl))
 f284:=Tryz.func209.trans (congrArg some (by kernel_rfl))
 f317:=Tryz.func233.trans (congrArg some (by kernel_rfl))
 f318:=Tryz.func234.trans (congrArg some (by kernel_rfl))
 t0:=Tryz.underlying0
 a0:=Tryz.isAgg0
 z0:=Tryz.sizeOf0
 v0:=Tryz.zeroValue0
 t3:=Tryz.underlying3
 a3:=Tryz.isAgg3
 z3:=Tryz.sizeOf3
 v3:=Tryz.zeroValue3
 t4:=Tryz.underlying4
 a4:=Tryz.isAgg4
 z4:=Tryz.sizeOf4
 v4:=Tryz.zeroValue4
 t5:=Tryz.underlying5
 a5:=Tryz.isAgg5
 z5:=Tryz.sizeOf5
 v5:=Tryz.zeroValue5
 t9:=Tryz.underlying9
 a9:=Tryz.isAgg9
 z9:=Tryz.sizeOf9
 v9:=Tryz.zeroValue9
 t46:=Tryz.underlying127
 a46:=Tryz.isAgg127
 z46:=Tryz.sizeOf127
 v46:=Tryz.zeroValue127
 t53:=Tryz.underlying50
 a53:=Tryz.isAgg50
 z53:=Tryz.sizeOf50
 v53:=Tryz.zeroValue50
 t212:=Tryz.underlying273
 a212:=Tryz.isAgg273
 z212:=Tryz.sizeOf273
 v212:=Tryz.zeroValue273
 g17:=by kernel_rfl
 i0:=by kernel_rfl
 i3:=by kernel_rfl
 i4:=by kernel_rfl
 i5:=by kernel_rfl
 i9:=by kernel_rfl
 i46:=by kernel_rfl
 i53:=by kernel_rfl
 i212:=by kernel_rfl
 m17:=by kernel_rfl}
open Go.Lib in
theorem Tryz.internal_strconv_numDigits (u : Nat) (h1 : 1 ≤ u) (h2 : u < 18446744073709551616) (w : World) (htab : Lib.TabIs Tryz.prog w "internal/strconv.uint64pow10" .u64 Lib.pow10Tab) :
  Calls Tryz.prog 209 #[.int .u64 u] w fun e w'=>e= .returned (.int .i64 (Lib.nDigits u))/\w'=w:=Any.internal_strconv_numDigits Tryz.laysM284 u h1 h2 w htab
def Tryz.lays285_ren:Go.Shelf.Ren:=⟨fun | 285=>210 | n=>n,fun | 37=>43 | 53=>50 | 3=>3 | 4=>4 | 51=>116 | 9=>9 | 5=>5 | 0=>0 | n=>n,fun | n=>n⟩
theorem Tryz.lays285:Go.Proofs.Lays.n285 Tryz.prog Tryz.lays285_ren:= {
 mixed:=by kernel_rfl
 f285:=Tryz.func210.trans (congrArg some (by kernel_rfl))
 t0:=Tryz.underlying0
 a0:=Tryz.isAgg0
 z0:=Tryz.sizeOf0
 v0:=Tryz.zeroValue0
 t3:=Tryz.underlying3
 a3:=Tryz.isAgg3
 z3:=Tryz.sizeOf3
 v3:=Tryz.zeroValue3
 t4:=Tryz.underlying4
 a4:=Tryz.isAgg4
 z4:=Tryz.sizeOf4
 v4:=Tryz.zeroValue4
 t5:=Tryz.underlying5
 a5:=Tryz.isAgg5
 z5:=Tryz.sizeOf5
 v5:=Tryz.zeroValue5
 t9:=Tryz.underlying9
 a9:=Tryz.isAgg9
 z9:=Tryz.sizeOf9
 v9:=Tryz.zeroValue9
 t37:=Tryz.underlying43
 a37:=Tryz.isAgg43
 z37:=Tryz.sizeOf43
 v37:=Tryz.zeroValue43
 t51:=Tryz.underlying116
 a51:=Tryz.isAgg116
 z51:=Tryz.sizeOf116
 v51:=Tryz.zeroValue116
 t53:=Tryz.underlying50
 a53:=Tryz.isAgg50
 z53:=Tryz.sizeOf50
 v53:=Tryz.zeroValue50}
open Go.RowKit Go.Sort Go.Lib in
theorem Tryz.internal_strconv_formatBase10 (blk off cap:Nat) (u:Nat) (d:Array UInt8) (w:World) (hH:Holds (fun (b:UInt8)=>Value.int .u8 (b.toNat:Int)) w blk off d) (hu:u<10^d.size) (hu64:u<18446744073709551616) (hsz:d.size<4611686018427387904):
  Calls Tryz.prog 210 #[.slice (some ⟨blk,off,none⟩) d.size cap,.int .u64 u] w fun e w'=>
   e= .returned (.tuple #[])/\ ∃(n v':Nat) (dk:Array UInt8),w'=(putRow (fun (b:UInt8)=>Value.int .u8 (b.toNat:Int)) w blk off dk).drewN n/\FmtInv d.size u 0 v' dk:=Any.internal_strconv_formatBase10 Tryz.lays285 blk off cap u d w hH hu hu64 hsz
def Tryz.lays171_ren:Go.Shelf.Ren:=⟨fun | 171=>130 | 243=>177 | 246=>214 | 283=>208 | 284=>209 | 285=>210 | 286=>211 | 129=>157 | 317=>233 | 318=>234 | 319=>235 | 320=>236 | 337=>246 | 338=>247 | n=>n,fun | 3=>3 | 9=>9 | 2=>2 | 4=>4 | 171=>244 | 0=>0 | 53=>50 | 37=>43 | 5=>5 | 173=>246 | 212=>273 | 51=>116 | 20=>20 | 213=>274 | 46=>127 | 232=>299 | 233=>300 | n=>n,fun | 17=>7 | 18=>13 | 19=>14 | n=>n⟩
theorem Tryz.lays171:Go.Proofs.Lays.n171 Tryz.prog Tryz.lays171_ren:= {
 mixed:=by kernel_rfl
 f129:=Tryz.func157.trans (congrArg some (by kernel_rfl))
 f171:=Tryz.func130.trans (congrArg some (by kernel_rfl))
 f243:=Tryz.func177.trans (congrArg some (by kernel_rfl))
 f246:=Tryz.func214.trans (congrArg some (by kernel_rfl))
 f283:=Tryz.func208.trans (congrArg some (by kernel_rfl))
 f284:=Tryz.func209.trans (congrArg some (by kernel_rfl))
 f285:=Tryz.func210.trans (congrArg some (by kernel_rfl))
 f286:=Tryz.func211.trans (congrArg some (by kernel_rfl))
 f317:=Tryz.func233.trans (congrArg some (by kernel_rfl))
 f318:=Tryz.func234.trans (congrArg some (by kernel_rfl))
 f319:=Tryz.func235.trans (congrArg some (by kernel_rfl))
 f320:=Tryz.func236.trans (congrArg some (by kernel_rfl))
 f337:=Tryz.func246.trans (congrArg some (by kernel_rfl))
 f338:=Tryz.func247.trans (congrArg some (by kernel_rfl))
 t0:=Tryz.underlying0
 a0:=Tryz.isAgg0
 z0:=Tryz.sizeOf0
 v0:=Tryz.zeroValue0
 t2:=Tryz.underlying2
 a2:=Tryz.isAgg2
 z2:=Tryz.sizeOf2
 v2:=Tryz.zeroValue2
 t3:=Tryz.underlying3
 a3:=Tryz.isAgg3
 z3:=Tryz.sizeOf3
 v3:=Tryz.zeroValue3
 t4:=Tryz.underlying4
 a4:=Tryz.isAgg4
 z4:=Tryz.sizeOf4
 v4:=Tryz.zeroValue4
 t5:=Tryz.underlying5
 a5:=Tryz.isAgg5
 z5:=Tryz.sizeOf5
 v5:=Tryz.zeroValue5
 t9:=Tryz.underlying9
 a9:=Tryz.isAgg9
 z9:=Tryz.sizeOf9
 v9:=Tryz.zeroValue9
 t20:=Tryz.underlying20
 a20:=Tryz.isAgg20
 z20:=Tryz.sizeOf20
 v20:=Tryz.zeroValue20
 t37:=Tryz.underlying43
 a37:=Tryz.isAgg43
 z37:=Tryz.sizeOf43
 v37:=Tryz.zeroValue43
 t46:=Tryz.underlying127
 a46:=Tryz.isAgg127
 z46:=Tryz.sizeOf127
 v46:=Tryz.zeroValue127
 t51:=Tryz.underlying116
 a51:=Tryz.isAgg116
 z51:=Tryz.sizeOf116
 v51:=Tryz.zeroValue116
 t53:=Tryz.underlying50
 a53:=Tryz.isAgg50
 z53:=Tryz.sizeOf50
 v53:=Tryz.zeroValue50
 t171:=Tryz.underlying244
 a171:=Tryz.isAgg244
 z171:=Tryz.sizeOf244
 v171:=Tryz.zeroValue244
 t173:=Tryz.underlying246
 a173:=Tryz.isAgg246
 z173:=Tryz.sizeOf246
 v173:=Tryz.zeroValue246
 t212:=Tryz.underlying273
 a212:=Tryz.isAgg273
 z212:=Tryz.sizeOf273
 v212:=Tryz.zeroValue273
 t213:=Tryz.underlying274
 a213:=Tryz.isAgg274
 z213:=Tryz.sizeOf274
 t232:=Tryz.underlying299
 a232:=Tryz.isAgg299
 z232:=Tryz.sizeOf299
 v232:=Tryz.zeroValue299
 t233:=Tryz.underlying300
 a233:=Tryz.isAgg300
 z233:=Tryz.sizeOf300
 v233:=Tryz.zeroValue300
 g17:=by kernel_rfl
 g18:=by kernel_rfl
 g19:=by kernel_rfl}
open Go.RowKit Go.Sort Go.Lib in
theorem Tryz.strconv_Itoa_small (i:Nat) (hi:i<100) (w:World):
  Calls Tryz.prog 130 #[.int .i64 i] w fun e w'=>e= .returned (.string ⟨(Lib.decDigits i).toArray⟩)/\w'=w:=Any.strconv_Itoa_small Tryz.lays171 i hi w
def Tryz.laysC245_ren:Go.Shelf.Ren:=⟨fun | 245=>169 | 279=>200 | 280=>201 | 281=>202 | 282=>203 | 316=>227 | 171=>130 | 205=>228 | 243=>177 | 246=>214 | 283=>208 | 284=>209 | 285=>210 | 286=>211 | 129=>157 | 317=>233 | 318=>234 | 319=>235 | 320=>236 | 337=>246 | 338=>247 | n=>n,fun | 9=>9 | 3=>3 | 75=>74 | 167=>237 | 4=>4 | 168=>239 | 210=>268 | 37=>43 | 0=>0 | 127=>142 | 145=>290 | 143=>288 | 2=>2 | 171=>244 | 53=>50 | 5=>5 | 173=>246 | 212=>273 | 51=>116 | 20=>20 | 213=>274 | 46=>127 | 232=>299 | 233=>300 | 80=>77 | n=>n,fun | 15=>5 | 16=>6 | 17=>7 | 18=>13 | 19=>14 | n=>n⟩
theorem Tryz.laysC245:Go.Proofs.LaysC.n245 Tryz.prog Tryz.laysC245_ren:= {
 mixed:=by kernel_rfl
 f129:=Tryz.func157.trans (congrArg some (by kernel_rfl))
 f171:=Tryz.func130.trans (congrArg some (by kernel_rfl))
 f205:=Tryz.func228.trans (congrArg some (by kernel_rfl))
 f243:=Tryz.func177.trans (congrArg some (by kernel_rfl))
 f245:=Tryz.func169.trans (congrArg some (by kernel_rfl))
 f246:=Tryz.func214.trans (congrArg some (by kernel_rfl))
 f279:=Tryz.func200.trans (congrArg some (by kernel_rfl))
 f280:=Tryz.func201.trans (congrArg some (by kernel_rfl))
 f281:=Tryz.func202.trans (congrArg some (by kernel_rfl))
 f282:=Tryz.func203.trans (congrArg some (by kernel_rfl))
 f283:=Tryz.func208.trans (congrArg some (by kernel_rfl))
 f284:=Tryz.func209.trans (congrArg some (by kernel_rfl))
 f285:=Tryz.func210.trans (congrArg some (by kernel_rfl))
 f286:=Tryz.func211.trans (congrArg some (by kernel_rfl))
 f316:=Tryz.func227.trans (congrArg some (by kernel_rfl))
 f317:=Tryz.func233.trans (congrArg some (by kernel_rfl))
 f318:=Tryz.func234.trans (congrArg some (by kernel_rfl))
 f319:=Tryz.func235.trans (congrArg some (by kernel_rfl))
 f320:=Tryz.func236.trans (congrArg some (by kernel_rfl))
 f337:=Tryz.func246.trans (congrArg some (by kernel_rfl))
 f338:=Tryz.func247.trans (congrArg some (by kernel_rfl))
 t0:=Tryz.underlying0
 a0:=Tryz.isAgg0
 z0:=Tryz.sizeOf0
 v0:=Tryz.zeroValue0
 t2:=Tryz.underlying2
 a2:=Tryz.isAgg2
 z2:=Tryz.sizeOf2
 v2:=Tryz.zeroValue2
 t3:=Tryz.underlying3
 a3:=Tryz.isAgg3
 z3:=Tryz.sizeOf3
 v3:=Tryz.zeroValue3
 t4:=Tryz.underlying4
 a4:=Tryz.isAgg4
 z4:=Tryz.sizeOf4
 v4:=Tryz.zeroValue4
 t5:=Tryz.underlying5
 a5:=Tryz.isAgg5
 z5:=Tryz.sizeOf5
 v5:=Tryz.zeroValue5
 t9:=Tryz.underlying9
 a9:=Tryz.isAgg9
 z9:=Tryz.sizeOf9
 v9:=Tryz.zeroValue9
 t20:=Tryz.underlying20
 a20:=Tryz.isAgg20
 z20:=Tryz.sizeOf20
 v20:=Tryz.zeroValue20
 t37:=Tryz.underlying43
 a37:=Tryz.isAgg43
 z37:=Tryz.sizeOf43
 v37:=Tryz.zeroValue43
 t46:=Tryz.underlying127
 a46:=Tryz.isAgg127
 z46:=Tryz.sizeOf127
 v46:=Tryz.zeroValue127
 t51:=Tryz.underlying116
 a51:=Tryz.isAgg116
 z51:=Tryz.sizeOf116
 v51:=Tryz.zeroValue116
 t53:=Tryz.underlying50
 a53:=Tryz.isAgg50
 z53:=Tryz.sizeOf50
 v53:=Tryz.zeroValue50
 t75:=Tryz.underlying74
 a75:=Tryz.isAgg74
 z75:=Tryz.sizeOf74
 v75:=Tryz.zeroValue74
 t127:=Tryz.underlying142
 a127:=Tryz.isAgg142
 z127:=Tryz.sizeOf142
 v127:=Tryz.zeroValue142
 t143:=Tryz.underlying288
 a143:=Tryz.isAgg288
 z143:=Tryz.sizeOf288
 v143:=Tryz.zeroValue288
 t145:=Tryz.underlying290
 a145:=Tryz.isAgg290
 z145:=Tryz.sizeOf290
 v145:=Tryz.zeroValue290
 t167:=Tryz.underlying237
 a167:=Tryz.isAgg237
 z167:=Tryz.sizeOf237
 v167:=Tryz.zeroValue237
 t168:=Tryz.underlying239
 a168:=Tryz.isAgg239
 z168:=Tryz.sizeOf239
 v168:=Tryz.zeroValue239
 t171:=Tryz.underlying244
 a171:=Tryz.isAgg244
 z171:=Tryz.sizeOf244
 v171:=Tryz.zeroValue244
 t173:=Tryz.underlying246
 a173:=Tryz.isAgg246
 z173:=Tryz.sizeOf246
 v173:=Tryz.zeroValue246
 t210:=Tryz.underlying268
 a210:=Tryz.isAgg268
 z210:=Tryz.sizeOf268
 v210:=Tryz.zeroValue268
 t212:=Tryz.underlying273
 a212:=Tryz.isAgg273
 z212:=Tryz.sizeOf273
 v212:=Tryz.zeroValue273
 t213:=Tryz.underlying274
 a213:=Tryz.isAgg274
 z213:=Tryz.sizeOf274
 t232:=Tryz.underlying299
 a232:=Tryz.isAgg299
 z232:=Tryz.sizeOf299
 v232:=Tryz.zeroValue299
 t233:=Tryz.underlying300
 a233:=Tryz.isAgg300
 z233:=Tryz.sizeOf300
 v233:=Tryz.zeroValue300
 g15:=by kernel_rfl
 g16:=by kernel_rfl
 g17:=by kernel_rfl
 g18:=by kernel_rfl
 g19:=by kernel_rfl
 t80:=Tryz.underlying77
 a80:=Tryz.isAgg77
 z80:=Tryz.sizeOf77
 v80:=Tryz.zeroValue77
 i0:=by kernel_rfl
 i2:=by kernel_rfl
 i3:=by kernel_rfl
 i4:=by kernel_rfl
 i5:=by kernel_rfl
 i9:=by kernel_rfl
 i20:=by kernel_rfl
 i37:=by kernel_rfl
 i46:=by kernel_rfl
 i51:=by kernel_rfl
 i53:=by kernel_rfl
 i75:=by kernel_rfl
 i80:=by kernel_rfl
 i127:=by kernel_rfl
 i143:=by kernel_rfl
 i145:=by kernel_rfl
 i167:=by kernel_rfl
 i168:=by kernel_rfl
 i171:=by kernel_rfl
 i173:=by kernel_rfl
 i210:=by kernel_rfl
 i212:=by kernel_rfl
 i232:=by kernel_rfl
 i233:=by kernel_rfl
 m15:=by kernel_rfl
 m16:=by kernel_rfl
 m17:=by kernel_rfl
 m18:=by kernel_rfl
 m19:=by kernel_rfl
 c0:=by kernel_rfl
 c2:=by kernel_rfl
 c3:=by kernel_rfl
 c4:=by kernel_rfl
 c5:=by kernel_rfl
 c9:=by kernel_rfl
 c20:=by kernel_rfl
 c37:=by kernel_rfl
 c46:=by kernel_rfl
 c51:=by kernel_rfl
 c53:=by kernel_rfl
 c75:=by kernel_rfl
 c80:=by kernel_rfl
 c127:=by kernel_rfl
 c143:=by kernel_rfl
 c145:=by kernel_rfl
 c167:=by kernel_rfl
 c168:=by kernel_rfl
 c171:=by kernel_rfl
 c173:=by kernel_rfl
 c210:=by kernel_rfl
 c212:=by kernel_rfl
 c213:=by kernel_rfl
 c232:=by kernel_rfl
 c233:=by kernel_rfl}
open Go.RowKit in
theorem Tryz.strconv_toError_syntax (fn s:ByteArray) (base bits:Int) (ev:Value) (w:World) (hlim:s.size<=281474976710656) (hv:w.cell? ⟨5,0,none⟩=some ev) (hev:ev= .nilIface\/ ∃te pe,ev= .iface te pe):
  Calls Tryz.prog 169 #[.string fn,.string s,.int .i64 base,.int .i64 bits,.iface 237 (.int .i64 2)] w fun e w'=> ∃N,e= .returned (.iface 239 (.pointer (some ⟨N,0,none⟩)))/\w.heap.size<=N/\w'.heap[N]?=some (.cells #[.string fn,.string s,ev] 268 (0,0))/\Below w.heap.size w w':=Any.strconv_toError_syntax Tryz.laysC245 fn s base bits ev w hlim hv hev
def Tryz.lays287_ren:Go.Shelf.Ren:=⟨fun | 287=>168 | 321=>198 | 322=>199 | n=>n,fun | 9=>9 | 3=>3 | 53=>50 | 75=>74 | 4=>4 | 167=>237 | 5=>5 | 46=>127 | 37=>43 | 0=>0 | 21=>21 | 80=>77 | n=>n,fun | n=>n⟩
theorem Tryz.lays287:Go.Proofs.Lays.n287 Tryz.prog Tryz.lays287_ren:= {
 mixed:=by kernel_rfl
 f287:=Tryz.func168.trans (congrArg some (by kernel_rfl))
 f321:=Tryz.func198.trans (congrArg some (by kernel_rfl))
 f322:=Tryz.func199.trans (congrArg some (by kernel_rfl))
 t0:=Tryz.underlying0
 a0:=Tryz.isAgg0
 z0:=Tryz.sizeOf0
 v0:=Tryz.zeroValue0
 t3:=Tryz.underlying3
 a3:=Tryz.isAgg3
 z3:=Tryz.sizeOf3
 v3:=Tryz.zeroValue3
 t4:=Tryz.underlying4
 a4:=Tryz.isAgg4
 z4:=Tryz.sizeOf4
 v4:=Tryz.zeroValue4
 t5:=Tryz.underlying5
 a5:=Tryz.isAgg5
 z5:=Tryz.sizeOf5
 v5:=Tryz.zeroValue5
 t9:=Tryz.underlying9
 a9:=Tryz.isAgg9
 z9:=Tryz.sizeOf9
 v9:=Tryz.zeroValue9
 t21:=Tryz.underlying21
 a21:=Tryz.isAgg21
 z21:=Tryz.sizeOf21
 v21:=Tryz.zeroValue21
 t37:=Tryz.underlying43
 a37:=Tryz.isAgg43
 z37:=Tryz.sizeOf43
 v37:=Tryz.zeroValue43
 t46:=Tryz.underlying127
 a46:=Tryz.isAgg127
 z46:=Tryz.sizeOf127
 v46:=Tryz.zeroValue127
 t53:=Tryz.underlying50
 a53:=Tryz.isAgg50
 z53:=Tryz.sizeOf50
 v53:=Tryz.zeroValue50
 t75:=Tryz.underlying74
 a75:=Tryz.isAgg74
 z75:=Tryz.sizeOf74
 v75:=Tryz.zeroValue74
 t167:=Tryz.underlying237
 a167:=Tryz.isAgg237
 z167:=Tryz.sizeOf237
 v167:=Tryz.zeroValue237}
open Go.RowKit in
theorem Tryz.strconv_toError_range (fn s:ByteArray) (base bits:Int) (ev:Value) (w:World) (hlim:s.size<=281474976710656) (hv:w.cell? ⟨6,0,none⟩=some ev) (hev:ev= .nilIface\/ ∃te pe,ev= .iface te pe):
  Calls Tryz.prog 169 #[.string fn,.string s,.int .i64 base,.int .i64 bits,.iface 237 (.int .i64 1)] w fun e w'=> ∃N,e= .returned (.iface 239 (.pointer (some ⟨N,0,none⟩)))/\w.heap.size<=N/\w'.heap[N]?=some (.cells #[.string fn,.string s,ev] 268 (0,0))/\Below w.heap.size w w':=Any.strconv_toError_range Tryz.laysC245 fn s base bits ev w hlim hv hev
open Go.RowKit in
theorem Tryz.internal_strconv_ParseUint_10_at64 (t:ByteArray) (hmax:t.size<=9223372036854775806) (w:World):
  Calls Tryz.prog 168 #[.string t,.int .i64 10,.int .i64 64] w fun e w'=>e= .returned (Lib.uintTupleM 237 18446744073709551615 (Lib.parseUintB 64 t.data.toList))/\(w'=w\/w'=Lib.bytesWorld w 5 t):=Any.internal_strconv_ParseUint_10_at64 Tryz.lays287 t hmax w
def Tryz.lays145_ren:Go.Shelf.Ren:=⟨fun | 145=>36 | 220=>83 | 219=>134 | 217=>118 | 225=>179 | 224=>180 | 267=>181 | 266=>167 | 314=>219 | n=>n,fun | 9=>9 | 4=>4 | 59=>80 | 3=>3 | 5=>5 | 46=>127 | 146=>252 | 51=>116 | n=>n,fun | 1=>3 | n=>n⟩
theorem Tryz.lays145:Go.Proofs.Lays.n145 Tryz.prog Tryz.lays145_ren:= {
 mixed:=by kernel_rfl
 f145:=Tryz.func36.trans (congrArg some (by kernel_rfl))
 f217:=Tryz.func118.trans (congrArg some (by kernel_rfl))
 f219:=Tryz.func134.trans (congrArg some (by kernel_rfl))
 f220:=Tryz.func83.trans (congrArg some (by kernel_rfl))
 f224:=Tryz.func180.trans (congrArg some (by kernel_rfl))
 f225:=Tryz.func179.trans (congrArg some (by kernel_rfl))
 f266:=Tryz.func167.trans (congrArg some (by kernel_rfl))
 f267:=Tryz.func181.trans (congrArg some (by kernel_rfl))
 f314:=Tryz.func219.trans (congrArg some (by kernel_rfl))
 t3:=Tryz.underlying3
 a3:=Tryz.isAgg3
 z3:=Tryz.sizeOf3
 v3:=Tryz.zeroValue3
 t4:=Tryz.underlying4
 a4:=Tryz.isAgg4
 z4:=Tryz.sizeOf4
 v4:=Tryz.zeroValue4
 t5:=Tryz.underlying5
 a5:=Tryz.isAgg5
 z5:=Tryz.sizeOf5
 v5:=Tryz.zeroValue5
 t9:=Tryz.underlying9
 a9:=Tryz.isAgg9
 z9:=Tryz.sizeOf9
 v9:=Tryz.zeroValue9
 t46:=Tryz.underlying127
 a46:=Tryz.isAgg127
 z46:=Tryz.sizeOf127
 v46:=Tryz.zeroValue127
 t51:=Tryz.underlying116
 a51:=Tryz.isAgg116
 z51:=Tryz.sizeOf116
 v51:=Tryz.zeroValue116
 t59:=Tryz.underlying80
 a59:=Tryz.isAgg80
 z59:=Tryz.sizeOf80
 v59:=Tryz.zeroValue80
 t146:=Tryz.underlying252
 a146:=Tryz.isAgg252
 z146:=Tryz.sizeOf252
 v146:=Tryz.zeroValue252
 g1:=by kernel_rfl}
open Go.RowKit Go.Lib in
theorem Tryz.strings_Cut (s sep:ByteArray) (m:Int) (w:World) (hs:s.size<4294967281) (hm:w.cell? ⟨3,0,none⟩=some (.int .i64 m)):
  Calls Tryz.prog 36 #[.string s,.string sep] w fun e w'=>e= .returned (.tuple #[.string ⟨(Lib.cut s.data.toList sep.data.toList).1.toArray⟩,.string ⟨(Lib.cut s.data.toList sep.data.toList).2.1.toArray⟩,.bool (Lib.cut s.data.toList sep.data.toList).2.2])/\ ∃n,w'=w.drewN n:=Any.strings_Cut Tryz.lays145 s sep m w hs hm
def Tryz.lays99_ren:Go.Shelf.Ren:=⟨fun | 99=>239 | 206=>116 | n=>n,fun | 9=>9 | 4=>4 | 3=>3 | n=>n,fun | n=>n⟩
theorem Tryz.lays99:Go.Proofs.Lays.n99 Tryz.prog Tryz.lays99_ren:= {
 mixed:=by kernel_rfl
 f99:=Tryz.func239.trans (congrArg some (by kernel_rfl))
 f206:=Tryz.func116.trans (congrArg some (by kernel_rfl))
 t3:=Tryz.underlying3
 a3:=Tryz.isAgg3
 z3:=Tryz.sizeOf3
 v3:=Tryz.zeroValue3
 t4:=Tryz.underlying4
 a4:=Tryz.isAgg4
 z4:=Tryz.sizeOf4
 v4:=Tryz.zeroValue4
 t9:=Tryz.underlying9
 a9:=Tryz.isAgg9
 z9:=Tryz.sizeOf9
 v9:=Tryz.zeroValue9}
open Go.RowKit Go.Lib in
theorem Tryz.strings_HasPrefix (s p:ByteArray) (w:World):
  Calls Tryz.prog 239 #[.string s,.string p] w fun e w'=>e= .returned (.bool (Lib.hasPrefix s.data.toList p.data.toList))/\w'=w:=Any.strings_HasPrefix Tryz.lays99 s p w
def Tryz.lays100_ren:Go.Shelf.Ren:=⟨fun | 100=>27 | 207=>69 | n=>n,fun | 9=>9 | 4=>4 | 3=>3 | n=>n,fun | n=>n⟩
theorem Tryz.lays100:Go.Proofs.Lays.n100 Tryz.prog Tryz.lays100_ren:= {
 mixed:=by kernel_rfl
 f100:=Tryz.func27.trans (congrArg some (by kernel_rfl))
 f207:=Tryz.func69.trans (congrArg some (by kernel_rfl))
 t3:=Tryz.underlying3
 a3:=Tryz.isAgg3
 z3:=Tryz.sizeOf3
 v3:=Tryz.zeroValue3
 t4:=Tryz.underlying4
 a4:=Tryz.isAgg4
 z4:=Tryz.sizeOf4
 v4:=Tryz.zeroValue4
 t9:=Tryz.underlying9
 a9:=Tryz.isAgg9
 z9:=Tryz.sizeOf9
 v9:=Tryz.zeroValue9}
open Go.RowKit Go.Lib in
theorem Tryz.strings_HasSuffix (s p:ByteArray) (w:World) (hs:s.size<=9223372036854775807):
  Calls Tryz.prog 27 #[.string s,.string p] w fun e w'=>e= .returned (.bool (Lib.hasSuffix s.data.toList p.data.toList))/\w'=w:=Any.strings_HasSuffix Tryz.lays100 s p w hs
def Tryz.lays102_ren:Go.Shelf.Ren:=⟨fun | 102=>26 | 209=>68 | 207=>69 | n=>n,fun | 9=>9 | 4=>4 | 3=>3 | n=>n,fun | n=>n⟩
theorem Tryz.lays102:Go.Proofs.Lays.n102 Tryz.prog Tryz.lays102_ren:= {
 mixed:=by kernel_rfl
 f102:=Tryz.func26.trans (congrArg some (by kernel_rfl))
 f207:=Tryz.func69.trans (congrArg some (by kernel_rfl))
 f209:=Tryz.func68.trans (congrArg some (by kernel_rfl))
 t3:=Tryz.underlying3
 a3:=Tryz.isAgg3
 z3:=Tryz.sizeOf3
 v3:=Tryz.zeroValue3
 t4:=Tryz.underlying4
 a4:=Tryz.isAgg4
 z4:=Tryz.sizeOf4
 v4:=Tryz.zeroValue4
 t9:=Tryz.underlying9
 a9:=Tryz.isAgg9
 z9:=Tryz.sizeOf9
 v9:=Tryz.zeroValue9}
open Go.RowKit Go.Lib in
theorem Tryz.strings_TrimSuffix (s p:ByteArray) (w:World) (hs:s.size<=9223372036854775807):
  Calls Tryz.prog 26 #[.string s,.string p] w fun e w'=>e= .returned (.string ⟨(Lib.trimSuffix s.data.toList p.data.toList).toArray⟩)/\w'=w:=Any.strings_TrimSuffix Tryz.lays102 s p w hs
def Tryz.lays146_ren:Go.Shelf.Ren:=⟨fun | 146=>120 | 221=>170 | 268=>204 | 138=>205 | 143=>206 | 195=>229 | 197=>230 | 218=>231 | 219=>134 | 260=>245 | 217=>118 | 225=>179 | 224=>180 | 267=>181 | 266=>167 | 314=>219 | n=>n,fun | 9=>9 | 31=>32 | 3=>3 | 4=>4 | 0=>0 | 105=>270 | 21=>21 | 5=>5 | 46=>127 | 119=>295 | 139=>298 | 138=>297 | 146=>252 | 51=>116 | n=>n,fun | 1=>3 | 3=>11 | 4=>12 | n=>n⟩
theorem Tryz.lays146:Go.Proofs.Lays.n146 Tryz.prog Tryz.lays146_ren:= {
 mixed:=by kernel_rfl
 f138:=Tryz.func205.trans (congrArg some (by kernel_rfl))
 f143:=Tryz.func206.trans (congrArg some (by kernel_rfl))
 f146:=Tryz.func120.trans (congrArg some (by kernel_rfl))
 f195:=Tryz.func229.trans (congrArg some (by kernel_rfl))
 f197:=Tryz.func230.trans (congrArg some (by kernel_rfl))
 f217:=Tryz.func118.trans (congrArg some (by kernel_rfl))
 f218:=Tryz.func231.trans (congrArg some (by kernel_rfl))
 f219:=Tryz.func134.trans (congrArg some (by kernel_rfl))
 f221:=Tryz.func170.trans (congrArg some (by kernel_rfl))
 f224:=Tryz.func180.trans (congrArg some (by kernel_rfl))
 f225:=Tryz.func179.trans (congrArg some (by kernel_rfl))
 f260:=Tryz.func245.trans (congrArg some (by kernel_rfl))
 f266:=Tryz.func167.trans (congrArg some (by kernel_rfl))
 f267:=Tryz.func181.trans (congrArg some (by kernel_rfl))
 f268:=Tryz.func204.trans (congrArg some (by kernel_rfl))
 f314:=Tryz.func219.trans (congrArg some (by kernel_rfl))
 t0:=Tryz.underlying0
 a0:=Tryz.isAgg0
 z0:=Tryz.sizeOf0
 v0:=Tryz.zeroValue0
 t3:=Tryz.underlying3
 a3:=Tryz.isAgg3
 z3:=Tryz.sizeOf3
 v3:=Tryz.zeroValue3
 t4:=Tryz.underlying4
 a4:=Tryz.isAgg4
 z4:=Tryz.sizeOf4
 v4:=Tryz.zeroValue4
 t5:=Tryz.underlying5
 a5:=Tryz.isAgg5
 z5:=Tryz.sizeOf5
 v5:=Tryz.zeroValue5
 t9:=Tryz.underlying9
 a9:=Tryz.isAgg9
 z9:=Tryz.sizeOf9
 v9:=Tryz.zeroValue9
 t21:=Tryz.underlying21
 a21:=Tryz.isAgg21
 z21:=Tryz.sizeOf21
 v21:=Tryz.zeroValue21
 t31:=Tryz.underlying32
 a31:=Tryz.isAgg32
 z31:=Tryz.sizeOf32
 v31:=Tryz.zeroValue32
 t46:=Tryz.underlying127
 a46:=Tryz.isAgg127
 z46:=Tryz.sizeOf127
 v46:=Tryz.zeroValue127
 t51:=Tryz.underlying116
 a51:=Tryz.isAgg116
 z51:=Tryz.sizeOf116
 v51:=Tryz.zeroValue116
 t105:=Tryz.underlying270
 a105:=Tryz.isAgg270
 z105:=Tryz.sizeOf270
 v105:=Tryz.zeroValue270
 t119:=Tryz.underlying295
 a119:=Tryz.isAgg295
 z119:=Tryz.sizeOf295
 t138:=Tryz.underlying297
 a138:=Tryz.isAgg297
 z138:=Tryz.sizeOf297
 v138:=Tryz.zeroValue297
 t139:=Tryz.underlying298
 a139:=Tryz.isAgg298
 z139:=Tryz.sizeOf298
 v139:=Tryz.zeroValue298
 t146:=Tryz.underlying252
 a146:=Tryz.isAgg252
 z146:=Tryz.sizeOf252
 v146:=Tryz.zeroValue252
 g1:=by kernel_rfl
 g3:=by kernel_rfl
 g4:=by kernel_rfl}
open Go.RowKit Go.Lib in
theorem Tryz.strings_Split (s sep:ByteArray) (m:Int) (w:World) (hs:s.size<4294967281) (hm:w.cell? ⟨3,0,none⟩=some (.int .i64 m)) (h1:1<=sep.size):
  Calls Tryz.prog 120 #[.string s,.string sep] w fun e w'=>
   e= .returned (.slice (some ⟨w.heap.size,0,none⟩) (Lib.countB s sep+1) (Lib.countB s sep+1))/\w'=w.alloc (.cells ((Lib.splitB sep 0 (Lib.countB s sep) s).map Value.string).toArray 9):=Any.strings_Split Tryz.lays146 (by kernel_rfl) s sep m w hs hm h1
def Tryz.lays212_ren:Go.Shelf.Ren:=⟨fun | 212=>238 | 263=>248 | 264=>249 | n=>n,fun | 46=>127 | 51=>116 | 146=>252 | 53=>50 | 148=>292 | n=>n,fun | n=>n⟩
theorem Tryz.lays212:Go.Proofs.Lays.n212 Tryz.prog Tryz.lays212_ren:= {
 mixed:=by kernel_rfl
 f212:=Tryz.func238.trans (congrArg some (by kernel_rfl))
 f263:=Tryz.func248.trans (congrArg some (by kernel_rfl))
 f264:=Tryz.func249.trans (congrArg some (by kernel_rfl))
 t46:=Tryz.underlying127
 a46:=Tryz.isAgg127
 z46:=Tryz.sizeOf127
 v46:=Tryz.zeroValue127
 t51:=Tryz.underlying116
 a51:=Tryz.isAgg116
 z51:=Tryz.sizeOf116
 v51:=Tryz.zeroValue116
 t53:=Tryz.underlying50
 a53:=Tryz.isAgg50
 z53:=Tryz.sizeOf50
 v53:=Tryz.zeroValue50
 t146:=Tryz.underlying252
 a146:=Tryz.isAgg252
 z146:=Tryz.sizeOf252
 v146:=Tryz.zeroValue252
 t148:=Tryz.underlying292
 a148:=Tryz.isAgg292
 z148:=Tryz.sizeOf292
 v148:=Tryz.zeroValue292}
open Go.RowKit Go.Lib in
theorem Tryz.bits_Mul (x y:Nat) (hx:x<18446744073709551616) (hy:y<18446744073709551616) (w:World):
  Calls Tryz.prog 238 #[.int .u64 x,.int .u64 y] w fun e w'=>e= .returned (.tuple #[.int .u64 ((x*y/18446744073709551616:Nat):Int),.int .u64 ((x*y%18446744073709551616:Nat):Int)])/\w'=w:=Any.bits_Mul Tryz.lays212 x y hx hy w
end Go.Proofs
namespace Go.Proofs.YtloeaiafphkjnaaGreatDoor.Sx
open Go
attribute [local irreducible] Calls
def selfV (b:Nat):Value:= .pointer (some ⟨b,0,none⟩)
theorem z_bp {P:Program} {k:FuncId} {args:Array Value} {w:World} {Gs:List Fact} {R:Value->List Fact->Prop} (h:Calls P k args w fun e w'=> ∃v,e= .returned v/\Fin w Gs R v w'):Con P k args w Gs R:=h
theorem z_oE {w w':World} {f f':Fact} {R:Value->List Fact->Prop} {v:Value} (hR:R v [f']) (hc:Chg f.D w w') (hp:f'.p w') (ho:f'.own=true) (hD: ∀k,f'.D k->f.D k/\k<w'.heap.size):Fin w [f] R v w':=by
 have hu:Un [f]=f.D:=by funext k;simp [Un]
 refine ⟨[f'],hR,by rw [hu];exact hc,⟨fun g hg=>?_,fun g hg k hk=>?_,List.pairwise_singleton _ _⟩,⟨ho,trivial⟩,fun g hg k hk=>?_⟩
 ·obtain rfl:=List.mem_singleton.1 hg;exact hp
 ·obtain rfl:=List.mem_singleton.1 hg;exact (hD k hk).2
 ·obtain rfl:=List.mem_singleton.1 hg;rw [hu];exact .inl (hD k hk).1
theorem z_nb (w:World) (b:Nat) (p x:Value) (hp:p= .pointer none\/p=selfV b) (h:(bkF b z_ah [p,x]).p w):
  Con Tryz.prog z_bz #[selfV b] w [bkF b z_ah [p,x]] fun v Fs=>v= .tuple #[]/\Fs=[bkF b z_ah [selfV b,x]]:=by
 have hb:w.heap[b]?=some (.cells #[p,x] z_ah (0,0)):=h
 have hlt:b<w.heap.size:=(Array.getElem?_eq_some_iff.1 hb).1
 have h0:w.cell? ⟨b,0,none⟩=some p:=by rw [cell_of_row w b 0 _ _ _ hb];rfl
 rcases hp with rfl | rfl
 ·refine z_bp (Calls.mono (Any.Builder_copyCheck_fresh {Tryz.lays156 with} Tryz.Builder_Extra_156.toX72 b w h0 (by simp [World.shape?,hb];rfl) (by simp [World.frozen?,hb])) ?_)
  rintro e w' ⟨rfl,rfl⟩
  have h2:=heap_setCell_same w b 0 #[.pointer none,x] z_ah (selfV b) hb
  refine ⟨_,rfl,z_oE (f':=bkF b z_ah [selfV b,x]) ⟨rfl,rfl⟩ ⟨rfl,rfl,rfl,by simp [World.setCell],fun k _ hk=>heap_setCell_other w _ k _ hk⟩ h2 rfl (fun k hk=>⟨hk,?_⟩)⟩
  obtain rfl:k=b:=hk
  simpa [World.setCell] using hlt
 ·refine z_bp (Calls.mono (Any.Builder_copyCheck_used {Tryz.lays156 with} Tryz.Builder_Extra_156.toX72 b w h0) ?_)
  rintro e w' ⟨rfl,rfl⟩
  refine ⟨_,rfl,z_oE (f':=bkF b z_ah [selfV b,x]) ⟨rfl,rfl⟩ (Chg.refl _ _) h rfl (fun k hk=>⟨hk,?_⟩)⟩
  obtain rfl:k=b:=hk
  exact hlt
def bldF (b:Nat) (p:Value) (A:Option Addr) (l:List UInt8) (c:Nat):List Fact:=[bkF b z_ah [p,.slice A l.length c],browF z_ab A l c]
theorem z_mW (w:World) (b:Nat) (p:Value) (A:Option Addr) (l:List UInt8) (c:Nat) (x:UInt8) (hp:p= .pointer none\/p=selfV b) (hl:l.length<140737488355328) (hm:Mem w (bldF b p A l c)):
  Con Tryz.prog z_bq #[selfV b,byte x] w (bldF b p A l c) fun v Fs=>v= .nilIface/\ ∃A' c',Fs=bldF b (selfV b) A' (l++[x]) c':=by
 have g:=z_dd w (Un (bldF b p A l c))
 refine z_ac (cx:=z_bl w (Un (bldF b p A l c))) g z_ep rfl rfl (β:=Va.z) [.c (.v (selfV b)),.c (.v (byte x))] 0 [] _ rfl rfl (hm.sat0 rfl (fun f hf _ k hk=>⟨f,hf,hk⟩)) ?_
 refine z_aa [0] (fun β w' hs=>z_nb w' b p _ hp (hs.get 0 rfl)) ?_
 rintro v Fs ⟨rfl,rfl⟩
 refine ⟨.slice A l.length c,fun β w' hs=>by
  have hb:w'.heap[b]?=some (.cells #[selfV b,.slice A l.length c] z_ah (0,0)):=hs.get 0 rfl
  show w'.cell? ⟨b,1,none⟩=_
  rw [cell_of_row w' b 1 _ _ _ hb];rfl,?_⟩
 intro b2
 refine ⟨2,l.length,l.length+1,l.map byte,[byte x],(l++[x]).map byte,rfl,fun β w' hs=>z_an (hs.get 0 rfl),z_ap [x],rfl,by simp,by rw [maxLen_eq];omega,by show (l.length+1)*1<=_;omega,?_⟩
 intro A' c' h1 h2 h3
 refine ⟨_,fun β w' hs=>hs.bkSet 1 (o:=1) (us:=[.slice A' (l.length+1) c']) rfl (Nat.le_refl 2) (fun u hu=>by obtain rfl:=List.mem_singleton.1 hu;rfl),?_⟩
 intro β w' hs
 have e:(l++[x]).length=l.length+1:=by simp
 refine hs.fin [1,2] ⟨rfl,A',c',?_⟩
 show [bkF b z_ah [selfV b,.slice A' (l.length+1) c'],rowF z_ab 1 (.slice A' (l.length+1) c') (l.length+1) ((l++[x]).map byte)]=_
 rw [<-e]
 rfl
theorem Mem.none (w:World):Mem w []:=⟨fun _ q=>(by cases q),fun _ q=>(by cases q),List.Pairwise.nil⟩
theorem cellsU8:Tryz.prog.cellsOf z_ab=1:=by kernel_rfl
theorem z_rR:Tryz.prog.underlying z_ie=some (.pointer z_ab):=by kernel_rfl
theorem z_wu (w:World) (b:Nat) (p:Value) (A:Option Addr) (l:List UInt8) (c:Nat) (hne:l≠[]) (hm:Mem w (bldF b p A l c)):
  Con Tryz.prog z_aC #[selfV b] w (bldF b p A l c) fun v Fs=>v= .string ⟨l.toArray⟩/\Fs=[]:=by
 have g:=z_bA w (Un (bldF b p A l c))
 have hl0:l.length≠0:=by simpa using hne
 have hrow:w.ownsRow 0 z_ab 1 (.slice A l.length c) l.length (l.map byte):=hm.fact _ (List.mem_cons_of_mem _ List.mem_cons_self)
 obtain ⟨gb,rfl,hlc,hcm⟩: ∃gb,A=some ⟨gb,0,none⟩/\l.length<=c/\c<=maxLen:=by
  rcases hrow.2 with ⟨_,hz⟩ | ⟨gb,cap,cur,hv,_,_,h1,h2,_⟩
  ·exact absurd hz hl0
  ·injection hv with h3 h4 h5
   subst h5
   exact ⟨gb,h3,h1,h2⟩
 refine z_ac (cx:=z_a1 w (Un (bldF b p (some ⟨gb,0,none⟩) l c))) g z_cb rfl rfl (β:=Va.z) [.c (.v (selfV b))] 0 [] _ rfl rfl (hm.sat0 rfl (fun f hf _ k hk=>⟨f,hf,hk⟩)) ?_
 refine z_aj g z_bI (by kernel_rfl) [] [bkF b z_ah [p,.slice (some ⟨gb,0,none⟩) l.length c]] (Sub.of (List.nil_sublist _) (List.sublist_append_left [_] [_])) ?_
 have hcell: ∀(cx:Cx) (n:Nat) (β:Va) (w':World),Sat cx β n [] [bkF b z_ah [p,.slice (some ⟨gb,0,none⟩) l.length c]] w'->w'.cell? ⟨b,1,none⟩=some (.slice (some ⟨gb,0,none⟩) l.length c):=fun cx n β w' hs=>by
  have hb:w'.heap[b]?=some (.cells #[p,.slice (some ⟨gb,0,none⟩) l.length c] z_ah (0,0)):=hs.get 0 rfl
  rw [cell_of_row w' b 1 _ _ _ hb];rfl
 refine ⟨.slice (some ⟨gb,0,none⟩) l.length c,hcell _ _,?_⟩
 refine ⟨.slice (some ⟨gb,0,none⟩) l.length c,hcell _ _,?_⟩
 refine ⟨[],_,.c (.v (.pointer (some ⟨gb,0,none⟩))),fun β w' ty hs=>⟨w',?_,hs⟩,trivial,Sub.of (List.nil_sublist _) (List.sublist_append_left [_] [_]),?_⟩
 ·have:=Lib.run_unsafeSliceData_row (P:=Tryz.prog) w' #[z_al] ty ⟨gb,0,none⟩ l.length c (by omega)
  simp only [builtin,Sem.run_bind]
  erw [this]
  rfl
 refine ⟨[],[bkF b z_ah [p,.slice (some ⟨gb,0,none⟩) l.length c]],.c (.v (.string ⟨l.toArray⟩)),fun β w' ty hs=>⟨w'.freeze ⟨gb,0,none⟩ l.length,?_,?_⟩,trivial,Sub.refl,?_⟩
 ·have hrow':w'.ownsRow 0 z_ab 1 (.slice (some ⟨gb,0,none⟩) l.length c) l.length (l.map byte):=hs.get 1 rfl
  obtain ⟨cur,hg,hcs⟩: ∃cur,w'.heap[gb]?=some (.cells cur z_ab (0,0))/\cur.size=c*1:=by
   rcases hrow'.2 with ⟨_,hz⟩ | ⟨g',cap,cur,hv,_,hg,_,_,h3,_⟩
   ·exact absurd hz hl0
   ·injection hv with h4 h5 h6
    injection h4 with h4
    injection h4 with h4
    subst h4 h6
    exact ⟨cur,hg,h3⟩
  have:=Lib.run_unsafeString_row (P:=Tryz.prog) w' z_ie 3 ty z_ab z_rR cellsU8 gb cur.size (by simp [World.shape?,hg]) l hne (by omega) (by rw [maxLen_eq] at hcm;omega) (fun j x hx=>by
   have hr:=z_an hrow'
   obtain ⟨ad,q,hc⟩:=hr.2 (by omega)
   obtain rfl:=Option.some.inj q
   exact hc j (byte x) (by simp [hx]))
  simp only [builtin,Sem.run_bind]
  erw [this]
  rfl
 ·refine hs.swap [1] ⟨rfl,trivial⟩ (Fs:=[]) (Chg.mono (z_it _ _ _) (fun i _ q=>⟨_,List.mem_singleton.2 rfl,?_⟩)) (Mem.none _) (fun _ q=>by cases q)
  obtain rfl:i=gb:=q
  rfl
 intro β w' hs
 exact hs.fin [] ⟨rfl,rfl⟩
end Go.Proofs.YtloeaiafphkjnaaGreatDoor.Sx
namespace Go.Proofs.YtloeaiafphkjnaaGreatDoor.Bx
structure Term where
 kind:Nat
 key:List UInt8
 text:List UInt8
 rounds:Nat
 list:List Nat
 mask:List UInt8
def vint (n:Nat):List UInt8:=if h:n<128 then [UInt8.ofNat n] else UInt8.ofNat (n%128+128)::vint (n/128)
termination_by n
decreasing_by omega
def print (t:Term):List UInt8:=[t.kind,t.rounds,t.key.length,t.text.length,t.list.length].flatMap vint++t.list.flatMap vint++(t.key++t.text++t.mask)
def num:List UInt8->Nat:=List.foldl (fun n b=>n*256+b.toNat) 0
open Classical in
noncomputable def place (t:Term):List Term->Option Nat
 | []=>none
 | x::r=>if x=t then some 0 else (place t r).map (· +1)
end Go.Proofs.YtloeaiafphkjnaaGreatDoor.Bx
namespace Go.Proofs.YtloeaiafphkjnaaGreatDoor.Sx
open Go
attribute [local irreducible] Calls
theorem z_bZ (x:Nat):IntKind.u8.wrap (x:Int)=((UInt8.ofNat x).toNat:Int):=by
 rw [wrap_u8,UInt8.toNat_ofNat']
 omega
theorem z_tC (n k:Nat):(n:Int).fdiv (2^k)=((n/2^k:Nat):Int):=by
 have:(2^k:Int)=((2^k:Nat):Int):=by push_cast;rfl
 rw [this,Int.fdiv_eq_ediv_of_nonneg _ (Int.natCast_nonneg _)]
 exact (Int.natCast_ediv _ _).symm
def dgs:List UInt8:=[48,49,50,51,52,53,54,55,56,57,97,98,99,100,101,102]
def hex2 (x:UInt8):List UInt8:=[dgs.getD (x.toNat/16) 0,dgs.getD (x.toNat%16) 0]
def hexB (l:List UInt8):List UInt8:=l.flatMap hex2
theorem z_fg (l:List UInt8):(hexB l).length=2*l.length:=by
 induction l with
 | nil=>rfl
 | cons x r ih=>simp only [hexB,List.flatMap_cons,List.length_append,List.length_cons] at ih ⊢;rw [ih];simp [hex2];omega
theorem z_qe (l:List UInt8) (x:UInt8):hexB (l++[x])=hexB l++[dgs.getD (x.toNat/16) 0]++[dgs.getD (x.toNat%16) 0]:=by simp [hexB,hex2]
theorem z_wQ {k:Nat} (h:k<16):dgs[k]?=some (dgs.getD k 0):=by
 have hk:k<dgs.length:=h
 simp [hk]
theorem and15 (x:UInt8):bits .and .u8 (x.toNat:Int) 15=((x.toNat%16:Nat):Int):=by
 show IntKind.u8.wrap (((BitVec.ofInt 8 (x.toNat:Int))&&&(BitVec.ofInt 8 15)).toNat:Int)=_
 have h1:BitVec.ofInt 8 (x.toNat:Int)=x.toBitVec:=by
  apply BitVec.eq_of_toNat_eq
  rw [BitVec.toNat_ofInt]
  have:=x.toNat_lt
  have e:x.toBitVec.toNat=x.toNat:=rfl
  rw [e]
  omega
 have h2:(BitVec.ofInt 8 15).toNat=2^4 - 1:=by decide
 rw [h1,BitVec.toNat_and,h2,Nat.and_two_pow_sub_one_eq_mod,wrap_u8]
 have e:x.toBitVec.toNat=x.toNat:=rfl
 rw [e]
 omega
structure HxS where
 k:Nat
 p:Value
 A:Option Addr
 c:Nat
theorem hex_c (w:World) (A:Option Addr) (l:List UInt8) (c:Nat) (hr:Bs w A l) (hne:l≠[]) (hn:l.length<=1000000):Pu Tryz.prog z_pk #[.slice A l.length c] w (.string ⟨(hexB l).toArray⟩):=by
 have g:=z_pU w (Un [])
 have hl0:0<l.length:=List.length_pos_iff.2 hne
 refine z_ac (cx:=z_ol w (Un [])) g z_sN rfl rfl (β:=Va.z) [.c (.v (.slice A l.length c))] 0 [] [bsF A l] rfl rfl ((Sat.start rfl).rd (fun _ h=>by cases h) hr) ?_
 refine z_ec g 0 (fun _=>[.pointer none,.slice none 0 0]) rfl rfl (fun _=>rfl) (fun b=>?_)
 refine z_ai 1 (fun i:HxS=>[(6,.c (.v (.slice A l.length c))),(7,.c (.v (.int .i64 l.length))),(8,.c (.v (.int .i64 i.k))),(3,.c (.v (selfV b)))]) (fun _=>[]) (fun i=>bldF b i.p i.A (hexB (l.take i.k)) i.c++[bsF A l])
  (fun i=>i.k<=l.length/\(i.p= .pointer none\/i.p=selfV b)) (fun i=>l.length - i.k) ⟨0,.pointer none,none,0⟩ ⟨Nat.zero_le _,.inl rfl⟩ (Ent.mk' ⟨rfl,rfl,rfl,rfl,trivial⟩ rfl ?_) g ?_
 ·intro β w' hs
  exact (hs.nilRow z_ab 1).perm [1,0,2]
 rintro ⟨k,p,A1,c1⟩ ⟨hk,hp⟩
 simp only at hk hp
 have hx0:=z_fg (l.take k)
 have htl:(l.take k).length<=l.length:=by simp;omega
 refine BIf.dec (fun hlt=>?_) (fun hge=>?_)
 ·have hlt0:(k:Int)<l.length:=hlt
  have hlt:k<l.length:=by omega
  obtain ⟨ad,hA⟩:=Bs.addr hr (by omega)
  have hb:=l[k].toNat_lt
  refine ⟨ad,k,hA,rfl,hlt,byte l[k],fun β w hs=>Bs.cell (hs.get 2 rfl) hA hlt,?_⟩
  refine ⟨by decide,((l[k].toNat/16:Nat):Int),z_tC _ 4,?_⟩
  refine ⟨l[k].toNat/16,_,rfl,z_wQ (by omega),?_⟩
  refine z_aa [0,1] (fun β w' hs=>z_mW w' b p A1 (hexB (l.take k)) c1 _ hp (by omega) (hs.mem.take (js:=[0,1]) rfl)) ?_
  rintro v Fs ⟨rfl,A2,c2,rfl⟩
  refine ⟨_,and15 l[k],?_⟩
  refine ⟨l[k].toNat%16,_,rfl,z_wQ (by omega),?_⟩
  refine z_aa [0,1] (fun β w' hs=>z_mW w' b (selfV b) A2 _ c2 _ (.inr rfl) (by simp only [List.length_append,List.length_cons,List.length_nil];omega) (hs.mem.take (js:=[0,1]) rfl)) ?_
  rintro v Fs ⟨rfl,A3,c3,rfl⟩
  refine ⟨((k+1:Nat):Int),by rw [wrap_i64 (by omega) (by omega)];rfl,?_⟩
  refine ⟨⟨k+1,selfV b,A3,c3⟩,⟨hlt,.inr rfl⟩,by show l.length - (k+1)<l.length - k;omega,?_⟩
  have e:hexB (l.take (k+1))=hexB (l.take k)++[dgs.getD (l[k].toNat/16) 0]++[dgs.getD (l[k].toNat%16) 0]:=by rw [z_p6 l k hlt,z_qe]
  refine Ent.mk' ⟨rfl,rfl,rfl,rfl,trivial⟩ rfl ?_
  intro β w' hs
  show Sat _ _ _ _ (bldF b (selfV b) A3 (hexB (l.take (k+1))) c3++[bsF A l]) _
  rw [e]
  exact hs
 ·have hge0: ¬(k:Int)<l.length:=hge
  have hke:k=l.length:=by omega
  subst hke
  have hn2:hexB (l.take l.length)≠[]:=by
   intro q
   have:=congrArg List.length q
   rw [hx0] at this
   simp at this
   omega
  refine z_aa [0,1] (fun β w' hs=>z_wu w' b p A1 _ c1 hn2 (hs.mem.take (js:=[0,1]) rfl)) ?_
  rintro v Fs ⟨rfl,rfl⟩
  intro β w' hs
  refine hs.fin [] ⟨?_,rfl⟩
  rw [List.take_length]
  rfl
end Go.Proofs.YtloeaiafphkjnaaGreatDoor.Sx
namespace Go.Proofs.YtloeaiafphkjnaaGreatDoor.Sx
open Go Sha
attribute [local irreducible] Calls
theorem z_jf (w:World) (x:UInt32) (n:Nat) (h1:1<=n) (h2:n<32):Pu Tryz.prog z_ca #[u32 x,.int .i64 (-(n:Int))] w (u32 (rotr x n)):=by
 refine pu_of (z_aH (cx:=z_bU w None_) (z_eh w None_) z_fW rfl rfl (β:=Va.z) [.c (.v (u32 x)),.c (.v (.int .i64 (-(n:Int))))] 0 [] [] rfl rfl (Sat.start rfl) ?_)
 refine ⟨_,rfl,?_⟩
 refine ⟨((32 - n:Nat):Int),?_,?_⟩
 ·have: ∀n:_root_.Fin 32,1<=n.val->bits .and .u64 (IntKind.u64.wrap (-(n.val:Int))) 31=((32 - n.val:Nat):Int):=by decide
  exact this ⟨n,h2⟩ h1
 refine ⟨by omega,_,shl32 x (32 - n) (by omega),?_⟩
 refine ⟨(n:Int),by show IntKind.u64.wrap _=_;simp only [IntKind.wrap,IntKind.bits,IntKind.signed];simp;omega,?_⟩
 refine ⟨by omega,_,shr32 x n h2,?_⟩
 refine ⟨_,or32 _ _,?_⟩
 intro β w' hs
 refine ⟨?_,hs.chg⟩
 rw [<-z_wT]
 rfl
theorem z_jc (w:World) (x:UInt32) (n:Nat) (h1:1<=n) (h2:n<32):Pu Tryz.prog z_es #[u32 x,.int .u64 (n:Int)] w (u32 (rotr x n)):=by
 refine pu_of (z_aH (cx:=z_dK w None_) (z_g7 w None_) z_jY rfl rfl (β:=Va.z) [.c (.v (u32 x)),.c (.v (.int .u64 (n:Int)))] 0 [] [] rfl rfl (Sat.start rfl) ?_)
 refine ⟨by omega,_,shr32 x n h2,?_⟩
 refine ⟨((32 - n:Nat):Int),by show IntKind.u64.wrap _=_;simp only [IntKind.wrap,IntKind.bits,IntKind.signed];simp;omega,?_⟩
 refine ⟨by omega,_,shl32 x (32 - n) (by omega),?_⟩
 refine ⟨_,or32 _ _,?_⟩
 intro β w' hs
 exact ⟨rfl,hs.chg⟩
theorem z_uA {x y k:Nat} (h:y<2^k):2^k*x ||| y=2^k*x+y:=(Nat.two_pow_add_eq_or_of_lt h x).symm
theorem z_xr (a b c d:UInt8):((UInt32.ofNat a.toNat<<<UInt32.ofNat 24 ||| UInt32.ofNat b.toNat<<<UInt32.ofNat 16) ||| UInt32.ofNat c.toNat<<<UInt32.ofNat 8) ||| UInt32.ofNat d.toNat=word a b c d:=by
 apply UInt32.toNat_inj.1
 have h1:=a.toNat_lt
 have h2:=b.toNat_lt
 have h3:=c.toNat_lt
 have h4:=d.toNat_lt
 have sh: ∀(x:UInt8) (n:Nat),n<=24->(UInt32.ofNat x.toNat<<<UInt32.ofNat n).toNat=2^n*x.toNat:=by
  intro x n hn
  have hx:=x.toNat_lt
  rw [UInt32.toNat_shiftLeft,UInt32.toNat_ofNat',UInt32.toNat_ofNat',Nat.mod_eq_of_lt (show n<2^32 by omega),Nat.mod_eq_of_lt (show n<32 by omega),Nat.shiftLeft_eq,Nat.mod_eq_of_lt (show x.toNat<2^32 by omega),Nat.mul_comm]
  refine Nat.mod_eq_of_lt ?_
  have:2^n<=2^24:=Nat.pow_le_pow_right (by omega) hn
  calc 2^n*x.toNat<=2^24*x.toNat:=Nat.mul_le_mul_right _ this
   _<2^32:=by omega
 unfold word
 simp only [UInt32.toNat_or,sh a 24 (by omega),sh b 16 (by omega),sh c 8 (by omega),UInt32.toNat_ofNat']
 rw [Nat.mod_eq_of_lt (show d.toNat<2^32 by omega)]
 rw [z_uA (show 2^16*b.toNat<2^24 by omega)]
 rw [show 2^24*a.toNat+2^16*b.toNat=2^16*(256*a.toNat+b.toNat) by omega,z_uA (show 2^8*c.toNat<2^16 by omega)]
 rw [show 2^16*(256*a.toNat+b.toNat)+2^8*c.toNat=2^8*(256*(256*a.toNat+b.toNat)+c.toNat) by omega,z_uA (show d.toNat<2^8 by omega)]
 omega
theorem z_x1 (w:World) (A:Option Addr) (l:List UInt8) (c:Nat) (hr:Bs w A l) (x y z u:UInt8) (h0:l[0]?=some x) (h1:l[1]?=some y) (h2:l[2]?=some z) (h3:l[3]?=some u):
  Pu Tryz.prog z_ot #[.slice A l.length c] w (u32 (word x y z u)):=by
 obtain ⟨k0,e0⟩:=List.getElem?_eq_some_iff.1 h0
 obtain ⟨k1,e1⟩:=List.getElem?_eq_some_iff.1 h1
 obtain ⟨k2,e2⟩:=List.getElem?_eq_some_iff.1 h2
 obtain ⟨k3,e3⟩:=List.getElem?_eq_some_iff.1 h3
 have g:=z_oU w None_
 obtain ⟨ad,hA⟩:=Bs.addr hr (by omega)
 have cv: ∀b:UInt8,IntKind.u32.wrap (b.toNat:Int)=((UInt32.ofNat b.toNat).toNat:Int):=fun b=>z_or _
 refine pu_of (z_aH (cx:=z_nt w None_) g z_sc rfl rfl (β:=Va.z) [.c (.v (.slice A l.length c))] 0 [] [bsF A l] rfl rfl ((Sat.start rfl).rd (fun _ h=>by cases h) hr) ?_)
 refine z_aj g z_qm (by kernel_rfl) _ _ Sub.refl ?_
 refine ⟨ad,0,hA,rfl,k0,byte x,fun β w hs=>by rw [<-e0];exact Bs.cell (hs.get 0 rfl:Bs w A _) hA (j:=0) k0,?_⟩
 refine ⟨_,cv x,by omega,_,shl32 (UInt32.ofNat x.toNat) 24 (by omega),?_⟩
 refine ⟨ad,1,hA,rfl,k1,byte y,fun β w hs=>by rw [<-e1];exact Bs.cell (hs.get 0 rfl:Bs w A _) hA (j:=1) k1,?_⟩
 refine ⟨_,cv y,by omega,_,shl32 (UInt32.ofNat y.toNat) 16 (by omega),?_⟩
 refine ⟨_,or32 _ _,?_⟩
 refine ⟨ad,2,hA,rfl,k2,byte z,fun β w hs=>by rw [<-e2];exact Bs.cell (hs.get 0 rfl:Bs w A _) hA (j:=2) k2,?_⟩
 refine ⟨_,cv z,by omega,_,shl32 (UInt32.ofNat z.toNat) 8 (by omega),?_⟩
 refine ⟨_,or32 _ _,?_⟩
 refine ⟨ad,3,hA,rfl,k3,byte u,fun β w hs=>by rw [<-e3];exact Bs.cell (hs.get 0 rfl:Bs w A _) hA (j:=3) k3,?_⟩
 refine ⟨_,cv u,_,or32 _ _,?_⟩
 intro β w' hs
 refine ⟨?_,hs.chg⟩
 rw [<-z_xr]
 rfl
def sl32 (x:UInt32):SL:= .v (u32 x)
def arr (n:Nat) (ws:List UInt32):List SL:=(ws++List.replicate (n - ws.length) 0).map sl32
theorem z_qD {n:Nat} {ws:List UInt32} (h:ws.length<=n):(arr n ws).length=n:=by simp [arr];omega
theorem z_ui {n:Nat} {ws:List UInt32} {i:Nat} (h:i<ws.length):(arr n ws)[i]?=some (sl32 (ws.getD i 0)):=by
 simp only [arr,List.getElem?_map]
 rw [List.getElem?_append_left h,List.getElem?_eq_getElem h]
 simp [List.getD,List.getElem?_eq_getElem h]
theorem z_qG {n:Nat} {ws:List UInt32} (h:ws.length<n) (x:UInt32):(arr n ws).set ws.length (sl32 x)=arr n (ws++[x]):=by
 obtain ⟨k,rfl⟩: ∃k,n=ws.length+(k+1):=⟨n - ws.length - 1,by omega⟩
 simp only [arr,List.length_append,List.length_cons,List.length_nil]
 rw [show ws.length+(k+1) - ws.length=k+1 by omega,show ws.length+(k+1) - (ws.length+(0+1))=k by omega,List.replicate_succ]
 simp
theorem z_rn {n:Nat} {ws:List UInt32} (h:ws.length=n):arr n ws=ws.map sl32:=by simp [arr,h]
theorem z_s1 (ws:List UInt32):allOne (ws.map sl32)=true:=z_tf fun x hx=>by obtain ⟨y,_,rfl⟩:=List.mem_map.1 hx;rfl
theorem z_xP (β:Va) (ws:List UInt32):(ws.map sl32).map (SL.val β)=ws.map u32:=by rw [List.map_map];rfl
theorem z_h9 (l:List UInt8) (i j:Nat) (h:i+j<l.length):(l.drop i)[j]?=some (l.getD (i+j) 0):=by
 rw [List.getElem?_drop,List.getElem?_eq_getElem h]
 simp [List.getD,List.getElem?_eq_getElem h]
theorem z_v7 (w:World) (A:Option Addr) (l:List UInt8) (c:Nat) (hr:Bs w A l) (hc:l.length<=c) (hl:64<=l.length) (hm:c<=maxLen):
  Pu Tryz.prog z_lT #[.slice A l.length c] w (.agg ((W l).map u32).toArray):=by
 obtain ⟨ws,hws⟩: ∃ws,W l=ws:=⟨_,rfl⟩
 have hwl:ws.length=64:=by rw [<-hws];exact W_len l
 rw [hws]
 have g:=z_nO w None_
 refine pu_of (z_aH (cx:=z_kS w None_) g z_pS rfl rfl (β:=Va.z) [.c (.v (.slice A l.length c))] 0 [] [bsF A l] rfl rfl ((Sat.start rfl).rd (fun _ h=>by cases h) hr) ?_)
 have e0:arr 64 []=ti212.zero.map SL.v:=by simp only [arr,List.nil_append,List.length_nil,List.map_replicate];rfl
 refine z_ai (ι:=Nat) 2 (fun i=>[(0,.c (.v (.slice A l.length c))),(2,.c (.p 0 0)),(3,.c (.p 1 0)),(10,.c (.v (.int .i64 i)))]) (fun i=>[⟨1,212,arr 64 (sched l i)⟩,⟨0,212,arr 64 []⟩]) (fun _=>[bsF A l])
  (fun i=>i<=16) (fun i=>16 - i) 0 (Nat.zero_le _) (Ent.mk' ⟨rfl,rfl,rfl,rfl,trivial⟩ rfl (fun β w' hs=>by rw [show sched l 0=[] from rfl,e0];exact hs)) g ?_
 intro i hi
 refine BIf.dec (fun hlt=>?_) (fun hge=>?_)
 ·have hlt:i<16:=by omega
  rw [maxLen_eq] at hm
  refine ⟨((4*i:Nat):Int),by rw [wrap_i64 (by omega) (by omega)];omega,?_⟩
  refine ⟨c,l.length,4*i,(l.drop (4*i)).length,c - 4*i,_,rfl,rfl,rfl,Nat.le_refl _,hc,by omega,by rw [List.length_drop],rfl,rfl,?_⟩
  refine z_ae (fun β w' hs=>z_x1 w' _ (l.drop (4*i)) _ (Bs.cutB (hs.get 0 rfl:Bs w' A l) (j:=l.length) hc (by omega) (Nat.le_refl _) (by rw [List.take_of_length_le (by simp)])) _ _ _ _
   (z_h9 l (4*i) 0 (by omega)) (z_h9 l (4*i) 1 (by omega)) (z_h9 l (4*i) 2 (by omega)) (z_h9 l (4*i) 3 (by omega))) ?_
  refine ⟨i,rfl,by omega,?_⟩
  have hsl:(sched l i).length=i:=z_eG l i
  refine z_wx (b:=Nat.ble (0+i*1+1) (arr 64 (sched l i)).length) (by rw [z_qD (by omega),Nat.ble_eq];omega) ?_
  refine ⟨((i+1:Nat):Int),by rw [wrap_i64 (by omega) (by omega)];rfl,?_⟩
  refine ⟨i+1,by omega,by omega,Ent.mk' ⟨rfl,rfl,rfl,rfl,trivial⟩ rfl (fun β w' hs=>?_)⟩
  have e1:putAll (arr 64 (sched l i)) (0+i*1) [sl32 (wordAt l i)]=arr 64 (sched l (i+1)):=by
   rw [putAll,putAll,z_aF,Nat.zero_add,Nat.mul_one]
   have:=z_qG (n:=64) (ws:=sched l i) (by omega) (wordAt l i)
   rw [hsl] at this
   rw [this,sched,if_pos hlt]
  rw [<-e1]
  exact hs
 ·obtain rfl:i=16:=by omega
  rw [maxLen_eq] at hm
  refine z_ai (ι:=Nat) 2 (fun i=>[(0,.c (.v (.slice A l.length c))),(2,.c (.p 0 0)),(3,.c (.p 1 0)),(5,.c (.v (.int .i64 i)))]) (fun i=>[⟨1,212,arr 64 (sched l i)⟩,⟨0,212,arr 64 []⟩]) (fun _=>[bsF A l])
   (fun i=>16<=i/\i<=64) (fun i=>64 - i) 16 ⟨by omega,by omega⟩ (Ent.same ⟨rfl,rfl,rfl,rfl,trivial⟩ rfl) g ?_
  rintro i ⟨hi1,hi2⟩
  refine BIf.dec (fun hlt=>?_) (fun hge=>?_)
  ·have hlt:i<64:=by omega
   have hsl:(sched l i).length=i:=z_eG l i
   have ld: ∀ {k:Nat},k<i->nth (arr 64 (sched l i)) (0+k*1)=some (sl32 ((sched l i).getD k 0)):=fun {k} hk=>by
    rw [z_aB,Nat.zero_add,Nat.mul_one];exact z_ui (by omega)
   refine z_aj g z_nj (by kernel_rfl) _ _ Sub.refl ?_
   refine ⟨((i - 15:Nat):Int),by rw [wrap_i64 (by omega) (by omega)];omega,i - 15,rfl,by omega,?_⟩
   conv=>whnf
   generalize hn:nth _ _=o
   obtain rfl:o=some (sl32 ((sched l i).getD (i - 15) 0)):=hn.symm.trans (ld (by omega))
   clear hn
   refine ⟨((i - 2:Nat):Int),by rw [wrap_i64 (by omega) (by omega)];omega,i - 2,rfl,by omega,?_⟩
   conv=>whnf
   generalize hn:nth _ _=o
   obtain rfl:o=some (sl32 ((sched l i).getD (i - 2) 0)):=hn.symm.trans (ld (by omega))
   clear hn
   obtain ⟨xa,hxa⟩: ∃xa,(sched l i).getD (i - 15) 0=xa:=⟨_,rfl⟩
   obtain ⟨xb,hxb⟩: ∃xb,(sched l i).getD (i - 2) 0=xb:=⟨_,rfl⟩
   rw [hxa,hxb]
   refine z_ae (fun β w' hs=>z_jf w' xa 7 (by omega) (by omega)) ?_
   refine z_ae (fun β w' hs=>z_jf w' xa 18 (by omega) (by omega)) ?_
   refine ⟨_,xor32 _ _,by omega,_,shr32 xa 3 (by omega),_,xor32 _ _,?_⟩
   refine z_ae (fun β w' hs=>z_jf w' xb 17 (by omega) (by omega)) ?_
   refine z_ae (fun β w' hs=>z_jf w' xb 19 (by omega) (by omega)) ?_
   refine ⟨_,xor32 _ _,by omega,_,shr32 xb 10 (by omega),_,xor32 _ _,?_⟩
   refine z_aj g z_ng (by kernel_rfl) _ _ Sub.refl ?_
   refine ⟨((i - 16:Nat):Int),by rw [wrap_i64 (by omega) (by omega)];omega,i - 16,rfl,by omega,?_⟩
   conv=>whnf
   generalize hn:nth _ _=o
   obtain rfl:o=some (sl32 ((sched l i).getD (i - 16) 0)):=hn.symm.trans (ld (by omega))
   clear hn
   refine ⟨_,add32 _ _,?_⟩
   refine ⟨((i - 7:Nat):Int),by rw [wrap_i64 (by omega) (by omega)];omega,i - 7,rfl,by omega,?_⟩
   conv=>whnf
   generalize hn:nth _ _=o
   obtain rfl:o=some (sl32 ((sched l i).getD (i - 7) 0)):=hn.symm.trans (ld (by omega))
   clear hn
   refine ⟨_,add32 _ _,_,add32 _ _,i,rfl,by omega,?_⟩
   refine z_wx (b:=Nat.ble (0+i*1+1) (arr 64 (sched l i)).length) (by rw [z_qD (by omega),Nat.ble_eq];omega) ?_
   refine ⟨((i+1:Nat):Int),by rw [wrap_i64 (by omega) (by omega)];rfl,?_⟩
   refine ⟨i+1,⟨by omega,by omega⟩,by omega,Ent.mk' ⟨rfl,rfl,rfl,rfl,trivial⟩ rfl (fun β w' hs=>?_)⟩
   have e1:putAll (arr 64 (sched l i)) (0+i*1) [sl32 ((sched l i).getD (i - 16) 0+s0 xa+(sched l i).getD (i - 7) 0+s1 xb)]=arr 64 (sched l (i+1)):=by
    rw [putAll,putAll,z_aF,Nat.zero_add,Nat.mul_one]
    have:=z_qG (n:=64) (ws:=sched l i) (by omega) ((sched l i).getD (i - 16) 0+s0 xa+(sched l i).getD (i - 7) 0+s1 xb)
    rw [hsl] at this
    rw [this,sched,if_neg (by omega),nxt,hxa,hxb]
   rw [<-e1]
   exact hs
  ·have hi64:i=64:=by omega
   have e2:arr 64 (sched l i)=ws.map sl32:=by
    rw [<-hws,hi64]
    exact z_rn (z_eG l 64)
   clear hi64 hi1 hi2 hge
   rw [e2]
   conv=>whnf
   generalize hn:takeAt _ _ _=o
   obtain rfl:o=some (ws.map sl32):=hn.symm.trans (z_on (by rw [List.length_map,hwl];rfl))
   clear hn
   conv=>whnf
   generalize h1:Nat.beq _ _=b1
   generalize h2:allOne _=b2
   obtain rfl:b1=true:=h1.symm.trans (by rw [List.length_map,hwl];rfl)
   obtain rfl:b2=true:=h2.symm.trans (z_s1 ws)
   clear h1 h2
   conv=>whnf
   generalize h1:Nat.ble _ _=b1
   obtain rfl:b1=true:=h1.symm.trans (by rw [List.length_map,hwl];rfl)
   clear h1
   conv=>whnf
   generalize hn:resOf _ _ _ _=o
   obtain rfl:o=some [.agg (ws.map sl32)]:=hn.symm.trans (by
    have hp:putAll (arr 64 []) 0 (ws.map sl32)=ws.map sl32:=z_nx (by rw [List.length_map,hwl];rfl)
    show (match takeAt (putAll (arr 64 []) 0 (ws.map sl32)) 0 64 with | some xs=>some [SV.agg xs] | none=>none)=_
    rw [hp,z_on (by rw [List.length_map,hwl])])
   clear hn
   intro β w' hs
   refine ⟨?_,hs.chg⟩
   show Value.agg ((ws.map sl32).map (SL.val β)).toArray=_
   rw [z_xP]
def oddF (g:Nat):Fact:=rdF 1 (some ⟨g,0,none⟩) 64 (K.map u32)
def stF (b ty:Nat) (s:S8):Fact:=bkF b ty (s.l.map u32)
theorem z_m1 (s:S8) (w:List UInt32) (n:Nat):rounds s w (n+1)=(rounds s w n).round (K.getD n 0) (w.getD n 0):=rfl
theorem K_len:K.length=64:=rfl
theorem z_rl {g:Nat} {w:World} (h:(oddF g).p w) {i:Nat} (hi:i<64):w.cell? ((⟨g,0,none⟩:Addr).add (i*1))=some (u32 (K.getD i 0)):=by
 obtain ⟨_,h2⟩:=h
 obtain ⟨ad,q,hc⟩:=h2 (by omega)
 obtain rfl:=Option.some.inj q
 rw [Nat.mul_one]
 refine hc i _ ?_
 rw [List.getElem?_map,List.getElem?_eq_getElem (by rw [K_len];exact hi)]
 simp [List.getD,List.getElem?_eq_getElem (show i<K.length by rw [K_len];exact hi)]
def mix (s t:S8) (i:Nat):List SL:=((s.add t).l.take i++s.l.drop i).map sl32
theorem z_tH (s t:S8): ∀i,i<9->(mix s t i).length=8
 | 0,_=>rfl | 1,_=>rfl | 2,_=>rfl | 3,_=>rfl | 4,_=>rfl | 5,_=>rfl | 6,_=>rfl | 7,_=>rfl | 8,_=>rfl
 | n+9,h=>by omega
theorem z_t2 (s t:S8): ∀i,i<8->nth (mix s t i) i=some (sl32 (s.l.getD i 0))
 | 0,_=>rfl | 1,_=>rfl | 2,_=>rfl | 3,_=>rfl | 4,_=>rfl | 5,_=>rfl | 6,_=>rfl | 7,_=>rfl
 | n+8,h=>by omega
theorem z_ur (s t:S8): ∀i,i<8->putAll (mix s t i) i [sl32 (s.l.getD i 0+t.l.getD i 0)]=mix s t (i+1)
 | 0,_=>rfl | 1,_=>rfl | 2,_=>rfl | 3,_=>rfl | 4,_=>rfl | 5,_=>rfl | 6,_=>rfl | 7,_=>rfl
 | n+8,h=>by omega
theorem l_get (t:S8): ∀i,i<8->(t.l.map sl32)[i]?=some (sl32 (t.l.getD i 0))
 | 0,_=>rfl | 1,_=>rfl | 2,_=>rfl | 3,_=>rfl | 4,_=>rfl | 5,_=>rfl | 6,_=>rfl | 7,_=>rfl
 | n+8,h=>by omega
theorem z_yE (w:World) (b ty:Nat) (s:S8) (A:Option Addr) (l:List UInt8) (c:Nat) (hm:Mem w [stF b ty s,bsF A l,oddF 2]) (hc:l.length<=c) (hl:64<=l.length) (hcm:c<=maxLen):
  Con Tryz.prog z_dt #[.pointer (some ⟨b,0,none⟩),.slice A l.length c] w [stF b ty s] fun v Fs=>v= .tuple #[]/\Fs=[stF b ty (Sha.step s l)]:=by
 obtain ⟨ws,hws⟩: ∃ws,W l=ws:=⟨_,rfl⟩
 have hwl:ws.length=64:=by rw [<-hws];exact W_len l
 have g:=z_jA w (Un [stF b ty s]) (bs:=[b])
 have hs0:Sat (z_bE w (Un [stF b ty s]) [b]) (Va.of fun _=>b) 1 [] [stF b ty s,bsF A l,oddF 2] w:=
  hm.sat rfl (ownIn (Gs:=[stF b ty s]) (Rs:=[bsF A l,oddF 2]) (fun g hg=>by
   rcases List.mem_cons.1 hg with rfl | hg
   ·rfl
   ·obtain rfl:=List.mem_singleton.1 hg;rfl)) ⟨Nat.le_refl _,fun i hi=>by
    have hi1:i<1:=hi
    have hi0:i=0:=by omega
    rw [hi0];rfl⟩
 have hs1:=hs0.toBk 0 rfl 0 Nat.zero_lt_one rfl
 refine z_ac (cx:=z_bE w (Un [stF b ty s]) [b]) g z_mi rfl rfl (β:=Va.of fun _=>b) [.c (.p 0 0),.c (.v (.slice A l.length c))] 1 [⟨0,ty,s.l.map sl32⟩] [bsF A l,oddF 2] rfl rfl (by rw [List.map_map] at hs1;exact hs1) ?_
 refine z_ae (fun β w' hs=>z_v7 w' A l c (hs.get 0 rfl) hc hl hcm) ?_
 rw [hws]
 have ea:ofValue (.agg (ws.map u32).toArray)= .agg (ws.map sl32):=by simp only [ofValue,List.map_map];rfl
 rw [ea]
 conv=>whnf
 generalize h1:Nat.beq _ _=b1
 generalize h2:allOne _=b2
 obtain rfl:b1=true:=h1.symm.trans (by rw [List.length_map,hwl];rfl)
 obtain rfl:b2=true:=h2.symm.trans (z_s1 ws)
 clear h1 h2
 conv=>whnf
 generalize h1:Nat.ble _ _=b1
 obtain rfl:b1=true:=h1.symm.trans (by rw [List.length_map,hwl];rfl)
 clear h1
 refine z_aj g z_kV (by kernel_rfl) _ _ Sub.refl ?_
 refine ⟨0,rfl,by decide,?_⟩
 refine ⟨1,rfl,by decide,?_⟩
 refine ⟨2,rfl,by decide,?_⟩
 refine ⟨3,rfl,by decide,?_⟩
 refine ⟨4,rfl,by decide,?_⟩
 refine ⟨5,rfl,by decide,?_⟩
 refine ⟨6,rfl,by decide,?_⟩
 refine ⟨7,rfl,by decide,?_⟩
 have hp:putAll (ti212.zero.map SL.v) 0 (ws.map sl32)=ws.map sl32:=z_nx (by rw [List.length_map,hwl];rfl)
 refine z_ai (ι:=Nat) 2 (fun i=>[(0,.c (.p 0 0)),(4,.c (.p 1 0)),(5,.c (sl32 (rounds s ws i).a)),(6,.c (sl32 (rounds s ws i).b)),(7,.c (sl32 (rounds s ws i).c)),(8,.c (sl32 (rounds s ws i).d)),(9,.c (sl32 (rounds s ws i).e)),(10,.c (sl32 (rounds s ws i).f)),(11,.c (sl32 (rounds s ws i).g)),(12,.c (sl32 (rounds s ws i).h)),(55,.c (.v (.int .i64 i)))])
  (fun _=>[⟨1,212,ws.map sl32⟩,⟨0,ty,s.l.map sl32⟩]) (fun _=>[bsF A l,oddF 2])
  (fun i=>i<=64) (fun i=>64 - i) 0 (Nat.zero_le _) (Ent.mk' ⟨rfl,rfl,rfl,rfl,rfl,rfl,rfl,rfl,rfl,rfl,rfl,trivial⟩ rfl (fun β w' hs=>by rw [<-hp];exact hs)) g ?_
 intro i hi
 obtain ⟨r,hr⟩: ∃r,rounds s ws i=r:=⟨_,rfl⟩
 rw [hr]
 obtain ⟨xa,xb,xc,xd,xe,xf,xg,xh⟩:=r
 refine BIf.dec (fun hlt=>?_) (fun hge=>?_)
 ·have hlt:i<64:=by omega
  refine z_ae (fun β w' hs=>z_jf w' xe 6 (by omega) (by omega)) ?_
  refine z_ae (fun β w' hs=>z_jf w' xe 11 (by omega) (by omega)) ?_
  refine ⟨_,xor32 _ _,?_⟩
  refine z_ae (fun β w' hs=>z_jf w' xe 25 (by omega) (by omega)) ?_
  refine ⟨_,xor32 _ _,?_⟩
  refine ⟨_,and32 _ _,_,not32 _,_,and32 _ _,_,xor32 _ _,?_⟩
  refine z_aj g z_ka (by kernel_rfl) _ _ Sub.refl ?_
  refine ⟨_,add32 _ _,_,add32 _ _,i,rfl,hlt,u32 (K.getD i 0),fun β w' hs=>z_rl (hs.get 1 rfl) hlt,_,add32 _ _,i,rfl,hlt,?_⟩
  conv=>whnf
  generalize hn:nth _ _=o
  obtain rfl:o=some (sl32 (ws.getD i 0)):=hn.symm.trans (by
   show nth (ws.map sl32) (0+i*1)=_
   rw [z_aB,Nat.zero_add,Nat.mul_one,List.getElem?_map,List.getElem?_eq_getElem (by omega)]
   simp [List.getD,List.getElem?_eq_getElem (show i<ws.length by omega)])
  clear hn
  refine ⟨_,add32 _ _,?_⟩
  refine z_ae (fun β w' hs=>z_jf w' xa 2 (by omega) (by omega)) ?_
  refine z_ae (fun β w' hs=>z_jf w' xa 13 (by omega) (by omega)) ?_
  refine ⟨_,xor32 _ _,?_⟩
  refine z_ae (fun β w' hs=>z_jf w' xa 22 (by omega) (by omega)) ?_
  refine ⟨_,xor32 _ _,?_⟩
  refine ⟨_,and32 _ _,_,and32 _ _,_,xor32 _ _,_,and32 _ _,_,xor32 _ _,?_⟩
  refine ⟨_,add32 _ _,_,add32 _ _,_,add32 _ _,?_⟩
  refine ⟨((i+1:Nat):Int),by rw [wrap_i64 (by omega) (by omega)];rfl,?_⟩
  refine ⟨i+1,by omega,by omega,Ent.same ?_ rfl⟩
  rw [z_m1,hr]
  exact ⟨rfl,rfl,rfl,rfl,rfl,rfl,rfl,rfl,rfl,rfl,rfl,trivial⟩
 ·obtain ⟨t,ht⟩: ∃t,(⟨xa,xb,xc,xd,xe,xf,xg,xh⟩:S8)=t:=⟨_,rfl⟩
  have hst:Sha.step s l=s.add t:=by
   have:i=64:=by omega
   rw [Sha.step,hws,<-ht,<-hr,this]
  rw [hst]
  refine z_ai (ι:=Nat) 2 (fun i=>[(0,.c (.p 0 0)),(129,.agg [sl32 xa,sl32 xb,sl32 xc,sl32 xd,sl32 xe,sl32 xf,sl32 xg,sl32 xh]),(130,.c (.v (.int .i64 i)))])
   (fun i=>[⟨1,212,ws.map sl32⟩,⟨0,ty,mix s t i⟩]) (fun _=>[bsF A l,oddF 2])
   (fun i=>i<=8) (fun i=>8 - i) 0 (Nat.zero_le _) (Ent.same ⟨rfl,rfl,rfl,trivial⟩ rfl) g ?_
  intro j hj
  refine BIf.dec (fun hlt=>?_) (fun hge=>?_)
  ·have hlt:j<8:=by omega
   refine ⟨j,sl32 (t.l.getD j 0),rfl,hlt,by rw [<-ht];show ((⟨xa,xb,xc,xd,xe,xf,xg,xh⟩:S8).l.map sl32)[j*1]?=_;rw [Nat.mul_one];exact l_get _ j hlt,?_⟩
   refine z_aj g z_jG (by kernel_rfl) [] [bsF A l,oddF 2] (Sub.of (List.nil_sublist _) (List.Sublist.refl _)) ?_
   refine ⟨j,rfl,hlt,?_⟩
   conv=>whnf
   generalize hn:nth _ _=o
   obtain rfl:o=some (sl32 (s.l.getD j 0)):=hn.symm.trans (by
    show nth (mix s t j) (0+j*1)=_
    rw [Nat.zero_add,Nat.mul_one]
    exact z_t2 s t j hlt)
   clear hn
   refine ⟨Sub.of (List.nil_sublist _) (List.Sublist.refl _),_,add32 _ _,j,rfl,hlt,?_⟩
   conv=>whnf
   generalize h1:Nat.ble _ _=b1
   obtain rfl:b1=true:=h1.symm.trans (by
    show Nat.ble (0+j*1+1) (mix s t j).length=true
    rw [z_tH s t j (by omega),Nat.ble_eq];omega)
   clear h1
   refine ⟨Sub.of (List.nil_sublist _) (List.Sublist.refl _),?_⟩
   refine ⟨((j+1:Nat):Int),by rw [wrap_i64 (by omega) (by omega)];rfl,?_⟩
   refine ⟨j+1,by omega,by omega,Ent.mk' ⟨rfl,rfl,rfl,trivial⟩ rfl (fun β w' hs=>?_)⟩
   have e1:=z_ur s t j hlt
   rw [<-e1]
   have e3:0+j*1=j:=by omega
   have hs2:Sat (z_bE w (Un [stF b ty s]) [b]) β 2 [⟨1,212,ws.map sl32⟩,⟨0,ty,putAll (mix s t j) (0+j*1) [sl32 (s.l.getD j 0+t.l.getD j 0)]⟩] [bsF A l,oddF 2] w':=hs
   rw [e3] at hs2
   exact hs2
  ·obtain rfl:j=8:=by omega
   intro β w' hs
   have h1:=hs.weaken (List.sublist_cons_self _ _) (List.Sublist.refl _)
   have h2:=h1.ofBk
   have hb:β 0=b:=h2.fix.2 0 (Nat.zero_lt_one)
   refine h2.fin [0] ⟨rfl,?_⟩
   show [bkF (β 0) ty ((mix s t 8).map (SL.val β))]=[stF b ty (s.add t)]
   rw [hb]
   rfl
theorem z_pc (x:UInt32):IntKind.u8.wrap (x.toNat:Int)=(x.toUInt8.toNat:Int):=by
 rw [show IntKind.u8.wrap (x.toNat:Int)=(x.toNat:Int)%256 by simp [IntKind.wrap,IntKind.bits,IntKind.signed],UInt32.toNat_toUInt8]
 omega
def outN (s:S8) (i:Nat):List UInt8:=(s.l.take i).flatMap b4
theorem z_p3 (s:S8): ∀i,i<8->outN s i++b4 (s.l.getD i 0)=outN s (i+1)
 | 0,_=>rfl | 1,_=>rfl | 2,_=>rfl | 3,_=>rfl | 4,_=>rfl | 5,_=>rfl | 6,_=>rfl | 7,_=>rfl
 | n+8,h=>by omega
theorem z_s4 (w:World) (b ty:Nat) (s:S8) (hm:Mem w [stF b ty s]):
  Con Tryz.prog z_fS #[.pointer (some ⟨b,0,none⟩)] w [stF b ty s] fun v Fs=> ∃A c,v= .slice A 32 c/\32<=c/\c<=maxLen/\Fs=[stF b ty s,browF z_ab A (out s) c]:=by
 have g:=z_i1 w (Un [stF b ty s]) (bs:=[b])
 have hs0:Sat (z_cq w (Un [stF b ty s]) [b]) (Va.of fun _=>b) 1 [] [stF b ty s] w:=
  hm.sat rfl (ownIn (Gs:=[stF b ty s]) (Rs:=[]) (fun g hg=>by cases hg)) ⟨Nat.le_refl _,fun i hi=>by
    have hi1:i<1:=hi
    have hi0:i=0:=by omega
    rw [hi0];rfl⟩
 have hs1:=hs0.toBk 0 rfl 0 Nat.zero_lt_one rfl
 rw [List.map_map] at hs1
 refine z_ac (cx:=z_cq w (Un [stF b ty s]) [b]) g z_lo rfl rfl (β:=Va.of fun _=>b) [.c (.p 0 0)] 1 [⟨0,ty,s.l.map sl32⟩] [browF z_ab none [] 0] rfl rfl (hs1.nilRow _ _) ?_
 refine z_ai (ι:=Nat×Option Addr×Nat) 1 (fun i=>[(6,.c (.p 0 0)),(7,.c (.v (.int .i64 i.1))),(3,.c (.v (.slice i.2.1 (4*i.1) i.2.2)))]) (fun _=>[⟨0,ty,s.l.map sl32⟩])
  (fun i=>[rowF z_ab 1 (.slice i.2.1 (4*i.1) i.2.2) (4*i.1) ((outN s i.1).map byte)])
  (fun i=>i.1<=8/\4*i.1<=i.2.2/\i.2.2<=maxLen) (fun i=>8 - i.1) (0,none,0) ⟨Nat.zero_le _,Nat.zero_le _,Nat.zero_le _⟩ (Ent.same ⟨rfl,rfl,rfl,trivial⟩ rfl) g ?_
 rintro ⟨i,A,c⟩ ⟨hi,hc,hcm⟩
 simp only at hi hc hcm
 refine BIf.dec (fun hlt=>?_) (fun hge=>?_)
 ·have hlt:i<8:=by omega
  obtain ⟨x,hx⟩: ∃x,s.l.getD i 0=x:=⟨_,rfl⟩
  refine ⟨i,rfl,hlt,?_⟩
  conv=>whnf
  generalize hn:nth _ _=o
  obtain rfl:o=some (sl32 x):=hn.symm.trans (by
   show nth (s.l.map sl32) (0+i*1)=_
   rw [Nat.zero_add,Nat.mul_one,<-hx,z_aB]
   exact l_get s i hlt)
  clear hn
  refine ⟨by omega,_,shr32 x 24 (by omega),_,z_pc _,by omega,_,shr32 x 16 (by omega),_,z_pc _,by omega,_,shr32 x 8 (by omega),_,z_pc _,_,z_pc _,?_⟩
  intro b2
  refine ⟨1,4*i,4*(i+1),(outN s i).map byte,(b4 x).map byte,_,rfl,fun β w hs=>z_an (hs.get 0 rfl),z_ap _,by omega,rfl,by rw [maxLen_eq];omega,by show 4*(i+1)*1<=_;omega,?_⟩
  intro A' c' h1 h2 _
  refine ⟨((i+1:Nat):Int),by rw [wrap_i64 (by omega) (by omega)];rfl,?_⟩
  refine ⟨(i+1,A',c'),⟨by show i+1<=8;omega,h1,h2⟩,by show 8 - (i+1)<8 - i;omega,Ent.mk' ⟨rfl,rfl,rfl,trivial⟩ rfl (fun β w' hs=>?_)⟩
  have e1:=z_p3 s i hlt
  rw [hx] at e1
  have h3:=hs.weaken (List.Sublist.refl _) (List.sublist_cons_self _ _)
  show Sat _ _ _ _ [rowF z_ab 1 (.slice A' (4*(i+1)) c') (4*(i+1)) ((outN s (i+1)).map byte)] _
  rw [<-e1,List.map_append]
  exact h3
 ·obtain rfl:i=8:=by omega
  intro β w' hs
  have h2:=hs.ofBk
  have hb:β 0=b:=h2.fix.2 0 (Nat.zero_lt_one)
  refine h2.fin [0,1] ⟨A,c,rfl,hc,hcm,?_⟩
  show [bkF (β 0) ty ((s.l.map sl32).map (SL.val β)),_]=[stF b ty s,_]
  rw [hb]
  rfl
theorem z_gb (x:Nat):IntKind.u8.wrap (x:Int)=((UInt8.ofNat x).toNat:Int):=by
 rw [show IntKind.u8.wrap (x:Int)=(x:Int)%256 by simp [IntKind.wrap,IntKind.bits,IntKind.signed],UInt8.toNat_ofNat']
 omega
theorem z_aT (x:Int):IntKind.u64.wrap x=x%18446744073709551616:=by simp [IntKind.wrap,IntKind.bits,IntKind.signed]
theorem z_sb (n:Nat): ∀i,i<8->(Sha.long n).take i++[UInt8.ofNat (n/2^(8*(7 - i)))]=(Sha.long n).take (i+1)
 | 0,_=>rfl | 1,_=>rfl | 2,_=>rfl | 3,_=>rfl | 4,_=>rfl | 5,_=>rfl | 6,_=>rfl | 7,_=>rfl
 | n+8,h=>by omega
theorem z_yk (w:World) (n:Nat):
  Con Tryz.prog z_oi #[.int .u64 n] w [] fun v Fs=> ∃A c,v= .slice A 8 c/\8<=c/\c<=maxLen/\Fs=[browF z_ab A (Sha.long n) c]:=by
 have g:=z_oN w (Un [])
 refine z_ac (cx:=z_mL w (Un [])) g z_rU rfl rfl (β:=Va.z) [.c (.v (.int .u64 n))] 0 [] [browF z_ab none [] 0] rfl rfl ((Sat.start rfl).nilRow _ _) ?_
 refine z_ai (ι:=Nat×Option Addr×Nat) 0 (fun i=>[(0,.c (.v (.int .u64 n))),(5,.c (.v (.int .i64 i.1))),(3,.c (.v (.slice i.2.1 i.1 i.2.2)))]) (fun _=>[])
  (fun i=>[rowF z_ab 1 (.slice i.2.1 i.1 i.2.2) i.1 (((Sha.long n).take i.1).map byte)])
  (fun i=>i.1<=8/\i.1<=i.2.2/\i.2.2<=maxLen) (fun i=>8 - i.1) (0,none,0) ⟨Nat.zero_le _,Nat.zero_le _,Nat.zero_le _⟩ (Ent.same ⟨rfl,rfl,rfl,trivial⟩ rfl) g ?_
 rintro ⟨i,A,c⟩ ⟨hi,hc,hcm⟩
 simp only at hi hc hcm
 refine BIf.dec (fun hlt=>?_) (fun hge=>?_)
 ·have hlt:i<8:=by omega
  refine ⟨((7 - i:Nat):Int),by rw [wrap_i64 (by omega) (by omega)];omega,((8*(7 - i):Nat):Int),by rw [wrap_i64 (by omega) (by omega)];omega,?_⟩
  refine ⟨by omega,((n/2^(8*(7 - i)):Nat):Int),?_,_,z_gb _,?_⟩
  ·have h1:min ((8*(7 - i):Nat):Int).toNat IntKind.u64.bits=8*(7 - i):=by show min (8*(7 - i)) 64=_;omega
   rw [h1]
   have:(2^(8*(7 - i)):Int)=((2^(8*(7 - i)):Nat):Int):=by push_cast;rfl
   rw [this,Int.fdiv_eq_ediv_of_nonneg _ (Int.natCast_nonneg _)]
   exact (Int.natCast_ediv _ _).symm
  intro b2
  refine ⟨1,i,i+1,((Sha.long n).take i).map byte,[UInt8.ofNat (n/2^(8*(7 - i)))].map byte,_,rfl,fun β w hs=>z_an (hs.get 0 rfl),z_ap _,rfl,rfl,by rw [maxLen_eq];omega,by show (i+1)*1<=_;omega,?_⟩
  intro A' c' h1 h2 _
  refine ⟨((i+1:Nat):Int),by rw [wrap_i64 (by omega) (by omega)];rfl,?_⟩
  refine ⟨(i+1,A',c'),⟨by show i+1<=8;omega,h1,h2⟩,by show 8 - (i+1)<8 - i;omega,Ent.mk' ⟨rfl,rfl,rfl,trivial⟩ rfl (fun β w' hs=>?_)⟩
  have h3:=hs.weaken (List.Sublist.refl _) (List.sublist_cons_self _ _)
  show Sat _ _ _ _ [rowF z_ab 1 (.slice A' (i+1) c') (i+1) (((Sha.long n).take (i+1)).map byte)] _
  rw [<-z_sb n i hlt,List.map_append]
  exact h3
 ·obtain rfl:i=8:=by omega
  intro β w' hs
  exact hs.fin [0] ⟨A,c,rfl,hc,hcm,rfl⟩
theorem z_yI (w:World) (n:Nat) (hn:n<=140737488355328):
  Con Tryz.prog z_of #[.int .u64 n] w [] fun v Fs=> ∃A c,v= .slice A (Sha.ends n).length c/\(Sha.ends n).length<=c/\c<=maxLen/\Fs=[browF z_ab A (Sha.ends n) c]:=by
 have g:=z_o0 w (Un [])
 have hz:zeros n<64:=by unfold zeros;omega
 refine z_ac (cx:=z_nN w (Un [])) g z_si rfl rfl (β:=Va.z) [.c (.v (.int .u64 n))] 0 [] [] rfl rfl (Sat.start rfl) ?_
 intro b0
 refine z_ai (ι:=Nat×Option Addr×Nat) 0 (fun i=>[(0,.c (.v (.int .u64 n))),(3,.c (.v (.slice i.2.1 (i.1+1) i.2.2)))]) (fun _=>[])
  (fun i=>[rowF z_ab 1 (.slice i.2.1 (i.1+1) i.2.2) (i.1+1) (((0x80:UInt8)::List.replicate i.1 0).map byte)])
  (fun i=>i.1<=zeros n/\i.1+1<=i.2.2/\i.2.2<=maxLen) (fun i=>zeros n - i.1) (0,some ⟨b0,0,none⟩,1) ⟨Nat.zero_le _,Nat.le_refl _,by show 1<=maxLen;decide⟩ (Ent.same ⟨rfl,rfl,trivial⟩ rfl) g ?_
 rintro ⟨i,A,c⟩ ⟨hi,hc,hcm⟩
 simp only at hi hc hcm
 obtain ⟨r,hr⟩: ∃r:Nat,(n+(i+1)+8)%64=r:=⟨_,rfl⟩
 refine ⟨((i+1:Nat):Int),by rw [z_aT];omega,((n+(i+1):Nat):Int),by rw [z_aT];omega,((n+(i+1)+8:Nat):Int),by rw [z_aT];omega,by omega,(r:Int),by rw [Int.tmod_eq_emod_of_nonneg (by omega)];omega,?_⟩
 refine BIf.not (BIf.dec (fun h0=>?_) (fun h0=>?_))
 ·have hiz:i=zeros n:=by unfold zeros at *;omega
  refine ⟨((8*n:Nat):Int),by rw [z_aT];omega,?_⟩
  refine z_aa [] (fun β w' hs=>z_yk w' (8*n)) ?_
  rintro v Fs ⟨A2,c2,rfl,h1,h2,rfl⟩
  have hl:(Sha.ends n).length=i+1+8:=by rw [Sha.ends_len,hiz];omega
  refine ⟨1,i+1,(Sha.ends n).length,_,(Sha.long (8*n)).map byte,(Sha.ends n).map byte,rfl,fun β w hs=>z_an (hs.get 0 rfl),z_ap _,hl.symm,by rw [<-List.map_append,hiz];rfl,by rw [maxLen_eq,hl];omega,by show (Sha.ends n).length*1<=_;omega,?_⟩
  intro A' c' h3 h4 _
  intro β w' hs
  exact hs.fin [1] ⟨A',c',rfl,h3,h4,rfl⟩
 ·have hiz:i<zeros n:=by
   rcases Nat.lt_or_ge i (zeros n) with h | h
   ·exact h
   ·exfalso
    apply h0
    have:i=zeros n:=by omega
    subst this
    unfold zeros at hr
    omega
  intro b2
  refine ⟨1,i+1,i+1+1,((0x80:UInt8)::List.replicate i 0).map byte,[(0:UInt8)].map byte,_,rfl,fun β w hs=>z_an (hs.get 0 rfl),z_ap _,rfl,rfl,by rw [maxLen_eq];omega,by show (i+1+1)*1<=_;omega,?_⟩
  intro A' c' h1 h2 _
  refine ⟨(i+1,A',c'),⟨hiz,h1,h2⟩,by show zeros n - (i+1)<zeros n - i;omega,Ent.mk' ⟨rfl,rfl,trivial⟩ rfl (fun β w' hs=>?_)⟩
  have h3:=hs.weaken (List.Sublist.refl _) (List.sublist_cons_self _ _)
  show Sat _ _ _ _ [rowF z_ab 1 (.slice A' (i+1+1) c') (i+1+1) (((0x80:UInt8)::List.replicate (i+1) 0).map byte)] _
  rw [List.replicate_succ',<-List.cons_append,List.map_append]
  exact h3
theorem z_qM (w:World) (A:Option Addr) (l:List UInt8) (c:Nat) (hr:Bs w A l) (hn:l.length<=140737488355328):
  Con Tryz.prog z_f4 #[.slice A l.length c] w [] fun v Fs=> ∃A' c',v= .slice A' l.length c'/\l.length<=c'/\c'<=maxLen/\Fs=[browF z_ab A' l c']:=by
 refine z_ac (cx:=z_jl w (Un [])) (z_mb w (Un [])) z_oz rfl rfl (β:=Va.z) [.c (.v (.slice A l.length c))] 0 [] [bsF A l] rfl rfl ((Sat.start rfl).rd (fun _ h=>by cases h) hr) ?_
 refine BIf.mk (fun h=>?_) (fun h=>?_)
 ·intro β w' hs
  have hA:A=none:=by simpa using h
  subst hA
  have hl:l=[]:=by
   cases l with
   | nil=>rfl
   | cons x r=>obtain ⟨ad,q⟩:=Bs.addr hr (by simp);cases q
  subst hl
  exact (hs.nilRow z_ab 1).fin [0] ⟨none,0,rfl,Nat.le_refl _,Nat.zero_le _,rfl⟩
 intro b
 refine ⟨0,0,l.length,[],l.map byte,_,rfl,fun β w hs=>hs.get 1 rfl,z_ap l,Nat.zero_add _,rfl,by rw [maxLen_eq];omega,by show l.length*1<=_;omega,?_⟩
 intro A' c' h1 h2 h3 β w' hs
 exact hs.fin [0] ⟨A',c',rfl,h1,h2,rfl⟩
def blk (q:List UInt8) (i:Nat):List UInt8:=(q.drop (64*i)).take 64
def blks (q:List UInt8) (n:Nat):List (List UInt8):=(List.range n).map (blk q)
theorem z_pp (q:List UInt8) (n:Nat):blks q (n+1)=blks q n++[blk q n]:=by simp [blks,List.range_succ]
theorem go_eq: ∀(n:Nat) (s:S8) (q:List UInt8),go n s q=(blks q n).foldl Sha.step s
 | 0,s,q=>rfl
 | n+1,s,q=>by
  rw [go,go_eq n]
  have:blks q (n+1)=q.take 64::blks (q.drop 64) n:=by
   simp only [blks,List.range_succ_eq_map,List.map_cons,List.map_map]
   congr 1
   refine List.map_congr_left fun i _=>?_
   simp only [Function.comp,blk,List.drop_drop]
   rw [show 64*(i+1)=64+64*i by omega]
  rw [this,List.foldl_cons]
def insB (x:List UInt8) (args:Array Value) (X:Fact):Prop:=x.length=64/\ ∃B,args= #[.slice B 64 64]/\X=bsF B x
theorem z_ta (l:Nat) (w:World) (bx:Nat) (A:Option Addr) (p:List UInt8) (c:Nat) (f0 R:Fact) (J Jx:List (List UInt8)->Fact->Prop) (hJ0:J [] f0) (hJo: ∀pre f,J pre f->f.own=true) (hRo:R.own=false) (hY:Yc Tryz.prog l J Jx R (fun _=>insB))
  (hp:p.length<=70368744177664) (hm:Mem w (f0::R::[bkF bx z_al [.slice A p.length c],bsF A p])):
  Con Tryz.prog z_fs #[.func (.yield l) #[] #[],.pointer (some ⟨bx,0,none⟩)] w [f0,bkF bx z_al [.slice A p.length c]]
   (fun _ Fs=> ∃f Fs',Fs=f::Fs'/\((∃xs,J xs f/\xs=blks (p++ends p.length) ((p++ends p.length).length/64)/\Fs'=[])\/(∃pre,Jx pre f/\Fs'=[]))):=by
 have g:=z_lf w (Un [f0,bkF bx z_al [.slice A p.length c]]) [bx]
 have hs0:Sat (z_eI w (Un [f0,bkF bx z_al [.slice A p.length c]]) [bx]) (Va.of fun _=>bx) 1 [] (f0::R::[bkF bx z_al [.slice A p.length c],bsF A p]) w:=by
  refine hm.sat rfl (fun f hf ho k hk=>?_) ⟨Nat.le_refl 1,fun i hi=>by obtain rfl:i=0:=Nat.lt_one_iff.1 hi;rfl⟩
  simp only [List.mem_cons,List.not_mem_nil,or_false] at hf
  rcases hf with rfl | rfl | rfl | rfl
  ·exact ⟨_,by simp,hk⟩
  ·rw [hRo] at ho;cases ho
  ·exact ⟨_,by simp,hk⟩
  ·cases ho
 have hs1:=hs0.toBk 2 rfl 0 Nat.zero_lt_one rfl
 have hf0:=hJo _ _ hJ0
 refine z_ac (cx:=z_eI w (Un [f0,bkF bx z_al [.slice A p.length c]]) [bx]) g z_nU rfl rfl (β:=Va.of fun _=>bx) [.c (.v (.func (.yield l) #[] #[])),.c (.p 0 0)] 1 [⟨0,z_al,[.v (.slice A p.length c)]⟩] [f0,R,bsF A p] rfl rfl hs1 ?_
 refine z_aj g z_mf (by kernel_rfl) [⟨0,z_al,[.v (.slice A p.length c)]⟩] [f0,R,bsF A p] Sub.refl ?_
 refine ⟨((p.length:Nat):Int),by rw [z_aT];omega,?_⟩
 refine z_aa [] (fun β w' hs=>z_qM w' A p c (hs.get 2 rfl) (by omega)) ?_
 rintro v Fs ⟨A1,c1,rfl,h1,h2,rfl⟩
 refine ⟨Sub.dropF 1 rfl,?_⟩
 refine z_aa [] (fun β w' hs=>z_yI w' p.length (by omega)) ?_
 rintro v Fs ⟨A2,c2,rfl,h3,h4,rfl⟩
 refine ⟨Sub.dropF 2 rfl,?_⟩
 obtain ⟨q,hq⟩: ∃q,p++ends p.length=q:=⟨_,rfl⟩
 have hql:q.length=p.length+(ends p.length).length:=by rw [<-hq,List.length_append]
 have hel:(ends p.length).length<73:=by rw [Sha.ends_len];unfold zeros;omega
 have hqm:q.length%64=0:=by rw [<-hq];exact Sha.pad_mod p
 rw [hq]
 refine ⟨1,p.length,q.length,_,(ends p.length).map byte,q.map byte,rfl,fun β w hs=>z_an (hs.get 0 rfl),z_ap _,hql.symm,by rw [<-hq,List.map_append],by rw [maxLen_eq];omega,by show q.length*1<=_;omega,?_⟩
 intro A3 c3 h5 h6 _
 refine ⟨Sub.dropF 2 rfl,?_⟩
 refine z_ai (ι:=Nat×Option Addr×Nat×Fact) 1 (fun i=>[(0,.c (.v (.func (.yield l) #[] #[]))),(3,.c (.v (.slice i.2.1 (q.length - 64*i.1) i.2.2.1)))]) (fun _=>[⟨0,z_al,[.v (.slice A p.length c)]⟩])
  (fun i=>[browF z_ab A3 q c3,i.2.2.2,R])
  (fun i=>64*i.1<=q.length/\q.length - 64*i.1<=i.2.2.1/\i.2.2.1<=maxLen/\J (blks q i.1) i.2.2.2/\(∀w,Bs w A3 q->Bs w i.2.1 (q.drop (64*i.1)))/\(∀ad,i.2.1=some ad-> ∃ad3,A3=some ad3/\ad.block=ad3.block)) (fun i=>q.length - 64*i.1) (0,A3,c3,f0)
  ⟨Nat.zero_le _,h5,h6,hJ0,fun w h=>h,fun ad h=>⟨ad,h,rfl⟩⟩ (Ent.mk' ⟨rfl,rfl,trivial⟩ rfl (fun β w' hs=>hs.weaken (List.Sublist.refl _) (List.Sublist.cons _ (List.Sublist.cons_cons _ (List.Sublist.cons_cons _ (List.Sublist.cons_cons _ (List.nil_sublist _))))))) g ?_
 rintro ⟨i,B,cap,f⟩ ⟨hi,hcap,hcm,hJ,hB,hBD⟩
 simp only at hi hcap hcm hJ hB hBD
 have hfo:=hJo _ _ hJ
 obtain ⟨m,hm⟩: ∃m,q.length - 64*i=m:=⟨_,rfl⟩
 have hmc:m<=cap:=by omega
 rw [hm]
 have hdl:(q.drop (64*i)).length=m:=by rw [List.length_drop];omega
 refine BIf.dec (fun h0=>?_) (fun h0=>?_)
 ·have hm64:64<=m:=by omega
  have hbl:(blk q i).length=64:=by unfold blk;rw [List.length_take,hdl];omega
  refine ⟨64,64,0,64,64,_,rfl,rfl,rfl,by show 64<=cap;omega,by omega,by omega,rfl,rfl,rfl,?_⟩
  have hcutD: ∀k,(bsF (cutA B 64 0 1) (blk q i)).D k->(browF z_ab A3 q c3).D k:=by
   rintro k ⟨_,ad,had,rfl⟩
   simp only [cutA] at had
   rw [if_neg (by decide)] at had
   cases B with
   | none=>cases had
   | some ad0=>
    obtain rfl:ad0.add (0*1)=ad:=by simpa using had
    obtain ⟨ad3,h7,h8⟩:=hBD ad0 rfl
    subst h7
    have:(ad0.add (0*1)).block=ad0.block:=by unfold Addr.add;split<;>rfl
    show some ad3.block=some (ad0.add (0*1)).block
    rw [this,h8]
  refine z_bC (x:=blk q i) (X:=bsF (cutA B 64 0 1) (blk q i)) hY 1 2 rfl hJ hfo rfl hRo (by decide) (fun β=>⟨hbl,_,rfl,rfl⟩) rfl (fun β w' hs=>⟨?_,fun k hk=>hs.getLt 0 rfl k (hcutD k hk),fun k hk hk'=>?_⟩) ?_ ?_
  ·have h7:=Bs.cut (hB w' (z_an (hs.get 0 rfl))) (c:=cap) (m:=64) (i:=0) (j:=64) (by omega) (.inr (Nat.le_refl _)) (by omega) (by omega) (by omega)
   have h8:Rd 1 (cutA B 64 0 1) (blk q i).length ((blk q i).map byte) w':=by rw [hbl];exact h7
   exact h8
  ·exact hs.apart (i:=1) (j:=0) rfl rfl (by decide) (.inr rfl) k hk (hcutD k hk')
  ·intro f2 hfo2 hJ2
   refine ⟨cap,m,64,m - 64,cap - 64,_,rfl,rfl,rfl,Nat.le_refl _,hmc,hm64,rfl,rfl,rfl,?_⟩
   refine ⟨(i+1,cutA B cap 64 1,cap - 64,f2),⟨by show 64*(i+1)<=_;omega,by show q.length - 64*(i+1)<=cap - 64;omega,by show cap - 64<=_;omega,by show J (blks q (i+1)) f2;rw [z_pp];exact hJ2,fun w' h=>?_,fun ad had=>?_⟩,by show q.length - 64*(i+1)<m;omega,Ent.mk' ⟨rfl,?_,trivial⟩ rfl (fun β w' hs=>?_)⟩
   ·have h7:=Bs.cutB (hB w' h) (c:=cap) (i:=64) (j:=m) (m:=q.drop (64*(i+1))) (by omega) hm64 (by omega) (by
     rw [List.drop_drop,show 64*i+64=64*(i+1) by omega,List.take_of_length_le]
     rw [List.length_drop];omega)
    exact h7
   ·have had':cutA B cap 64 1=some ad:=had
    unfold cutA at had'
    split at had'
    ·exact hBD ad had'
    ·cases B with
     | none=>cases had'
     | some ad0=>
      obtain rfl:ad0.add (64*1)=ad:=by simpa using had'
      obtain ⟨ad3,h7,h8⟩:=hBD ad0 rfl
      refine ⟨ad3,h7,?_⟩
      rw [<-h8]
      unfold Addr.add;split<;>rfl
   ·show _=some (SV.c (.v (.slice _ (q.length - 64*(i+1)) _)))
    rw [show q.length - 64*(i+1)=m - 64 by omega]
    rfl
   ·exact (hs.keepB (List.Sublist.refl _)).perm [1,0,2]
  ·intro f2 hfo2 hJ2 β w' hs
   exact hs.fin [0] ⟨f2,[],rfl,.inr ⟨_,hJ2,rfl⟩⟩ rfl rfl rfl ⟨hfo2,trivial⟩
 ·have hi2:i=q.length/64:=by omega
  intro β w' hs
  exact hs.fin [1] ⟨f,[],rfl,.inl ⟨_,hJ,by rw [hi2],rfl⟩⟩ rfl rfl rfl ⟨hfo,trivial⟩
theorem z_ix {e size k n c:Nat} {A:Option Addr} {xs ys:List Value}: ∀g,(rdF size A k xs).D g->(rowF e size (.slice A n c) n ys).D g:=by
 rintro g ⟨_,ad,rfl,rfl⟩
 rfl
theorem Mem.lastRd {w:World} {f R X:Fact} {e c:Nat} {A:Option Addr} {l:List UInt8} (h:Mem w [f,R,X,browF e A l c]):Mem w [f,R,X,bsF A l]:=by
 have hp:Bs w A l:=z_an (h.fact (browF e A l c) (by simp))
 refine ⟨fun g hg=>?_,fun g hg k hk=>?_,?_⟩
 ·simp only [List.mem_cons,List.not_mem_nil,or_false] at hg
  rcases hg with rfl | rfl | rfl | rfl
  ·exact h.fact _ (by simp)
  ·exact h.fact _ (by simp)
  ·exact h.fact _ (by simp)
  ·exact hp
 ·simp only [List.mem_cons,List.not_mem_nil,or_false] at hg
  rcases hg with rfl | rfl | rfl | rfl
  ·exact h.flt g (by simp) k hk
  ·exact h.flt g (by simp) k hk
  ·exact h.flt g (by simp) k hk
  ·exact h.flt (browF e A l c) (by simp) k (z_ix k hk)
 ·obtain ⟨h1,h2⟩:=List.pairwise_cons.1 h.sepf
  obtain ⟨h3,h4⟩:=List.pairwise_cons.1 h2
  obtain ⟨h5,_⟩:=List.pairwise_cons.1 h4
  refine List.pairwise_cons.2 ⟨fun g hg ho=>?_,List.pairwise_cons.2 ⟨fun g hg ho=>?_,List.pairwise_cons.2 ⟨fun g hg ho=>?_,List.pairwise_singleton _ _⟩⟩⟩
  ·simp only [List.mem_cons,List.not_mem_nil,or_false] at hg
   rcases hg with rfl | rfl | rfl
   ·exact h1 _ (by simp) ho
   ·exact h1 _ (by simp) ho
   ·exact fun k hk q=>h1 (browF e A l c) (by simp) (.inr rfl) k hk (z_ix k q)
  ·simp only [List.mem_cons,List.not_mem_nil,or_false] at hg
   rcases hg with rfl | rfl
   ·exact h3 _ (by simp) ho
   ·exact fun k hk q=>h3 (browF e A l c) (by simp) (.inr rfl) k hk (z_ix k q)
  ·obtain rfl:=List.mem_singleton.1 hg
   exact fun k hk q=>h5 (browF e A l c) (by simp) (.inr rfl) k hk (z_ix k q)
theorem z_vc (w:World) (A:Option Addr) (n c:Nat):Con Tryz.prog z_l3 #[.slice A n c] w [] (fun v Fs=> ∃bx,v= .func (.func z_fs) #[] #[.pointer (some ⟨bx,0,none⟩)]/\Fs=[bkF bx z_al [.slice A n c]]):=by
 refine z_ac (cx:=z_k0 w (Un [])) (z_mN w (Un [])) z_pH rfl rfl (β:=Va.z) [.c (.v (.slice A n c))] 0 [] [] rfl rfl (Sat.start rfl) ?_
 intro β w' hs
 exact hs.ofBk.fin [0] ⟨β 0,rfl,rfl⟩
theorem z_xG (w:World) (P A:Option Addr) (cP c:Nat) (l:List UInt8) (hP:Rd 1 P 1 [.slice A l.length c] w) (hr:Bs w A l) (hn:l.length<=140737488355328):
  Con Tryz.prog z_lI #[.slice P 1 cP,.slice none 0 0] w [] fun v Fs=> ∃A' c',v= .slice A' l.length c'/\l.length<=c'/\c'<=maxLen/\Fs=[browF z_ab A' l c']:=by
 have hs0:Sat (z_go w (Un [])) Va.z 0 [] [oldF w] w:=z_ay rfl
 refine z_ac (cx:=z_go w (Un [])) (z_mX w (Un [])) z_pD rfl rfl (β:=Va.z) [.c (.v (.slice P 1 cP)),.c (.v (.slice none 0 0))] 0 [] [browF z_ab none [] 0,oldF w] rfl rfl (hs0.nilRow _ _) ?_
 obtain ⟨ad,rfl,hc⟩:=hP.2 (by decide)
 refine ⟨ad,0,rfl,rfl,by decide,.slice A l.length c,fun β w' hs=>?_,?_⟩
 ·have h1:Rd 1 (some ad) 1 [.slice A l.length c] w':=hP.old (hs.get 1 rfl)
  obtain ⟨ad',h2,h3⟩:=h1.2 (by decide)
  obtain rfl:=Option.some.inj h2
  exact h3 0 _ rfl
 refine ⟨0,0,l.length,[],l.map byte,_,rfl,fun β w' hs=>hr.old (hs.get 1 rfl),z_ap l,Nat.zero_add _,rfl,by rw [maxLen_eq];omega,by show l.length*1<=_;omega,?_⟩
 intro A' c' h1 h2 h3 β w' hs
 exact hs.fin [0] ⟨A',c',rfl,h1,h2,rfl⟩
theorem z_wh (w:World) (b ty:Nat) (s:S8) (A:Option Addr) (x:List UInt8) (hx:x.length=64) (hm:Mem w [stF b ty s,bsF A x,oddF 2]):
  Con Tryz.prog z_dt #[.pointer (some ⟨b,0,none⟩),.slice A 64 64] w [stF b ty s] fun v Fs=>v= .tuple #[]/\Fs=[stF b ty (Sha.step s x)]:=by
 have:=z_yE w b ty s A x 64 hm (by omega) (by omega) (by decide)
 rw [hx] at this
 exact this
def firstF (g:Nat):Fact:=rdF 1 (some ⟨g,0,none⟩) 8 (Sha.first.l.map u32)
theorem z_yo (w:World) (P A:Option Addr) (cP c:Nat) (l:List UInt8) (hP:Rd 1 P 1 [.slice A l.length c] w) (hr:Bs w A l) (hn:l.length<=70368744177664) (h1:(oddF 2).p w) (h0:(firstF 0).p w):
  Con Tryz.prog z_pT #[.slice P 1 cP] w [] fun v Fs=> ∃A' c',v= .slice A' 32 c'/\32<=c'/\c'<=maxLen/\Fs=[browF z_ab A' (Sha.sum l) c']:=by
 have g:=z_pJ w (Un [])
 have hs0:Sat (z_iu w (Un [])) Va.z 0 [] [oldF w] w:=z_ay rfl
 have hs1:Sat (z_iu w (Un [])) Va.z 0 [] [oddF 2,oldF w] w:=hs0.sub 0 rfl rfl _ rfl h1 (rd_lt h1)
 refine z_ac (cx:=z_iu w (Un [])) g z_ty rfl rfl (β:=Va.z) [.c (.v (.slice P 1 cP))] 0 [] [oddF 2,oldF w] rfl rfl hs1 ?_
 refine ⟨Sha.first.l.map u32,rfl,fun β w' hs j u hu=>?_,?_⟩
 ·have h2:Rd 1 (some ⟨0,0,none⟩) 8 (Sha.first.l.map u32) w':=Rd.old h0 (hs.get 1 rfl)
  obtain ⟨ad,h3,h4⟩:=h2.2 (by decide)
  obtain rfl:=Option.some.inj h3
  exact h4 j u hu
 refine z_aa [] (fun β w' hs=>z_xG w' P A cP c l (hP.old (hs.get 1 rfl)) (hr.old (hs.get 1 rfl)) (by omega)) ?_
 rintro v Fs ⟨A1,c1,rfl,h2,h3,rfl⟩
 refine z_aa [] (fun β w' hs=>z_vc w' A1 l.length c1) ?_
 rintro v Fs ⟨bx,rfl,rfl⟩
 refine z_ec g 0 (fun _=>Sha.first.l.map u32) rfl rfl (fun _=>rfl) (fun sb=>?_)
 obtain ⟨q,hq⟩: ∃q,l++ends l.length=q:=⟨_,rfl⟩
 have hsum:Sha.sum l=out ((blks q (q.length/64)).foldl Sha.step Sha.first):=by rw [<-go_eq,<-hq];rfl
 rw [hsum]
 refine z_aG (α:=List UInt8) (ι:=S8) (κ:=S8) g rfl (cv:=[.pointer (some ⟨bx,0,none⟩)]) rfl (by kernel_rfl) 1 (Nat.le_refl 1)
  (fun pre s=>s=pre.foldl Sha.step Sha.first) (fun _=>[]) (fun s=>[stF sb 170 s]) (fun _=>⟨rfl,trivial⟩)
  (fun _ _ _=>False) (fun _=>[]) (fun _=>[]) (fun _=>trivial)
  [bkF bx z_al [.slice A1 l.length c1]] [browF z_ab A1 l c1] [oddF 2] ⟨rfl,trivial⟩ (fun g hg=>by obtain rfl:=List.mem_singleton.1 hg;rfl)
  Sha.first rfl (fun β w' hs=>⟨β,Agr.refl _ _,hs.perm [1,2,0,3]⟩) (fun _=>insB)
  (fun xs Fs'=>xs=blks q (q.length/64)/\Fs'=[]) (fun _ Fs'=>Fs'=[])
  (fun l' w' f0 R J Jx hJ0 hJo hRo hY hm=>(z_ta l' w' bx A1 l c1 f0 R J Jx hJ0 hJo hRo hY hn hm.lastRd).mono fun _ Fs h=>by rw [hq] at h;exact h) ?_ ?_ ?_
 ·rintro s pre x args X W S l' bs pn pn' hbs hpre ⟨hx,B,rfl,rfl⟩
  refine ⟨_,rfl,?_⟩
  refine z_aa [1] (fun β w' hs=>z_wh w' sb 170 s B x hx (hs.mem.take (js:=[1,0,2]) rfl)) ?_
  rintro v Fs ⟨rfl,rfl⟩
  refine ⟨Sha.step s x,by show Sha.step s x=(pre++[x]).foldl Sha.step Sha.first;rw [List.foldl_append,hpre];rfl,Ent.mk' trivial rfl (fun β w' hs=>?_)⟩
  exact hs.weaken (List.Sublist.refl _) (List.Sublist.cons_cons _ (List.nil_sublist _))
 ·rintro xs s Fs hpre ⟨rfl,rfl⟩
  refine z_aa [0] (fun β w' hs=>z_s4 w' sb 170 s (hs.mem.take (js:=[0]) rfl)) ?_
  rintro v Fs ⟨A3,c3,rfl,h5,h6,rfl⟩
  intro β w' hs
  refine hs.fin [1] ⟨A3,c3,rfl,h5,h6,?_⟩
  rw [<-hpre]
  rfl
 ·rintro e pre s Fs h _
  exact h.elim
def stV (s:S8):Value:= .agg (s.l.map u32).toArray
theorem be4 (x:UInt32):be 4 x.toNat=b4 x:=by
 have hx:=x.toNat_lt
 simp only [be,b4,List.nil_append,List.cons_append]
 have e: ∀n,n<256-> ∀y:UInt8,y.toNat=n->UInt8.ofNat n=y:=fun n _ y h=>by rw [<-h,UInt8.ofNat_toNat]
 have h1: ∀k:Nat,k<32->(x>>>UInt32.ofNat k).toNat=x.toNat/2^k:=fun k hk=>by
  rw [UInt32.toNat_shiftRight,UInt32.toNat_ofNat',Nat.mod_eq_of_lt (show k<2^32 by omega),Nat.mod_eq_of_lt hk,Nat.shiftRight_eq_div_pow]
 congr 1
 ·exact e _ (by omega) _ (by rw [UInt32.toNat_toUInt8,show (24:UInt32)=UInt32.ofNat 24 from rfl,h1 24 (by omega)]<;>omega)
 congr 1
 ·exact e _ (by omega) _ (by rw [UInt32.toNat_toUInt8,show (16:UInt32)=UInt32.ofNat 16 from rfl,h1 16 (by omega)]<;>omega)
 congr 1
 ·exact e _ (by omega) _ (by rw [UInt32.toNat_toUInt8,show (8:UInt32)=UInt32.ofNat 8 from rfl,h1 8 (by omega)]<;>omega)
 congr 1
 exact e _ (by omega) _ (by rw [UInt32.toNat_toUInt8])
theorem z_tY (n:Nat):UInt8.ofNat (n%256)=UInt8.ofNat n:=by
 apply UInt8.toNat_inj.1
 rw [UInt8.toNat_ofNat',UInt8.toNat_ofNat']
 omega
theorem be8 (n:Nat):be 8 n=Sha.long n:=by
 simp only [be,Sha.long,List.nil_append,List.cons_append,z_tY,List.map_cons,List.map_nil,Nat.div_div_eq_div_mul]
 simp
theorem z_xE (w:World):Pu Tryz.prog z_dw #[] w (stV Sha.first):=by
 refine pu_of (z_aH (cx:=z_db w None_) (z_gw w None_) z_iO rfl rfl (β:=Va.z) [] 0 [] [] rfl rfl (Sat.start rfl) ?_)
 intro β w' hs
 exact ⟨rfl,hs.chg⟩
theorem z_wD (w:World) (n k:Nat) (hn:n<18446744073709551616) (hk:k<=4096):
  Con Tryz.prog z_bM #[.int .u64 n,.int .i64 k] w [] fun v Fs=> ∃A c,v= .slice A (be k n).length c/\(be k n).length<=c/\c<=maxLen/\Fs=[browF z_ab A (be k n) c]:=z_tA (z_w7 w n k hn hk)
theorem z_yl (w:World) (n:Nat) (hn:n<=140737488355328):
  Con Tryz.prog z_ex #[.int .u64 n] w [] fun v Fs=> ∃A c,v= .slice A (Sha.ends n).length c/\(Sha.ends n).length<=c/\c<=maxLen/\Fs=[browF z_ab A (Sha.ends n) c]:=by
 have g:=z_hj w (Un [])
 have hz:zeros n<64:=by unfold zeros;omega
 refine z_ac (cx:=z_dL w (Un [])) g z_jE rfl rfl (β:=Va.z) [.c (.v (.int .u64 n))] 0 [] [] rfl rfl (Sat.start rfl) ?_
 intro b0
 refine ⟨by decide,((n%64:Nat):Int),by rw [Int.tmod_eq_emod_of_nonneg (by omega)];omega,((n%64+1:Nat):Int),by rw [z_aT];omega,?_⟩
 refine z_ai (ι:=Nat×Option Addr×Nat) 0 (fun i=>[(0,.c (.v (.int .u64 n))),(4,.c (.v (.int .u64 ((n%64+1+i.1:Nat):Int)))),(3,.c (.v (.slice i.2.1 (i.1+1) i.2.2)))]) (fun _=>[])
  (fun i=>[rowF z_ab 1 (.slice i.2.1 (i.1+1) i.2.2) (i.1+1) (((0x80:UInt8)::List.replicate i.1 0).map byte)])
  (fun i=>i.1<=zeros n/\i.1+1<=i.2.2/\i.2.2<=maxLen) (fun i=>zeros n - i.1) (0,some ⟨b0,0,none⟩,1) ⟨Nat.zero_le _,Nat.le_refl _,by show 1<=maxLen;decide⟩ (Ent.same ⟨rfl,rfl,rfl,trivial⟩ rfl) g ?_
 rintro ⟨i,A,c⟩ ⟨hi,hc,hcm⟩
 simp only at hi hc hcm
 obtain ⟨r,hr⟩: ∃r:Nat,(n%64+1+i)%64=r:=⟨_,rfl⟩
 refine ⟨by decide,(r:Int),by dsimp only;rw [Int.tmod_eq_emod_of_nonneg (by omega)];omega,?_⟩
 refine BIf.not (BIf.dec (fun h0=>?_) (fun h0=>?_))
 ·have hiz:i=zeros n:=by unfold zeros at *;omega
  refine ⟨((8*n:Nat):Int),by rw [z_aT];omega,?_⟩
  refine z_aa [] (fun β w' hs=>z_wD w' (8*n) 8 (by omega) (by omega)) ?_
  rintro v Fs ⟨A2,c2,rfl,h1,h2,rfl⟩
  have hl:(Sha.ends n).length=i+1+8:=by rw [Sha.ends_len,hiz];omega
  refine ⟨1,i+1,(Sha.ends n).length,_,(be 8 (8*n)).map byte,(Sha.ends n).map byte,rfl,fun β w hs=>z_an (hs.get 0 rfl),z_ap _,by rw [z_ht];exact hl.symm,by rw [<-List.map_append,be8,hiz];rfl,by rw [maxLen_eq,hl];omega,by show (Sha.ends n).length*1<=_;omega,?_⟩
  intro A' c' h3 h4 _
  intro β w' hs
  exact hs.fin [1] ⟨A',c',rfl,h3,h4,rfl⟩
 ·have hiz:i<zeros n:=by
   rcases Nat.lt_or_ge i (zeros n) with h | h
   ·exact h
   ·exfalso
    apply h0
    have:i=zeros n:=by omega
    subst this
    unfold zeros at hr
    omega
  intro b2
  refine ⟨1,i+1,i+1+1,((0x80:UInt8)::List.replicate i 0).map byte,[(0:UInt8)].map byte,_,rfl,fun β w hs=>z_an (hs.get 0 rfl),z_ap _,rfl,rfl,by rw [maxLen_eq];omega,by show (i+1+1)*1<=_;omega,?_⟩
  intro A' c' h1 h2 _
  refine ⟨((n%64+1+(i+1):Nat):Int),by dsimp only;rw [z_aT];omega,?_⟩
  refine ⟨(i+1,A',c'),⟨hiz,h1,h2⟩,by show zeros n - (i+1)<zeros n - i;omega,Ent.mk' ⟨rfl,rfl,rfl,trivial⟩ rfl (fun β w' hs=>?_)⟩
  have h3:=hs.weaken (List.Sublist.refl _) (List.sublist_cons_self _ _)
  show Sat _ _ _ _ [rowF z_ab 1 (.slice A' (i+1+1) c') (i+1+1) (((0x80:UInt8)::List.replicate (i+1) 0).map byte)] _
  rw [List.replicate_succ',<-List.cons_append,List.map_append]
  exact h3
theorem out_c (w:World) (s:S8):
  Con Tryz.prog z_fb #[stV s] w [] fun v Fs=> ∃A c,v= .slice A 32 c/\32<=c/\c<=maxLen/\Fs=[browF z_ab A (out s) c]:=by
 have g:=z_h5 w (Un [])
 refine z_ac (cx:=z_et w (Un [])) g z_kU rfl rfl (β:=Va.z) [.agg (s.l.map sl32)] 0 [] [browF z_ab none [] 0] rfl rfl ((Sat.start rfl).nilRow _ _) ?_
 refine z_ai (ι:=Nat×Option Addr×Nat) 1 (fun i=>[(6,.agg (s.l.map sl32)),(7,.c (.v (.int .i64 i.1))),(3,.c (.v (.slice i.2.1 (4*i.1) i.2.2)))]) (fun _=>[⟨0,118,s.l.map sl32⟩])
  (fun i=>[rowF z_ab 1 (.slice i.2.1 (4*i.1) i.2.2) (4*i.1) ((outN s i.1).map byte)])
  (fun i=>i.1<=8/\4*i.1<=i.2.2/\i.2.2<=maxLen) (fun i=>8 - i.1) (0,none,0) ⟨Nat.zero_le _,Nat.zero_le _,Nat.zero_le _⟩ (Ent.same ⟨rfl,rfl,rfl,trivial⟩ rfl) g ?_
 rintro ⟨i,A,c⟩ ⟨hi,hc,hcm⟩
 simp only at hi hc hcm
 refine BIf.dec (fun hlt=>?_) (fun hge=>?_)
 ·have hlt:i<8:=by omega
  obtain ⟨x,hx⟩: ∃x,s.l.getD i 0=x:=⟨_,rfl⟩
  have hxl:=x.toNat_lt
  refine ⟨i,sl32 x,rfl,hlt,by show (s.l.map sl32)[i*1]?=_;rw [Nat.mul_one,<-hx];exact l_get s i hlt,?_⟩
  refine ⟨(x.toNat:Int),by rw [z_aT];omega,?_⟩
  refine z_aa [] (fun β w' hs=>z_wD w' x.toNat 4 (by omega) (by omega)) ?_
  rintro v Fs ⟨A2,c2,rfl,h1,h2,rfl⟩
  refine ⟨1,4*i,4*(i+1),(outN s i).map byte,(b4 x).map byte,_,rfl,fun β w hs=>by rw [<-be4];exact z_an (hs.get 0 rfl),z_ap _,by rw [z_ht];omega,rfl,by rw [maxLen_eq];omega,by show 4*(i+1)*1<=_;omega,?_⟩
  intro A' c' h3 h4 _
  refine ⟨((i+1:Nat):Int),by rw [wrap_i64 (by omega) (by omega)];rfl,?_⟩
  refine ⟨(i+1,A',c'),⟨by show i+1<=8;omega,h3,h4⟩,by show 8 - (i+1)<8 - i;omega,Ent.mk' ⟨rfl,rfl,rfl,trivial⟩ rfl (fun β w' hs=>?_)⟩
  have e1:=z_p3 s i hlt
  rw [hx] at e1
  have h5:=hs.weaken (List.Sublist.refl _) (List.sublist_cons_self _ _)
  show Sat _ _ _ _ [rowF z_ab 1 (.slice A' (4*(i+1)) c') (4*(i+1)) ((outN s (i+1)).map byte)] _
  rw [<-e1,List.map_append]
  exact h5
 ·obtain rfl:i=8:=by omega
  intro β w' hs
  exact (hs.keepB (List.nil_sublist _)).fin [0] ⟨A,c,rfl,hc,hcm,rfl⟩
theorem take4 (l:List UInt8) (k:Nat) (h:k+4<=l.length):(l.drop k).take 4=[l.getD k 0,l.getD (k+1) 0,l.getD (k+2) 0,l.getD (k+3) 0]:=by
 refine List.ext_getElem? fun j=>?_
 rw [List.getElem?_take]
 have g: ∀j,j<4->(l.drop k)[j]?=some (l.getD (k+j) 0):=fun j hj=>z_h9 l k j (by omega)
 match j with
 | 0=>simpa using g 0 (by omega)
 | 1=>simpa using g 1 (by omega)
 | 2=>simpa using g 2 (by omega)
 | 3=>simpa using g 3 (by omega)
 | n+4=>simp;omega
theorem numB4 (a b c d:UInt8):IntKind.u32.wrap (numB [a,b,c,d]:Int)=((word a b c d).toNat:Int):=by
 have h1:=a.toNat_lt
 have h2:=b.toNat_lt
 have h3:=c.toNat_lt
 have h4:=d.toNat_lt
 have:numB [a,b,c,d]=a.toNat *16777216+b.toNat *65536+c.toNat *256+d.toNat:=by
  simp only [numB,List.foldl_cons,List.foldl_nil]
  omega
 rw [this,z_or]
 rfl
theorem z_yM (a b c d:UInt32):((d+c)+b)+a=a+b+c+d:=by ac_rfl
theorem z_uD {g:Nat} {w:World} (h:(oddF g).p w) {i:Nat} (hi:i<64):w.cell? ((⟨g,0,none⟩:Addr).add (i*1))=some (u32 (K.getD i 0)):=z_rl h hi
theorem z_w2 (w:World) (s:S8) (A:Option Addr) (l:List UInt8) (c:Nat) (hr:Bs w A l) (hk:(oddF 1).p w) (hc:l.length<=c) (hl:64<=l.length) (hm:c<=maxLen):
  Pu Tryz.prog z_b1 #[stV s,.slice A l.length c] w (stV (Sha.step s l)):=by
 have g:=z_hm w (Un [])
 obtain ⟨ws,hws⟩: ∃ws,W l=ws:=⟨_,rfl⟩
 have hwl:ws.length=64:=by rw [<-hws];exact W_len l
 have hst0:Sha.step s l=s.add (rounds s ws 64):=by rw [Sha.step,hws]
 rw [hst0]
 have hs0:Sat (z_aM w (Un [])) Va.z 0 [] [oldF w] w:=z_ay rfl
 have hs1:Sat (z_aM w (Un [])) Va.z 0 [] [bsF A l,oddF 1,oldF w] w:=(hs0.sub 0 rfl rfl (oddF 1) rfl hk (rd_lt hk)).sub 1 rfl rfl (bsF A l) rfl hr (rd_lt hr)
 rw [maxLen_eq] at hm
 refine z_ac (cx:=z_aM w (Un [])) g z_jR rfl rfl (β:=Va.z) [.agg (s.l.map sl32),.c (.v (.slice A l.length c))] 0 [] [bsF A l,oddF 1,oldF w] rfl rfl hs1 ?_
 have e0:arr 64 []=ti212.zero.map SL.v:=by simp only [arr,List.nil_append,List.length_nil,List.map_replicate];rfl
 refine z_ai (ι:=Nat) 3 (fun i=>[(1,.c (.v (.slice A l.length c))),(2,.c (.p 0 0)),(4,.c (.p 1 0)),(5,.c (.p 2 0)),(6,.c (.v (.int .i64 i)))]) (fun i=>[⟨2,212,arr 64 (sched l i)⟩,⟨1,118,ti118.zero.map SL.v⟩,⟨0,118,s.l.map sl32⟩]) (fun _=>[bsF A l,oddF 1,oldF w])
  (fun i=>i<=64) (fun i=>64 - i) 0 (Nat.zero_le _) (Ent.mk' ⟨rfl,rfl,rfl,rfl,rfl,trivial⟩ rfl (fun β w' hs=>by rw [show sched l 0=[] from rfl,e0];exact hs)) g ?_
 intro i hi
 refine BIf.dec (fun hlt=>?_) (fun hge=>?_)
 ·have hlt:i<64:=by omega
  have hsl:(sched l i).length=i:=z_eG l i
  have ld: ∀ {k:Nat},k<i->nth (arr 64 (sched l i)) (0+k*1)=some (sl32 ((sched l i).getD k 0)):=fun {k} hk=>by
   rw [z_aB,Nat.zero_add,Nat.mul_one];exact z_ui (by omega)
  have fin: ∀(x:UInt32),(if i<16 then wordAt l i else nxt (sched l i) i)=x->putAll (arr 64 (sched l i)) (0+i*1) [sl32 x]=arr 64 (sched l (i+1)):=fun x hx=>by
   rw [putAll,putAll,z_aF,Nat.zero_add,Nat.mul_one]
   have:=z_qG (n:=64) (ws:=sched l i) (by omega) x
   rw [hsl] at this
   rw [this,sched,hx]
  have ble:Nat.ble (0+i*1+1) (arr 64 (sched l i)).length=true:=by rw [z_qD (by omega),Nat.ble_eq];omega
  refine BIf.dec (fun h16=>?_) (fun h16=>?_)
  ·have h16:i<16:=by omega
   refine ⟨((4*i:Nat):Int),by rw [wrap_i64 (by omega) (by omega)];omega,((4*i:Nat):Int),by rw [wrap_i64 (by omega) (by omega)];omega,((4*i+4:Nat):Int),by rw [wrap_i64 (by omega) (by omega)];omega,?_⟩
   refine ⟨c,4*i+4,4*i,4,c - 4*i,_,rfl,rfl,rfl,Nat.le_refl _,by omega,by omega,by omega,rfl,rfl,?_⟩
   refine z_ae (fun β w' hs=>pu_of (num_c w' (cutA A c (4*i) 1) [l.getD (4*i) 0,l.getD (4*i+1) 0,l.getD (4*i+2) 0,l.getD (4*i+3) 0] (c - 4*i) ?_ (by show 4<=lim;decide))) ?_
   ·have h7:=Bs.cut (hs.get 0 rfl:Bs w' A l) (c:=c) (m:=c) (i:=4*i) (j:=4*i+4) hc (.inl rfl) (by omega) (by omega) (Nat.le_refl _)
    rw [show 4*i+4 - 4*i=4 by omega,take4 l (4*i) (by omega)] at h7
    exact h7
   refine ⟨_,numB4 _ _ _ _,i,rfl,by omega,?_⟩
   conv=>whnf
   generalize h1:Nat.ble _ _=b1
   obtain rfl:b1=true:=h1.symm.trans ble
   clear h1
   refine ⟨((i+1:Nat):Int),by rw [wrap_i64 (by omega) (by omega)];rfl,?_⟩
   refine ⟨i+1,by omega,by omega,Ent.mk' ⟨rfl,rfl,rfl,rfl,rfl,trivial⟩ rfl (fun β w' hs=>?_)⟩
   rw [<-fin _ (if_pos h16)]
   exact hs
  ·have h16: ¬i<16:=by omega
   obtain ⟨xa,hxa⟩: ∃xa,(sched l i).getD (i - 15) 0=xa:=⟨_,rfl⟩
   obtain ⟨xb,hxb⟩: ∃xb,(sched l i).getD (i - 2) 0=xb:=⟨_,rfl⟩
   refine z_aj g z_h0 (by kernel_rfl) _ _ Sub.refl ?_
   refine ⟨((i - 15:Nat):Int),by rw [wrap_i64 (by omega) (by omega)];omega,i - 15,rfl,by omega,?_⟩
   conv=>whnf
   generalize hn:nth _ _=o
   obtain rfl:o=some (sl32 xa):=hn.symm.trans (by rw [<-hxa];exact ld (by omega))
   clear hn
   refine ⟨((i - 15:Nat):Int),by rw [wrap_i64 (by omega) (by omega)];omega,i - 15,rfl,by omega,?_⟩
   conv=>whnf
   generalize hn:nth _ _=o
   obtain rfl:o=some (sl32 xa):=hn.symm.trans (by rw [<-hxa];exact ld (by omega))
   clear hn
   refine ⟨((i - 15:Nat):Int),by rw [wrap_i64 (by omega) (by omega)];omega,i - 15,rfl,by omega,?_⟩
   conv=>whnf
   generalize hn:nth _ _=o
   obtain rfl:o=some (sl32 xa):=hn.symm.trans (by rw [<-hxa];exact ld (by omega))
   clear hn
   refine ⟨by omega,_,shr32 xa 3 (by omega),?_⟩
   refine z_ae (fun β w' hs=>z_jc w' xa 7 (by omega) (by omega)) ?_
   refine ⟨Sub.refl,?_⟩
   refine z_ae (fun β w' hs=>z_jc w' xa 18 (by omega) (by omega)) ?_
   refine ⟨Sub.refl,_,xor32 _ _,_,xor32 _ _,?_⟩
   refine z_aj g z_hw (by kernel_rfl) _ _ Sub.refl ?_
   refine ⟨((i - 2:Nat):Int),by rw [wrap_i64 (by omega) (by omega)];omega,i - 2,rfl,by omega,?_⟩
   conv=>whnf
   generalize hn:nth _ _=o
   obtain rfl:o=some (sl32 xb):=hn.symm.trans (by rw [<-hxb];exact ld (by omega))
   clear hn
   refine ⟨((i - 2:Nat):Int),by rw [wrap_i64 (by omega) (by omega)];omega,i - 2,rfl,by omega,?_⟩
   conv=>whnf
   generalize hn:nth _ _=o
   obtain rfl:o=some (sl32 xb):=hn.symm.trans (by rw [<-hxb];exact ld (by omega))
   clear hn
   refine ⟨((i - 2:Nat):Int),by rw [wrap_i64 (by omega) (by omega)];omega,i - 2,rfl,by omega,?_⟩
   conv=>whnf
   generalize hn:nth _ _=o
   obtain rfl:o=some (sl32 xb):=hn.symm.trans (by rw [<-hxb];exact ld (by omega))
   clear hn
   refine ⟨by omega,_,shr32 xb 10 (by omega),?_⟩
   refine z_ae (fun β w' hs=>z_jc w' xb 17 (by omega) (by omega)) ?_
   refine ⟨Sub.refl,?_⟩
   refine z_ae (fun β w' hs=>z_jc w' xb 19 (by omega) (by omega)) ?_
   refine ⟨Sub.refl,_,xor32 _ _,_,xor32 _ _,?_⟩
   refine z_aj g z_hA (by kernel_rfl) _ _ Sub.refl ?_
   refine ⟨((i - 7:Nat):Int),by rw [wrap_i64 (by omega) (by omega)];omega,i - 7,rfl,by omega,?_⟩
   conv=>whnf
   generalize hn:nth _ _=o
   obtain rfl:o=some (sl32 ((sched l i).getD (i - 7) 0)):=hn.symm.trans (ld (by omega))
   clear hn
   refine ⟨_,add32 _ _,_,add32 _ _,?_⟩
   refine ⟨((i - 16:Nat):Int),by rw [wrap_i64 (by omega) (by omega)];omega,i - 16,rfl,by omega,?_⟩
   conv=>whnf
   generalize hn:nth _ _=o
   obtain rfl:o=some (sl32 ((sched l i).getD (i - 16) 0)):=hn.symm.trans (ld (by omega))
   clear hn
   refine ⟨_,add32 _ _,i,rfl,by omega,?_⟩
   conv=>whnf
   generalize h1:Nat.ble _ _=b1
   obtain rfl:b1=true:=h1.symm.trans ble
   clear h1
   refine ⟨((i+1:Nat):Int),by rw [wrap_i64 (by omega) (by omega)];rfl,?_⟩
   refine ⟨i+1,by omega,by omega,Ent.mk' ⟨rfl,rfl,rfl,rfl,rfl,trivial⟩ rfl (fun β w' hs=>?_)⟩
   rw [<-fin (((s1 xb+(sched l i).getD (i - 7) 0)+s0 xa)+(sched l i).getD (i - 16) 0) (by rw [if_neg h16,nxt,hxa,hxb,z_yM])]
   exact hs
 ·have e2:arr 64 (sched l i)=ws.map sl32:=by
   have hi64:i=64:=by omega
   rw [<-hws,hi64]
   exact z_rn (z_eG l 64)
  clear hge hi
  rw [e2]
  clear e2
  have ldw: ∀ {k:Nat},k<64->nth (ws.map sl32) (0+k*1)=some (sl32 (ws.getD k 0)):=fun {k} hk=>by
   rw [z_aB,Nat.zero_add,Nat.mul_one,List.getElem?_map,List.getElem?_eq_getElem (by omega)]
   simp [List.getD,List.getElem?_eq_getElem (show k<ws.length by omega)]
  refine z_ai (ι:=Nat) 4 (fun i=>[(2,.c (.p 0 0)),(4,.c (.p 1 0)),(5,.c (.p 2 0)),(9,.c (.p 3 0)),(10,.c (.v (.int .i64 i)))]) (fun i=>[⟨3,118,(rounds s ws i).l.map sl32⟩,⟨2,212,ws.map sl32⟩,⟨1,118,ti118.zero.map SL.v⟩,⟨0,118,s.l.map sl32⟩]) (fun _=>[bsF A l,oddF 1,oldF w])
   (fun i=>i<=64) (fun i=>64 - i) 0 (Nat.zero_le _) (Ent.same ⟨rfl,rfl,rfl,rfl,rfl,trivial⟩ rfl) g ?_
  intro j hj
  obtain ⟨r,hr⟩: ∃r,rounds s ws j=r:=⟨_,rfl⟩
  rw [hr]
  obtain ⟨xa,xb,xc,xd,xe,xf,xg,xh⟩:=r
  refine BIf.dec (fun hlt=>?_) (fun hge=>?_)
  ·have hlt:j<64:=by omega
   refine ⟨4,rfl,by decide,?_⟩
   refine z_aj g z_g2 (by kernel_rfl) _ _ Sub.refl ?_
   refine ⟨7,rfl,by decide,5,rfl,by decide,_,and32 _ _,_,not32 _,6,rfl,by decide,_,and32 _ _,_,xor32 _ _,?_⟩
   refine ⟨j,rfl,hlt,u32 (K.getD j 0),fun β w' hs=>z_uD (hs.get 1 rfl) hlt,j,rfl,hlt,?_⟩
   conv=>whnf
   generalize hn:nth _ _=o
   obtain rfl:o=some (sl32 (ws.getD j 0)):=hn.symm.trans (ldw hlt)
   clear hn
   refine z_ae (fun β w' hs=>z_jc w' xe 6 (by omega) (by omega)) ?_
   refine ⟨Sub.refl,?_⟩
   refine z_ae (fun β w' hs=>z_jc w' xe 11 (by omega) (by omega)) ?_
   refine ⟨Sub.refl,_,xor32 _ _,?_⟩
   refine z_ae (fun β w' hs=>z_jc w' xe 25 (by omega) (by omega)) ?_
   refine ⟨Sub.refl,_,xor32 _ _,_,add32 _ _,_,add32 _ _,_,add32 _ _,_,add32 _ _,?_⟩
   refine ⟨0,rfl,by decide,?_⟩
   refine z_aj g z_gZ (by kernel_rfl) _ _ Sub.refl ?_
   refine ⟨1,rfl,by decide,_,and32 _ _,2,rfl,by decide,_,and32 _ _,_,xor32 _ _,1,rfl,by decide,2,rfl,by decide,_,and32 _ _,_,xor32 _ _,?_⟩
   refine z_ae (fun β w' hs=>z_jc w' xa 2 (by omega) (by omega)) ?_
   refine ⟨Sub.refl,?_⟩
   refine z_ae (fun β w' hs=>z_jc w' xa 13 (by omega) (by omega)) ?_
   refine ⟨Sub.refl,_,xor32 _ _,?_⟩
   refine z_ae (fun β w' hs=>z_jc w' xa 22 (by omega) (by omega)) ?_
   refine ⟨Sub.refl,_,xor32 _ _,_,add32 _ _,?_⟩
   refine ⟨_,add32 _ _,0,rfl,by decide,1,rfl,by decide,2,rfl,by decide,3,rfl,by decide,_,add32 _ _,4,rfl,by decide,5,rfl,by decide,6,rfl,by decide,?_⟩
   refine ⟨((j+1:Nat):Int),by rw [wrap_i64 (by omega) (by omega)];rfl,?_⟩
   refine ⟨j+1,by omega,by omega,Ent.mk' ⟨rfl,rfl,rfl,rfl,rfl,trivial⟩ rfl (fun β w' hs=>?_)⟩
   have e1:(rounds s ws (j+1)).l.map sl32=(⟨(⟨xa,xb,xc,xd,xe,xf,xg,xh⟩:S8).x (K.getD j 0) (ws.getD j 0)+((⟨xa,xb,xc,xd,xe,xf,xg,xh⟩:S8).y+(⟨xa,xb,xc,xd,xe,xf,xg,xh⟩:S8).z),xa,xb,xc,xd+(⟨xa,xb,xc,xd,xe,xf,xg,xh⟩:S8).x (K.getD j 0) (ws.getD j 0),xe,xf,xg⟩:S8).l.map sl32:=by
    rw [z_m1,hr,S8.round,UInt32.add_assoc]
   rw [e1]
   exact hs
  ·obtain ⟨t,ht⟩: ∃t,(⟨xa,xb,xc,xd,xe,xf,xg,xh⟩:S8)=t:=⟨_,rfl⟩
   have hst:rounds s ws 64=t:=by
    have:j=64:=by omega
    rw [<-ht,<-hr,this]
   rw [hst,ht]
   clear hst ht hr hge hj
   refine z_ai (ι:=Nat) 4 (fun i=>[(2,.c (.p 0 0)),(4,.c (.p 1 0)),(9,.c (.p 3 0)),(165,.c (.v (.int .i64 i)))]) (fun i=>[⟨3,118,t.l.map sl32⟩,⟨2,212,ws.map sl32⟩,⟨1,118,ti118.zero.map SL.v⟩,⟨0,118,mix s t i⟩]) (fun _=>[bsF A l,oddF 1,oldF w])
    (fun i=>i<=8) (fun i=>8 - i) 0 (Nat.zero_le _) (Ent.same ⟨rfl,rfl,rfl,rfl,trivial⟩ rfl) g ?_
   intro j hj
   refine BIf.dec (fun hlt=>?_) (fun hge=>?_)
   ·have hlt:j<8:=by omega
    refine z_aj g z_ha (by kernel_rfl) _ _ Sub.refl ?_
    refine ⟨j,rfl,hlt,?_⟩
    conv=>whnf
    generalize hn:nth _ _=o
    obtain rfl:o=some (sl32 (s.l.getD j 0)):=hn.symm.trans (by
     show nth (mix s t j) (0+j*1)=_
     rw [Nat.zero_add,Nat.mul_one]
     exact z_t2 s t j hlt)
    clear hn
    refine ⟨j,rfl,hlt,?_⟩
    conv=>whnf
    generalize hn:nth _ _=o
    obtain rfl:o=some (sl32 (t.l.getD j 0)):=hn.symm.trans (by
     show nth (t.l.map sl32) (0+j*1)=_
     rw [Nat.zero_add,Nat.mul_one,z_aB]
     exact l_get t j hlt)
    clear hn
    refine ⟨_,add32 _ _,j,rfl,hlt,?_⟩
    conv=>whnf
    generalize h1:Nat.ble _ _=b1
    obtain rfl:b1=true:=h1.symm.trans (by
     show Nat.ble (0+j*1+1) (mix s t j).length=true
     rw [z_tH s t j (by omega),Nat.ble_eq];omega)
    clear h1
    refine ⟨((j+1:Nat):Int),by rw [wrap_i64 (by omega) (by omega)];rfl,?_⟩
    refine ⟨j+1,by omega,by omega,Ent.mk' ⟨rfl,rfl,rfl,rfl,trivial⟩ rfl (fun β w' hs=>?_)⟩
    have e3:0+j*1=j:=by omega
    rw [<-z_ur s t j hlt]
    have hs2:Sat (z_aM w (Un [])) β 4 [⟨3,118,t.l.map sl32⟩,⟨2,212,ws.map sl32⟩,⟨1,118,ti118.zero.map SL.v⟩,⟨0,118,putAll (mix s t j) (0+j*1) [sl32 (s.l.getD j 0+t.l.getD j 0)]⟩] [bsF A l,oddF 1,oldF w] w':=hs
    rw [e3] at hs2
    exact hs2
   ·obtain rfl:j=8:=by omega
    intro β w' hs
    exact hs.fin [] ⟨rfl,rfl⟩
theorem z_s6 (w:World) (s:S8) (A:Option Addr) (x:List UInt8) (c:Nat) (hx:x.length=64) (hr:Bs w A x) (hk:(oddF 1).p w) (hc:64<=c) (hm:c<=maxLen):
  Pu Tryz.prog z_b1 #[stV s,.slice A 64 c] w (stV (Sha.step s x)):=by
 have:=z_w2 w s A x c hr hk (by omega) (by omega) hm
 rw [hx] at this
 exact this
theorem rgo_c (w:World) (s:S8) (A:Option Addr) (l:List UInt8) (c:Nat) (hr:Bs w A l) (hk:(oddF 1).p w) (hc:l.length<=c) (hm:c<=maxLen):
  Con Tryz.prog z_fz #[stV s,.slice A l.length c] w [] fun v Fs=> ∃A' n' c',v= .tuple #[stV (go (l.length/64) s l),.slice A' n' c']/\Fs=[]:=by
 have g:=z_iQ w (Un [])
 rw [go_eq]
 have hs0:Sat (z_aY w (Un [])) Va.z 0 [] [oldF w] w:=z_ay rfl
 have hs1:Sat (z_aY w (Un [])) Va.z 0 [] [bsF A l,oddF 1,oldF w] w:=(hs0.sub 0 rfl rfl (oddF 1) rfl hk (rd_lt hk)).sub 1 rfl rfl (bsF A l) rfl hr (rd_lt hr)
 have hm':=hm
 rw [maxLen_eq] at hm'
 refine z_ac (cx:=z_aY w (Un [])) g z_k4 rfl rfl (β:=Va.z) [.agg (s.l.map sl32),.c (.v (.slice A l.length c))] 0 [] [bsF A l,oddF 1,oldF w] rfl rfl hs1 ?_
 refine z_ai (ι:=Nat×Option Addr×Nat) 2 (fun i=>[(1,.c (.v (.slice i.2.1 (l.length - 64*i.1) i.2.2))),(2,.c (.p 0 0)),(4,.c (.p 1 0))]) (fun i=>[⟨1,118,ti118.zero.map SL.v⟩,⟨0,118,((blks l i.1).foldl Sha.step s).l.map sl32⟩]) (fun _=>[bsF A l,oddF 1,oldF w])
  (fun i=>64*i.1<=l.length/\l.length - 64*i.1<=i.2.2/\i.2.2<=9223372036854775807/\(∀w,Bs w A l->Bs w i.2.1 (l.drop (64*i.1)))) (fun i=>l.length - 64*i.1) (0,A,c)
  ⟨Nat.zero_le _,hc,hm',fun w h=>h⟩ (Ent.same ⟨rfl,rfl,rfl,trivial⟩ rfl) g ?_
 rintro ⟨i,B,cap⟩ ⟨hi,hcap,hcm,hB⟩
 simp only at hi hcap hcm hB
 obtain ⟨m,hm2⟩: ∃m,l.length - 64*i=m:=⟨_,rfl⟩
 have hmc:m<=cap:=by omega
 rw [hm2]
 have hdl:(l.drop (64*i)).length=m:=by rw [List.length_drop];omega
 obtain ⟨st,hst⟩: ∃st,(blks l i).foldl Sha.step s=st:=⟨_,rfl⟩
 rw [hst]
 refine BIf.dec (fun h0=>?_) (fun h0=>?_)
 ·have hm64:64<=m:=by omega
  have hbl:(blk l i).length=64:=by unfold blk;rw [List.length_take,hdl];omega
  have hS: ∀ {H:List Bk} {n:Nat},Sub (z_aY w (Un [])) n H [bsF A l,oddF 1,oldF w] [] [bsF A l,oddF 1,oldF w]:=fun {H n}=>Sub.of (List.nil_sublist _) (List.Sublist.refl _)
  refine z_aj g z_jK (by kernel_rfl) [] [bsF A l,oddF 1,oldF w] hS ?_
  refine ⟨cap,64,0,64,cap,_,rfl,rfl,rfl,Nat.le_refl _,by show 64<=cap;omega,by omega,rfl,rfl,rfl,?_⟩
  refine ⟨cap,m,64,m - 64,cap - 64,_,rfl,rfl,rfl,Nat.le_refl _,hmc,hm64,rfl,rfl,rfl,?_⟩
  refine ⟨hS,?_⟩
  refine z_ae (fun β w' hs=>z_s6 w' st (cutA B cap 0 1) (blk l i) cap hbl ?_ (hs.get 1 rfl) (by omega) (by rw [maxLen_eq];exact hcm)) ?_
  ·have h7:=Bs.cut (hB w' (hs.get 0 rfl)) (c:=cap) (m:=cap) (i:=0) (j:=64) (by omega) (.inl rfl) (by omega) (by omega) (by omega)
   have h8:Rd 1 (cutA B cap 0 1) (blk l i).length ((blk l i).map byte) w':=by rw [hbl];exact h7
   exact h8
  refine ⟨hS,?_⟩
  refine ⟨hS,?_⟩
  refine ⟨(i+1,cutA B cap 64 1,cap - 64),⟨by show 64*(i+1)<=_;omega,by show l.length - 64*(i+1)<=cap - 64;omega,by show cap - 64<=_;omega,fun w' h=>?_⟩,by show l.length - 64*(i+1)<m;omega,Ent.mk' ⟨?_,rfl,rfl,trivial⟩ rfl (fun β w' hs=>?_)⟩
  ·have h7:=Bs.cutB (hB w' h) (c:=cap) (i:=64) (j:=m) (m:=l.drop (64*(i+1))) (by omega) hm64 (by omega) (by
    rw [List.drop_drop,show 64*i+64=64*(i+1) by omega,List.take_of_length_le]
    rw [List.length_drop];omega)
   exact h7
  ·show _=some (SV.c (.v (.slice _ (l.length - 64*(i+1)) _)))
   rw [show l.length - 64*(i+1)=m - 64 by omega]
   rfl
  ·rw [z_pp,List.foldl_append,hst]
   exact hs
 ·have hi2:i=l.length/64:=by omega
  intro β w' hs
  rw [<-hi2,hst]
  exact hs.fin [] ⟨B,m,cap,rfl,rfl⟩
theorem z_yy (w:World) (A:Option Addr) (l:List UInt8) (c:Nat) (hr:Bs w A l) (hk:(oddF 1).p w) (hn:l.length<=70368744177664):
  Con Tryz.prog z_eU #[.slice A l.length c] w [] fun v Fs=> ∃A' c',v= .slice A' 32 c'/\32<=c'/\c'<=maxLen/\Fs=[browF z_ab A' (Sha.sum l) c']:=by
 have g:=z_ia w (Un [])
 have hs0:Sat (z_bb w (Un [])) Va.z 0 [] [oldF w] w:=z_ay rfl
 have hs1:Sat (z_bb w (Un [])) Va.z 0 [] [bsF A l,oddF 1,oldF w] w:=(hs0.sub 0 rfl rfl (oddF 1) rfl hk (rd_lt hk)).sub 1 rfl rfl (bsF A l) rfl hr (rd_lt hr)
 refine z_ac (cx:=z_bb w (Un [])) g z_km rfl rfl (β:=Va.z) [.c (.v (.slice A l.length c))] 0 [] [bsF A l,oddF 1,oldF w] rfl rfl hs1 ?_
 obtain ⟨q,hq⟩: ∃q,l++ends l.length=q:=⟨_,rfl⟩
 have hql:q.length=l.length+(ends l.length).length:=by rw [<-hq,List.length_append]
 have hel:(ends l.length).length<73:=by rw [Sha.ends_len];unfold zeros;omega
 have hsum:Sha.sum l=out (go (q.length/64) Sha.first q):=by rw [<-hq];rfl
 rw [hsum]
 refine z_ae (fun β w' hs=>z_xE w') ?_
 intro b
 refine ⟨0,0,l.length,[],l.map byte,_,rfl,fun β w' hs=>hs.get 1 rfl,z_ap l,Nat.zero_add _,rfl,by rw [maxLen_eq];omega,by show l.length*1<=_;omega,?_⟩
 intro A1 c1 h1 h2 _
 refine ⟨(l.length:Int),by rw [z_aT];omega,?_⟩
 refine z_aa [] (fun β w' hs=>z_yl w' l.length (by omega)) ?_
 rintro v Fs ⟨A2,c2,rfl,h3,h4,rfl⟩
 refine ⟨1,l.length,q.length,_,(ends l.length).map byte,q.map byte,rfl,fun β w hs=>z_an (hs.get 0 rfl),z_ap _,hql.symm,by rw [<-hq,List.map_append];rfl,by rw [maxLen_eq];omega,by show q.length*1<=_;omega,?_⟩
 intro A3 c3 h5 h6 _
 refine z_aa [] (fun β w' hs=>rgo_c w' Sha.first A3 q c3 (z_an (hs.get 1 rfl)) (hs.get 3 rfl) h5 h6) ?_
 rintro v Fs ⟨A4,n4,c4,rfl,rfl⟩
 generalize go (q.length/64) Sha.first q=st
 refine z_aa [] (fun β w' hs=>out_c w' st) ?_
 rintro v Fs ⟨A5,c5,rfl,h7,h8,rfl⟩
 intro β w' hs
 exact (hs.keepB (List.nil_sublist _)).fin [0] ⟨A5,c5,rfl,h7,h8,rfl⟩
theorem z_at (s t:ByteArray):(s++t).size=s.size+t.size:=ByteArray.size_append
theorem z_mT (w:World) (s:ByteArray) (k:Nat) (hs:s.size<=maxLen) (hk:k<=1000):Pu Tryz.prog z_bi #[.string s,.int .i64 k] w (.string (s.extract 0 (min s.size k))):=by
 refine pu_of (z_aH (cx:=z_a9 w None_) (z_bR w None_) z_cx rfl rfl (β:=Va.z) [.c (.v (.string s)),.c (.v (.int .i64 k))] 0 [] [] rfl rfl (Sat.start rfl) ?_)
 refine ⟨((min s.size k:Nat):Int),by dsimp only;omega,?_⟩
 refine ⟨min s.size k,0,rfl,rfl,by omega,Nat.zero_le _,?_⟩
 intro β w' hs
 exact ⟨rfl,hs.chg⟩
structure SecA where
 A0:Option Addr
 A1:Option Addr
 A2:Option Addr
 A3:Option Addr
 c0:Nat
 c1:Nat
 c2:Nat
 c3:Nat
 s0:List UInt8
 s1:List UInt8
 s2:List UInt8
 s3:List UInt8
 it:Int
def SecA.val (x:SecA):Value:= .agg #[.slice x.A0 x.s0.length x.c0,.int .i64 x.it,.slice x.A1 x.s1.length x.c1,.slice x.A2 x.s2.length x.c2,.slice x.A3 x.s3.length x.c3]
def SecA.cells (x:SecA):List SL:=[.v (.slice x.A0 x.s0.length x.c0),.v (.int .i64 x.it),.v (.slice x.A1 x.s1.length x.c1),.v (.slice x.A2 x.s2.length x.c2),.v (.slice x.A3 x.s3.length x.c3)]
theorem ofInt8 (a:UInt8):BitVec.ofInt 8 (a.toNat:Int)=a.toBitVec:=by
 apply BitVec.eq_of_toNat_eq
 rw [BitVec.toNat_ofInt]
 have:=a.toNat_lt
 have e:a.toBitVec.toNat=a.toNat:=rfl
 rw [e]
 omega
theorem back8 (x:BitVec 8):IntKind.u8.wrap (x.toNat:Int)=((UInt8.ofBitVec x).toNat:Int):=by
 rw [wrap_u8]
 have:=x.isLt
 have e:(UInt8.ofBitVec x).toNat=x.toNat:=rfl
 rw [e]
 omega
theorem or8 (a b:UInt8):bits .or .u8 (a.toNat:Int) (b.toNat:Int)=((a ||| b).toNat:Int):=by
 show IntKind.u8.wrap (((BitVec.ofInt 8 (a.toNat:Int)) ||| (BitVec.ofInt 8 (b.toNat:Int))).toNat:Int)=_
 rw [ofInt8,ofInt8,back8]
 rfl
end Go.Proofs.YtloeaiafphkjnaaGreatDoor.Sx
namespace Go.Proofs.YtloeaiafphkjnaaGreatDoor.Sx
open Go
attribute [local irreducible] Calls
theorem and8 (a b:UInt8):bits .and .u8 (a.toNat:Int) (b.toNat:Int)=((a&&&b).toNat:Int):=by
 show IntKind.u8.wrap (((BitVec.ofInt 8 (a.toNat:Int))&&&(BitVec.ofInt 8 (b.toNat:Int))).toNat:Int)=_
 rw [ofInt8,ofInt8,back8]
 rfl
theorem andNot8 (a b:UInt8):bits .andNot .u8 (a.toNat:Int) (b.toNat:Int)=((a&&& ~~~b).toNat:Int):=by
 show IntKind.u8.wrap (((BitVec.ofInt 8 (a.toNat:Int))&&& ~~~(BitVec.ofInt 8 (b.toNat:Int))).toNat:Int)=_
 rw [ofInt8,ofInt8,back8]
 rfl
theorem z_ki {x:Int} (h1: -2147483648<=x) (h2:x<=2147483647):IntKind.i32.wrap x=x:=by
 simp only [IntKind.wrap,IntKind.bits,IntKind.signed]
 simp
 omega
theorem z_us (b:UInt8):((b&&& ~~~63).toNat:Int)=128↔b.toNat/64=2:=by
 have h: ∀n:_root_.Fin 256,(((UInt8.ofNat n.1)&&& ~~~63).toNat=128↔(UInt8.ofNat n.1).toNat/64=2):=by decide+kernel
 have h2:(b&&& ~~~63).toNat=128↔b.toNat/64=2:=Nam.u8_all (p:=fun b=>(b&&& ~~~63).toNat=128↔b.toNat/64=2) h b
 omega
theorem z_x7 (b:UInt8):(b&&&63).toNat=b.toNat%64:=by
 have h: ∀n:_root_.Fin 256,((UInt8.ofNat n.1)&&&63).toNat=(UInt8.ofNat n.1).toNat%64:=by decide+kernel
 exact Nam.u8_all (p:=fun b=>(b&&&63).toNat=b.toNat%64) h b
theorem z_u8 {x:Nat} (hx:x<33554432):IntKind.i32.wrap ((x:Int)*2^(min (6:Int).toNat IntKind.i32.bits))=((x*64:Nat):Int):=by
 have h1:min (6:Int).toNat IntKind.i32.bits=6:=rfl
 rw [h1,z_ki (by omega) (by omega)]
 omega
theorem z_xR {x y:Nat} (hx:x<33554432) (hy:y<64):bits .or .i32 ((x*64:Nat):Int) (y:Int)=((x*64+y:Nat):Int):=by
 show IntKind.i32.wrap (((BitVec.ofInt 32 ((x*64:Nat):Int)) ||| (BitVec.ofInt 32 (y:Int))).toNat:Int)=_
 have h1:(BitVec.ofInt 32 ((x*64:Nat):Int)).toNat=x<<<6:=by
  rw [BitVec.toNat_ofInt,Nat.shiftLeft_eq]
  omega
 have h2:(BitVec.ofInt 32 (y:Int)).toNat=y:=by
  rw [BitVec.toNat_ofInt]
  omega
 rw [BitVec.toNat_or,h1,h2,<-Nat.shiftLeft_add_eq_or_of_lt (by omega) x,Nat.shiftLeft_eq,z_ki (by omega) (by omega)]
theorem z_wn (w:World) (z:Int) (r:Nat) (hz:z=(r:Int)):Pu Tryz.prog z_nq #[.int .i32 z] w (.bool (Nam.sign r)):=by
 refine z_ac (cx:=z_in w (Un [])) (z_n3 w (Un [])) z_qp rfl rfl (β:=Va.z) [.c (.v (.int .i32 z))] 0 [] [] rfl rfl (Sat.start rfl) ?_
 have fin: ∀(b:Bool),b=Nam.sign r-> ∀ {n:Nat} {H:List Bk} {F:List Fact} (β:Va) (w':World),Sat (z_in w (Un [])) β n H F w'->Fin w [] (fun u Fs=>u= .bool (Nam.sign r)/\Fs=[]) (.bool b) w':=by
  rintro b rfl n H F β w' hs
  exact (hs.keepB (List.nil_sublist _)).fin [] ⟨rfl,rfl⟩
 refine BIf.dec (fun h0=>?_) (fun h0=>?_)
 ·refine BIf.dec (fun h1=>?_) (fun h1=>?_)
  ·have h1':z<=1114111:=h1
   refine BIf.dec (fun h2=>?_) (fun h2=>?_)
   ·have h2':z<55296:=h2
    refine fin true ?_
    unfold Nam.sign
    rw [decide_eq_true (by omega:r<=1114111),decide_eq_true (by omega:r<55296)];rfl
   ·have h2': ¬z<55296:=h2
    refine fin (decide ((57343:Int)<z)) ?_
    unfold Nam.sign
    rw [decide_eq_true (by omega:r<=1114111),decide_eq_false (by omega: ¬r<55296),Bool.true_and,Bool.false_or]
    exact decide_eq_decide.2 (by omega)
  ·have h1': ¬z<=1114111:=h1
   refine fin false ?_
   unfold Nam.sign
   rw [decide_eq_false (by omega: ¬r<=1114111)];rfl
 ·have h0': ¬(0:Int)<=z:=h0
  omega
def formV (f:Nam.Fm):List Value:=[.int .i64 (f.size:Int),byte f.mask,byte f.lead,.int .i32 (f.least:Int)]
def formCells:List Value:=Nam.fms.flatMap formV
def Forms (g:Nat) (w:World):Prop:=Rd 16 (some ⟨g,0,none⟩) 1 formCells w
theorem Forms.old {g:Nat} {W w:World} (h:Forms g W) (ho:(oldF W).p w):Forms g w:=Rd.old h ho
def runeI:Option Nat->Int
 | some r=>(r:Int)
 | none=> -1
theorem z_uq: ∀ {i:Nat} {f:Nam.Fm},Nam.fms[i]?=some f->((formCells.map SL.v).drop (i*4)).take 4=(formV f).map SL.v
 | 0,f,h=>by cases h;rfl
 | 1,f,h=>by cases h;rfl
 | 2,f,h=>by cases h;rfl
 | 3,f,h=>by cases h;rfl
 | n+4,f,h=>by simp [Nam.fms] at h
theorem z_k8 (b:UInt8): ∀(l:List UInt8) (r:Nat),Nam.tailR (l++[b]) r=match Nam.tailR l r with
  | some q=>if b.toNat/64=2 then some (q*64+b.toNat%64) else none
  | none=>none
 | [],r=>rfl
 | x::t,r=>by
  simp only [List.cons_append,Nam.tailR]
  split
  ·exact z_k8 b t _
  ·rfl
theorem z_nM {f:Nam.Fm} (h:f∈Nam.fms):1<=f.size/\f.size<=4/\f.least<=65536:=by
 simp only [Nam.fms,List.mem_cons,List.not_mem_nil,or_false] at h
 rcases h with rfl | rfl | rfl | rfl<;>decide
theorem z_vq (w:World) (s:ByteArray) (b0:UInt8) (t:List UInt8) (hs0:s.data.toList=b0::t) (hsz:s.size<=maxLen) (hf:Forms 10 w):
  Pu Tryz.prog z_kQ #[.string s] w (.tuple #[.int .i32 (runeI (Nam.decL (b0::t)).1),.int .i64 ((Nam.decL (b0::t)).2:Int)]):=by
 have g:=z_l7 w (Un [])
 have hlen:s.size=(b0::t).length:=by rw [<-hs0];rfl
 have hml:=maxLen_eq
 refine z_ac (cx:=z_cT w (Un [])) g z_oG rfl rfl (β:=Va.z) [.c (.v (.string s))] 0 [] [oldF w] rfl rfl (z_ay rfl) ?_
 refine ⟨formCells,rfl,fun β w' hs=>?_,?_⟩
 ·intro j u hu
  obtain ⟨ad,q,hc⟩:=(Forms.old hf (hs.get 0 rfl)).2 (by decide)
  cases q
  exact hc j u hu
 have bad:Nam.decL (b0::t)=(none,1)-> ∀ {n:Nat} {H:List Bk} {F:List Fact} (β:Va) (w':World),Sat (z_cT w (Un [])) β n H F w'->Fin w [] (fun u Fs=>u= .tuple #[.int .i32 (runeI (Nam.decL (b0::t)).1),.int .i64 ((Nam.decL (b0::t)).2:Int)]/\Fs=[]) (.tuple #[.int .i32 (-1),.int .i64 1]) w':=by
  intro h n H F β w' hs
  rw [h]
  exact (hs.keepB (List.nil_sublist _)).fin [] ⟨rfl,rfl⟩
 refine z_ai 0 (fun i:Nat=>[(0,.c (.v (.string s))),(8,.agg (formCells.map SL.v)),(9,.c (.v (.int .i64 (i:Int))))]) (fun _=>[]) (fun _=>[oldF w])
  (fun i=>i<=4/\ ∀f∈Nam.fms.take i,Nam.fits f (b0::t)=false) (fun i=>4 - i) 0 ⟨Nat.zero_le _,fun f h=>by cases h⟩ (Ent.same ⟨rfl,rfl,rfl,trivial⟩ rfl) g ?_
 rintro i ⟨hi,hno⟩
 have next: ∀ {f:Nam.Fm},Nam.fms[i]?=some f->Nam.fits f (b0::t)=false-> ∀f∈Nam.fms.take (i+1),Nam.fits f (b0::t)=false:=by
  intro f hfi hff f' hf'
  rw [List.take_add_one,hfi] at hf'
  rcases List.mem_append.1 hf' with q | q
  ·exact hno f' q
  ·obtain rfl:f'=f:=by simpa using q
   exact hff
 refine BIf.dec (fun hlt=>?_) (fun hge=>?_)
 ·have hlt0:(i:Int)<4:=hlt
  have hi4:i<Nam.fms.length:=by show i<4;omega
  obtain ⟨f,hfi,hfm⟩:=at_lt hi4
  have hfs:=z_nM hfm
  refine ⟨i,(formV f).map SL.v,rfl,by omega,z_uq hfi,?_⟩
  have hS: ∀ {n:Nat} {F:List Fact},Sub (z_cT w (Un [])) n [⟨0,z_a8,(formV f).map SL.v⟩] F [⟨0,z_a8,(formV f).map SL.v⟩] []:=fun {n F}=>Sub.of (List.Sublist.refl _) (List.nil_sublist _)
  have hb0:s.data.toList[0]?=some b0:=by rw [hs0];rfl
  refine z_aj g z_nA (by kernel_rfl) [⟨0,z_a8,(formV f).map SL.v⟩] [] hS ?_
  refine ⟨0,b0,rfl,hb0,?_⟩
  refine ⟨_,and8 b0 f.mask,?_⟩
  refine BIf.not (BIf.dec (fun hm=>?_) (fun hm=>?_))
  ·have hm1:((b0&&&f.mask).toNat:Int)=(f.lead.toNat:Int):=hm
   have hm2:b0&&&f.mask=f.lead:=UInt8.toNat_inj.1 (by omega)
   refine BIf.dec (fun hsh=>?_) (fun hsh=>?_)
   ·have hsh1:(s.size:Int)<(f.size:Int):=hsh
    have hff:Nam.fits f (b0::t)=false:=by
     simp only [Nam.fits,hm2,decide_true,Bool.true_and]
     exact decide_eq_false (by omega)
    refine ⟨((i+1:Nat):Int),by rw [wrap_i64 (by omega) (by omega)];rfl,?_⟩
    exact ⟨i+1,⟨by omega,next hfi hff⟩,by omega,Ent.mk' ⟨rfl,rfl,rfl,trivial⟩ rfl (fun β w hs=>(hs.keepB (List.nil_sublist _)).lower)⟩
   ·have hsh1: ¬(s.size:Int)<(f.size:Int):=hsh
    have hfl:f.size<=(b0::t).length:=by omega
    have hdec:Nam.decL (b0::t)=match Nam.tryF f (b0::t) with | some r=>(some r,f.size) | none=>(none,1):=by
     unfold Nam.decL
     rw [Nam.find_form hfm hm2,if_pos hfl]
     try rfl
    refine z_aj g z_nB (by kernel_rfl) [⟨0,z_a8,(formV f).map SL.v⟩] [] hS ?_
    refine ⟨0,b0,rfl,hb0,?_⟩
    refine ⟨_,andNot8 b0 f.mask,?_⟩
    obtain ⟨r0,hr0⟩: ∃r0,(b0&&& ~~~f.mask).toNat=r0:=⟨_,rfl⟩
    have hr0l:r0<256:=by rw [<-hr0];exact UInt8.toNat_lt _
    refine ⟨(r0:Int),by rw [hr0];exact z_ki (by omega) (by omega),?_⟩
    have hbad:Nam.tryF f (b0::t)=none->Nam.decL (b0::t)=(none,1):=fun h=>by rw [hdec,h]
    refine z_ai (ι:=Nat×Nat) 1 (fun q=>[(0,.c (.v (.string s))),(5,.c (.p 0 0)),(6,.c (.v (.int .i32 (q.2:Int)))),(7,.c (.v (.int .i64 (q.1:Int))))]) (fun _=>[⟨0,z_a8,(formV f).map SL.v⟩]) (fun _=>[oldF w])
     (fun q=>1<=q.1/\q.1<=f.size/\Nam.tailR (t.take (q.1 - 1)) r0=some q.2/\q.2<256*64^(q.1 - 1)) (fun q=>f.size - q.1) (1,r0) ⟨Nat.le_refl _,hfs.1,rfl,by simpa using hr0l⟩ (Ent.same ⟨rfl,rfl,rfl,rfl,trivial⟩ rfl) g ?_
    rintro ⟨k,r⟩ ⟨hk1,hk2,htl,hrb⟩
    simp only at hk1 hk2 htl hrb
    simp only
    refine BIf.dec (fun hks=>?_) (fun hks=>?_)
    ·have hks1:(k:Int)<(f.size:Int):=hks
     have hkt:k - 1<t.length:=by simp only [List.length_cons] at hfl;omega
     obtain ⟨c,hc,_⟩:=at_lt hkt
     have hcs:s.data.toList[k]?=some c:=by
      rw [hs0]
      obtain ⟨k',rfl⟩: ∃k',k=k'+1:=⟨k - 1,by omega⟩
      simpa using hc
     have hsn:t.take k=t.take (k - 1)++[c]:=by
      have:=List.take_add_one (l:=t) (i:=k - 1)
      rw [hc,Nat.sub_add_cancel hk1] at this
      exact this
     have hrb2:r<33554432:=by
      have:64^(k - 1)<=64^2:=Nat.pow_le_pow_right (by decide) (by omega)
      omega
     refine ⟨k,c,rfl,hcs,?_⟩
     refine ⟨_,andNot8 c 63,?_⟩
     refine BIf.not (BIf.dec (fun hct=>?_) (fun hct=>?_))
     ·have hcc:c.toNat/64=2:=(z_us c).1 hct
      refine ⟨by decide,_,z_u8 hrb2,?_⟩
      refine ⟨k,c,rfl,hcs,?_⟩
      refine ⟨_,and8 c 63,?_⟩
      refine ⟨((c.toNat%64:Nat):Int),by rw [z_x7];exact z_ki (by omega) (by omega),?_⟩
      refine ⟨_,z_xR hrb2 (Nat.mod_lt _ (by decide)),?_⟩
      refine ⟨((k+1:Nat):Int),by rw [wrap_i64 (by omega) (by omega)];rfl,?_⟩
      refine ⟨(k+1,r*64+c.toNat%64),⟨by show 1<=k+1;omega,by show k+1<=f.size;omega,?_,?_⟩,by show f.size - (k+1)<f.size - k;omega,Ent.same ⟨rfl,rfl,rfl,rfl,trivial⟩ rfl⟩
      ·show Nam.tailR (t.take (k+1 - 1)) r0=some (r*64+c.toNat%64)
       rw [Nat.add_sub_cancel,hsn,z_k8,htl]
       simp only
       rw [if_pos hcc]
      ·show r*64+c.toNat%64<256*64^(k+1 - 1)
       obtain ⟨k',rfl⟩: ∃k',k=k'+1:=⟨k - 1,by omega⟩
       simp only [Nat.add_sub_cancel] at hrb ⊢
       rw [Nat.pow_succ]
       omega
     ·have hcc: ¬c.toNat/64=2:=fun q=>hct ((z_us c).2 q)
      exact bad (hbad (by
       simp only [Nam.tryF]
       rw [Nam.tailR_none]
       refine ⟨c,?_,hcc⟩
       have h2:c∈t.take k:=by rw [hsn];simp
       exact List.take_subset_take_left t (by omega) h2))
    ·have hks1: ¬(k:Int)<(f.size:Int):=hks
     obtain rfl:k=f.size:=by omega
     have hmid:Nam.tryF f (b0::t)=if f.least<=r/\Nam.sign r=true then some r else none:=by
      simp only [Nam.tryF,hr0,htl]
     refine BIf.dec (fun hls=>?_) (fun hls=>?_)
     ·have hls1:(f.least:Int)<=(r:Int):=hls
      refine z_ae (fun β w' hs=>z_wn w' (r:Int) r rfl) ?_
      cases hsg:Nam.sign r with
      | true=>
       rw [if_pos ⟨by omega,hsg⟩] at hmid
       rw [hmid] at hdec
       refine z_aj g z_mj (by kernel_rfl) [⟨0,z_a8,(formV f).map SL.v⟩] [] hS ?_
       intro β w' hs
       rw [hdec]
       exact (hs.keepB (List.nil_sublist _)).fin [] ⟨rfl,rfl⟩
      | false=>exact bad (hbad (by rw [hmid,if_neg (fun q=>by rw [hsg] at q;cases q.2)]))
     ·have hls1: ¬(f.least:Int)<=(r:Int):=hls
      exact bad (hbad (by rw [hmid,if_neg (fun q=>hls1 (by have:=q.1;omega))]))
  ·have hm1: ¬((b0&&&f.mask).toNat:Int)=(f.lead.toNat:Int):=hm
   have hff:Nam.fits f (b0::t)=false:=by
    simp only [Nam.fits]
    rw [decide_eq_false (fun q=>hm1 (by rw [q]))]
    rfl
   refine ⟨((i+1:Nat):Int),by rw [wrap_i64 (by omega) (by omega)];rfl,?_⟩
   exact ⟨i+1,⟨by omega,next hfi hff⟩,by omega,Ent.mk' ⟨rfl,rfl,rfl,trivial⟩ rfl (fun β w hs=>(hs.keepB (List.nil_sublist _)).lower)⟩
 ·have hge0: ¬(i:Int)<4:=hge
  have hi4:i=4:=by omega
  subst hi4
  refine bad ?_
  unfold Nam.decL
  rw [List.find?_eq_none.2 (fun f hf q=>by rw [hno f hf] at q;cases q)]
abbrev Sp:=Int×Int
def spanV (x:Sp):List Value:=[.int .i32 x.1,.int .i32 x.2]
def inSp (z:Int) (l:List Sp):Bool:=l.any fun p=>decide (p.1<=z)&&decide (z<=p.2)
theorem z_o3 (w:World) (z:Int) (A:Option Addr) (l:List Sp) (c:Nat) (hr:Rd 2 A l.length (l.flatMap spanV) w) (hn:l.length<=1000):
  Pu Tryz.prog z_ku #[.int .i32 z,.slice A l.length c] w (.bool (inSp z l)):=by
 have g:=z_md w (Un [])
 refine z_ac (cx:=z_fl w (Un [])) g z_pd rfl rfl (β:=Va.z) [.c (.v (.int .i32 z)),.c (.v (.slice A l.length c))] 0 [] [oldF w] rfl rfl (z_ay rfl) ?_
 refine z_ai 0 (fun k:Nat=>[(0,.c (.v (.int .i32 z))),(7,.c (.v (.slice A l.length c))),(8,.c (.v (.int .i64 l.length))),(9,.c (.v (.int .i64 (k:Int))))]) (fun _=>[]) (fun _=>[oldF w])
  (fun k=>k<=l.length/\inSp z (l.take k)=false) (fun k=>l.length - k) 0 ⟨Nat.zero_le _,rfl⟩ (Ent.same ⟨rfl,rfl,rfl,rfl,trivial⟩ rfl) g ?_
 rintro k ⟨hk,hno⟩
 refine BIf.dec (fun hlt=>?_) (fun hge=>?_)
 ·have hlt0:(k:Int)<l.length:=hlt
  have hkl:k<l.length:=by omega
  obtain ⟨x,hx,hxm⟩:=at_lt hkl
  obtain ⟨ad,hA,_⟩:=hr.2 (by omega)
  have hsn:inSp z (l.take (k+1))=(decide (x.1<=z)&&decide (z<=x.2)):=by
   rw [List.take_add_one,hx]
   unfold inSp at hno ⊢
   rw [List.any_append,hno]
   simp
  have next:inSp z (l.take (k+1))=false->Ent (z_fl w (Un [])) 1 [(0,.c (.v (.int .i32 z))),(7,.c (.v (.slice A l.length c))),(8,.c (.v (.int .i64 l.length))),(9,.c (.v (.int .i64 ((k+1:Nat):Int))))] [] [oldF w] 0 [(0,.c (.v (.int .i32 z))),(7,.c (.v (.slice A l.length c))),(8,.c (.v (.int .i64 l.length))),(9,.c (.v (.int .i64 ((k+1:Nat):Int))))] [] [oldF w]:=fun _=>Ent.mk' ⟨rfl,rfl,rfl,rfl,trivial⟩ rfl (fun β w hs=>hs.lower)
  refine ⟨ad,k,hA,rfl,hkl,spanV x,rfl,fun β w' hs=>?_,?_⟩
  ·have h:=Rd.old hr (hs.get 0 rfl)
   obtain ⟨hil,hie⟩:=List.getElem?_eq_some_iff.1 hx
   have h2:=Rd.elem (f:=spanV) (fun _=>rfl) h hA hil
   rw [hie] at h2
   exact h2
  ·refine BIf.dec (fun h1=>?_) (fun h1=>?_)
   ·have h1':x.1<=z:=h1
    refine BIf.dec (fun h2=>?_) (fun h2=>?_)
    ·have h2':z<=x.2:=h2
     intro β w' hs
     refine (hs.keepB (List.nil_sublist _)).fin [] ⟨?_,rfl⟩
     show Value.bool true=_
     congr 1
     refine (List.any_eq_true.2 ⟨x,hxm,?_⟩).symm
     rw [decide_eq_true h1',decide_eq_true h2']
     rfl
    ·have h2': ¬z<=x.2:=h2
     refine ⟨((k+1:Nat):Int),by rw [wrap_i64 (by omega) (by omega)];rfl,?_⟩
     exact ⟨k+1,⟨hkl,by rw [hsn,decide_eq_false h2',Bool.and_false]⟩,by omega,Ent.mk' ⟨rfl,rfl,rfl,rfl,trivial⟩ rfl (fun β w hs=>(hs.keepB (List.nil_sublist _)).lower)⟩
   ·have h1': ¬x.1<=z:=h1
    refine ⟨((k+1:Nat):Int),by rw [wrap_i64 (by omega) (by omega)];rfl,?_⟩
    exact ⟨k+1,⟨hkl,by rw [hsn,decide_eq_false h1',Bool.false_and]⟩,by omega,Ent.mk' ⟨rfl,rfl,rfl,rfl,trivial⟩ rfl (fun β w hs=>(hs.keepB (List.nil_sublist _)).lower)⟩
 ·have hge0: ¬(k:Int)<l.length:=hge
  obtain rfl:k=l.length:=by omega
  rw [List.take_length] at hno
  intro β w' hs
  refine hs.fin [] ⟨?_,rfl⟩
  rw [hno]
  rfl
abbrev Rn:=Nat×Int
def runesAt (l:List UInt8) (i:Nat):List Rn:=if h:i<l.length then (i,runeI (Nam.decL (l.drop i)).1)::runesAt l (i+max 1 (Nam.decL (l.drop i)).2) else []
termination_by l.length - i
decreasing_by omega
theorem z_cO {l:List UInt8} {i:Nat} (h: ¬i<l.length):runesAt l i=[]:=by rw [runesAt,dif_neg h]
theorem z_ig {l:List UInt8} {i:Nat} (h:i<l.length):l.drop i≠[]:=fun q=>by
 have:=congrArg List.length q
 rw [List.length_drop] at this
 simp at this
 omega
theorem z_e5 {l:List UInt8} {i:Nat} (h:i<l.length):runesAt l i=(i,runeI (Nam.decL (l.drop i)).1)::runesAt l (i+(Nam.decL (l.drop i)).2):=by
 have h1:=Nam.decL_size (z_ig h)
 rw [runesAt,dif_pos h,Nat.max_eq_right h1.1]
theorem z_e6 (l:List UInt8): ∀(k i:Nat),l.length - i<=k->(runesAt l i).map (·.2)=(Nam.runes (l.drop i)).map runeI:=by
 intro k
 induction k with
 | zero=>
  intro i h
  rw [z_cO (by omega),List.drop_eq_nil_of_le (by omega),Nam.runes_nil]
  rfl
 | succ k ih=>
  intro i h
  by_cases hi:i<l.length
  ·have h1:=Nam.decL_size (z_ig hi)
   rw [z_e5 hi,Nam.runes_cons (z_ig hi),List.map_cons,List.map_cons,ih _ (by omega),List.drop_drop]
  ·rw [z_cO hi,List.drop_eq_nil_of_le (by omega),Nam.runes_nil]
   rfl
def insR (t:List UInt8) (pre:List Rn) (x:Rn) (args:Array Value) (X:Fact):Prop:=args= #[.int .i64 (x.1:Int),.int .i32 x.2]/\X=noF/\ ∃r,runesAt t 0=pre++x::r
def runesEnd (l:List UInt8) (J Jx:List Rn->Fact->Prop) (Fs:List Fact):Prop:=
 ∃f Fs',Fs=f::Fs'/\((∃xs,J xs f/\xs=runesAt l 0/\Fs'=[])\/(∃pre,Jx pre f/\(∃r,runesAt l 0=pre++r)/\Fs'=[]))
def formF:Fact:=rdF 16 (some ⟨10,0,none⟩) 1 formCells
theorem z_lL (s:ByteArray) (i:Nat):(s.extract i s.size).data.toList=s.data.toList.drop i:=by
 rw [ByteArray.data_extract,Array.toList_extract,List.extract_eq_take_drop]
 rw [List.take_of_length_le]
 rw [List.length_drop]
 exact Nat.le_refl _
theorem z_ra (l:Nat) (w:World) (bx:Nat) (s:ByteArray) (f0 R:Fact) (J Jx:List Rn->Fact->Prop) (hJ0:J [] f0) (hJo: ∀pre f,J pre f->f.own=true) (hRo:R.own=false) (hY:Yc Tryz.prog l J Jx R (insR s.data.toList))
  (hl:s.size<=1000000) (hm:Mem w (f0::R::[bkF bx z_ag [.string s],formF])):
  Con Tryz.prog z_fu #[.func (.yield l) #[] #[],.pointer (some ⟨bx,0,none⟩)] w [f0,bkF bx z_ag [.string s]] (fun _ Fs=>runesEnd s.data.toList J Jx Fs):=by
 have g:=z_ls w (Un [f0,bkF bx z_ag [.string s]]) [bx]
 have hs0:Sat (z_eO w (Un [f0,bkF bx z_ag [.string s]]) [bx]) (Va.of fun _=>bx) 1 [] (f0::R::[bkF bx z_ag [.string s],formF]) w:=by
  refine hm.sat rfl (fun f hf ho k hk=>?_) ⟨Nat.le_refl 1,fun i hi=>by obtain rfl:i=0:=Nat.lt_one_iff.1 hi;rfl⟩
  simp only [List.mem_cons,List.not_mem_nil,or_false] at hf
  rcases hf with rfl | rfl | rfl | rfl
  ·exact ⟨_,by simp,hk⟩
  ·rw [hRo] at ho;cases ho
  ·exact ⟨_,by simp,hk⟩
  ·cases ho
 have hs1:=hs0.toBk 2 rfl 0 Nat.zero_lt_one rfl
 have hlen:s.data.toList.length=s.size:=rfl
 have hml:=maxLen_eq
 refine z_ac (cx:=z_eO w (Un [f0,bkF bx z_ag [.string s]]) [bx]) g z_n4 rfl rfl (β:=Va.of fun _=>bx) [.c (.v (.func (.yield l) #[] #[])),.c (.p 0 0)] 1 _ _ rfl rfl hs1 ?_
 refine z_ai (ι:=List Rn×Nat×Fact) 1 (fun i=>[(0,.c (.v (.func (.yield l) #[] #[]))),(1,.c (.p 0 0)),(3,.c (.v (.int .i64 (i.2.1:Int))))]) (fun _=>[⟨0,z_ag,[.v (.string s)]⟩]) (fun i=>[i.2.2,R,formF])
  (fun i=>J i.1 i.2.2/\runesAt s.data.toList 0=i.1++runesAt s.data.toList i.2.1/\i.2.1<=s.size) (fun i=>s.size - i.2.1) ([],0,f0) ⟨hJ0,rfl,Nat.zero_le _⟩ (Ent.same ⟨rfl,rfl,rfl,trivial⟩ rfl) g ?_
 rintro ⟨pre,i,f⟩ ⟨hJ,hsc,hi⟩
 simp only at hJ hsc hi
 have hfo:=hJo _ _ hJ
 simp only
 refine BIf.dec (fun hlt=>?_) (fun hge=>?_)
 ·have hlt0:(i:Int)<s.size:=hlt
  have hil:i<s.data.toList.length:=by omega
  refine ⟨s.size,i,rfl,rfl,Nat.le_refl _,hi,?_⟩
  have hd:=Nam.decL_size (z_ig hil)
  rw [List.length_drop] at hd
  rw [z_e5 hil] at hsc
  obtain ⟨b0,t,hbt⟩: ∃b0 t,s.data.toList.drop i=b0::t:=by
   cases h:s.data.toList.drop i with
   | nil=>exact absurd h (z_ig hil)
   | cons b t=>exact ⟨b,t,rfl⟩
  obtain ⟨o,n,hon⟩: ∃o n,Nam.decL (s.data.toList.drop i)=(o,n):=⟨_,_,rfl⟩
  rw [hon] at hd hsc
  simp only at hd hsc
  refine z_ae (v:= .tuple #[.int .i32 (runeI o),.int .i64 (n:Int)]) (fun β w' hs=>by
   have h:=z_vq w' (s.extract i s.size) b0 t (by rw [z_lL,hbt]) (by rw [ByteArray.size_extract];omega) (hs.get 2 rfl)
   rw [<-hbt,hon] at h
   exact h) ?_
  refine z_bC (X:=noF) (x:=(i,runeI o)) hY 0 1 rfl hJ hfo rfl hRo (by decide) (fun β=>⟨rfl,rfl,_,hsc⟩) rfl (fun β w _=>⟨trivial,fun k hk=>hk.elim,fun k _ h=>h.elim⟩) ?_ ?_
  ·intro f2 hfo2 hJ2
   refine ⟨((i+n:Nat):Int),by rw [wrap_i64 (by omega) (by omega)];rfl,?_⟩
   exact ⟨(pre++[(i,runeI o)],i+n,f2),⟨hJ2,by show runesAt s.data.toList 0=pre++[(i,runeI o)]++runesAt s.data.toList (i+n);rw [hsc];simp,by show i+n<=s.size;omega⟩,by show s.size - (i+n)<s.size - i;omega,Ent.same ⟨rfl,rfl,rfl,trivial⟩ rfl⟩
  ·intro f2 hfo2 hJ2 β w' hs
   exact (hs.keepB (List.nil_sublist _)).fin [0] ⟨f2,[],rfl,.inr ⟨_,hJ2,⟨runesAt s.data.toList (i+n),by rw [hsc];simp⟩,rfl⟩⟩ rfl rfl rfl ⟨hfo2,trivial⟩
 ·have hge0: ¬(i:Int)<s.size:=hge
  rw [z_cO (l:=s.data.toList) (i:=i) (by omega),List.append_nil] at hsc
  intro β w' hs
  exact (hs.keepB (List.nil_sublist _)).fin [0] ⟨f,[],rfl,.inl ⟨pre,hJ,hsc.symm,rfl⟩⟩ rfl rfl rfl ⟨hfo,trivial⟩
theorem z_t7 (w:World) (s:ByteArray):Con Tryz.prog z_lK #[.string s] w [] (fun v Fs=> ∃bx,v= .func (.func z_fu) #[] #[.pointer (some ⟨bx,0,none⟩)]/\Fs=[bkF bx z_ag [.string s]]):=by
 refine z_ac (cx:=z_j7 w (Un [])) (z_m5 w (Un [])) z_p0 rfl rfl (β:=Va.z) [.c (.v (.string s))] 0 [] [] rfl rfl (Sat.start rfl) ?_
 intro β w' hs
 exact hs.ofBk.fin [0] ⟨β 0,rfl,rfl⟩
def validB (l:List UInt8):Bool:=(Nam.runes l).all Option.isSome
theorem runeI_none {o:Option Nat}:runeI o= -1↔o=none:=by
 cases o with
 | none=>simp [runeI]
 | some r=>
  simp only [runeI]
  constructor
  ·intro h;omega
  ·intro h;cases h
theorem z_mZ (l:List UInt8):validB l=true↔ ∀x∈runesAt l 0,x.2≠ -1:=by
 have h:=z_e6 l _ 0 (Nat.le_refl _)
 rw [List.drop_zero] at h
 unfold validB
 rw [List.all_eq_true]
 constructor
 ·intro hv x hx q
  have:x.2∈(runesAt l 0).map (·.2):=List.mem_map.2 ⟨x,hx,rfl⟩
  rw [h] at this
  obtain ⟨o,ho,hq⟩:=List.mem_map.1 this
  have h2:=hv o ho
  rw [q] at hq
  rw [runeI_none.1 hq] at h2
  cases h2
 ·intro hv o ho
  cases o with
  | some r=>rfl
  | none=>
   have:runeI none∈(Nam.runes l).map runeI:=List.mem_map.2 ⟨none,ho,rfl⟩
   rw [<-h] at this
   obtain ⟨x,hx,hq⟩:=List.mem_map.1 this
   exact absurd hq (hv x hx)
theorem z_w5 (w0:World) (s:ByteArray) (hl:s.size<=1000000) (hf:Forms 10 w0):Pu Tryz.prog z_lO #[.string s] w0 (.bool (validB s.data.toList)):=by
 have g:=z_nl w0 (Un [])
 refine z_ac (cx:=z_kG w0 (Un [])) g z_p7 rfl rfl (β:=Va.z) [.c (.v (.string s))] 0 [] [formF] rfl rfl ((Sat.start rfl).rd (fun _ h=>by cases h) hf) ?_
 refine z_aa [] (fun β w hs=>z_t7 w s) ?_
 rintro v Fs ⟨bx,rfl,rfl⟩
 refine z_aG (α:=Rn) (ι:=Unit) (κ:=Unit) g rfl (cv:=[.pointer (some ⟨bx,0,none⟩)]) rfl (by kernel_rfl) 1 (Nat.le_refl 1)
  (fun pre _=> ∀x∈pre,x.2≠ -1) (fun _=>[⟨0,z_jL,[.v (.bool false)]⟩]) (fun _=>[]) (fun _=>trivial)
  (fun e pre _=>e= .ret/\ ∃x∈pre,x.2= -1) (fun _=>[⟨0,z_jL,[.v (.bool false)]⟩]) (fun _=>[]) (fun _=>trivial)
  [bkF bx z_ag [.string s]] [formF] [] ⟨rfl,trivial⟩ (fun g h=>by cases h) () (fun x h=>by cases h) (fun β w hs=>⟨β,Agr.refl _ _,hs⟩) (insR s.data.toList)
  (fun xs Fs'=>xs=runesAt s.data.toList 0/\Fs'=[]) (fun pre Fs'=>(∃r,runesAt s.data.toList 0=pre++r)/\Fs'=[])
  (fun l w f0 R J Jx hJ0 hJo hRo hY hm=>(z_ra l w bx s f0 R J Jx hJ0 hJo hRo hY hl hm).mono fun _ Fs h=>h) ?_ ?_ ?_
 ·rintro ⟨⟩ pre x args X W S l bs pn pn' hbs hpre ⟨rfl,rfl,_⟩
  refine ⟨_,rfl,?_⟩
  refine BIf.dec (fun h3=>?_) (fun h3=>?_)
  ·have h30:x.2= -1:=h3
   exact ⟨(),⟨rfl,x,by simp,h30⟩,Ent.mk' trivial rfl (fun β w hs=>(hs.perm []).lower (n':=1))⟩
  ·have h30: ¬x.2= -1:=h3
   refine ⟨(),?_,Ent.mk' trivial rfl (fun β w hs=>(hs.perm []).lower (n':=1))⟩
   intro y hy
   rcases List.mem_append.1 hy with hy | hy
   ·exact hpre y hy
   ·obtain rfl:=List.mem_singleton.1 hy;exact h30
 ·rintro xs ⟨⟩ Fs hpre ⟨rfl,rfl⟩
  intro β w' hs
  refine (hs.keepB (List.nil_sublist _)).fin [] ⟨?_,rfl⟩
  rw [(z_mZ _).2 hpre]
  rfl
 ·rintro e pre ⟨⟩ Fs ⟨rfl,x,hx,hxe⟩ ⟨⟨r,hr⟩,rfl⟩
  intro β w' hs
  refine (hs.keepB (List.nil_sublist _)).fin [] ⟨?_,rfl⟩
  have:validB s.data.toList=false:=by
   cases h:validB s.data.toList with
   | false=>rfl
   | true=>exact absurd hxe ((z_mZ _).1 h x (by rw [hr];exact List.mem_append.2 (.inl hx)))
  rw [this]
  rfl
def blanksL:List Sp:=[(0xa0,0xa0),(0x1680,0x1680),(0x2000,0x200a),(0x202f,0x202f),(0x205f,0x205f),(0x3000,0x3000)]
def nothingL:List Sp:=[(0xad,0xad),(0x200b,0x200d),(0x2060,0x2060),(0xfe00,0xfe0f),(0xfeff,0xfeff)]
def barredL:List Sp:=[(0,0x1f),(0x7f,0x9f),(0x2028,0x2029),(0x202a,0x202e),(0x2066,0x2069),(0xe000,0xf8ff),(0xf0000,0x10ffff),(0xfff9,0xfffd),(0xfdd0,0xfdef)]
def spansF (g:Nat) (l:List Sp):Fact:=rdF 2 (some ⟨g,0,none⟩) l.length (l.flatMap spanV)
def prep1 (z:Int):List Int:=if inSp z blanksL=true then [32] else if inSp z nothingL=true then [] else [z]
def prepAt (l:List Rn):List Int:=l.flatMap fun x=>prep1 x.2
def insPr (t:List UInt8) (pre:List Int) (z:Int) (args:Array Value) (X:Fact):Prop:=args= #[.int .i32 z]/\X=noF/\ ∃r,prepAt (runesAt t 0)=pre++z::r
def prepEnd (t:List UInt8) (J Jx:List Int->Fact->Prop) (Fs:List Fact):Prop:=
 ∃f Fs',Fs=f::Fs'/\((∃xs,J xs f/\xs=prepAt (runesAt t 0)/\Fs'=[])\/(∃pre,Jx pre f/\(∃r,prepAt (runesAt t 0)=pre++r)/\Fs'=[]))
abbrev OF:= {f:Fact//f.own=true}
theorem z_wZ (l:Nat) (w:World) (bx:Nat) (s:ByteArray) (f0 R:Fact) (J Jx:List Int->Fact->Prop) (hJ0:J [] f0) (hJo: ∀pre f,J pre f->f.own=true) (hRo:R.own=false) (hY:Yc Tryz.prog l J Jx R (insPr s.data.toList))
  (hl:s.size<=1000000) (hm:Mem w (f0::R::[bkF bx z_ag [.string s],formF,spansF 8 blanksL,spansF 9 nothingL])):
  Con Tryz.prog z_cP #[.func (.yield l) #[] #[],.pointer (some ⟨bx,0,none⟩)] w [f0,bkF bx z_ag [.string s]] (fun _ Fs=>prepEnd s.data.toList J Jx Fs):=by
 have g:=z_iJ w (Un [f0,bkF bx z_ag [.string s]]) [bx]
 have hf0:=hJo _ _ hJ0
 have hs0:Sat (z_ci w (Un [f0,bkF bx z_ag [.string s]]) [bx]) (Va.of fun _=>bx) 1 [] (f0::R::[bkF bx z_ag [.string s],formF,spansF 8 blanksL,spansF 9 nothingL]) w:=by
  refine hm.sat rfl (fun f hf ho k hk=>?_) ⟨Nat.le_refl 1,fun i hi=>by obtain rfl:i=0:=Nat.lt_one_iff.1 hi;rfl⟩
  simp only [List.mem_cons,List.not_mem_nil,or_false] at hf
  rcases hf with rfl | rfl | rfl | rfl | rfl | rfl
  ·exact ⟨_,by simp,hk⟩
  ·rw [hRo] at ho;cases ho
  ·exact ⟨_,by simp,hk⟩
  ·cases ho
  ·cases ho
  ·cases ho
 have hs1:=hs0.toBk 2 rfl 0 Nat.zero_lt_one rfl
 refine z_ac (cx:=z_ci w (Un [f0,bkF bx z_ag [.string s]]) [bx]) g z_lm rfl rfl (β:=Va.of fun _=>bx) [.c (.v (.func (.yield l) #[] #[])),.c (.p 0 0)] 1 _ _ rfl rfl hs1 ?_
 refine z_aa [] (fun β w hs=>z_t7 w s) ?_
 rintro v Fs ⟨bx2,rfl,rfl⟩
 refine z_aG (α:=Rn) (ι:=OF) (κ:=OF) g rfl (cv:=[.pointer (some ⟨bx2,0,none⟩)]) rfl (by kernel_rfl) 2 (Nat.le_refl 2)
  (fun pre i=>J (prepAt pre) i.1) (fun _=>[⟨1,281,[.v (.func (.yield l) #[] #[])]⟩]) (fun i=>[i.1]) (fun i=>⟨i.2,trivial⟩)
  (fun e pre i=>e= .ret/\ ∃p,(∃r,prepAt pre=p++r)/\Jx p i.1) (fun _=>[⟨1,281,[.v (.func (.yield l) #[] #[])]⟩]) (fun i=>[i.1]) (fun i=>⟨i.2,trivial⟩)
  [bkF bx2 z_ag [.string s]] [formF] [R,spansF 8 blanksL,spansF 9 nothingL] ⟨rfl,trivial⟩ (fun g h=>by
   simp only [List.mem_cons,List.not_mem_nil,or_false] at h
   rcases h with rfl | rfl | rfl
   ·exact hRo
   ·rfl
   ·rfl) ⟨f0,hf0⟩ hJ0 (fun β w hs=>⟨β,Agr.refl _ _,?_⟩) (insR s.data.toList)
  (fun xs Fs'=>xs=runesAt s.data.toList 0/\Fs'=[]) (fun pre Fs'=>(∃r,runesAt s.data.toList 0=pre++r)/\Fs'=[])
  (fun l w f0 R J Jx hJ0 hJo hRo hY hm=>(z_ra l w bx2 s f0 R J Jx hJ0 hJo hRo hY hl hm).mono fun _ Fs h=>h) ?_ ?_ ?_
 ·exact (hs.keepB (List.Sublist.cons_cons _ (List.nil_sublist _))).perm [0,3,1,2,4,5]
 ·rintro ⟨f,hfo⟩ pre x args X W S l' bs pn pn' hbs hJ ⟨rfl,rfl,r0,hxr⟩
  simp only at hJ
  refine ⟨_,rfl,?_⟩
  obtain ⟨b1,hb1⟩: ∃b1,inSp x.2 blanksL=b1:=⟨_,rfl⟩
  obtain ⟨b2,hb2⟩: ∃b2,inSp x.2 nothingL=b2:=⟨_,rfl⟩
  refine ⟨6,6,0,6,6,_,rfl,rfl,rfl,Nat.le_refl _,Nat.le_refl _,Nat.zero_le _,rfl,rfl,rfl,?_⟩
  refine z_ae (v:= .bool b1) (fun β w' hs=>by
   have h:=z_o3 w' x.2 (some ⟨8,0,none⟩) blanksL 6 (hs.get 3 rfl) (by decide)
   rw [hb1] at h
   exact h) ?_
  have hsn:prepAt (pre++[x])=prepAt pre++prep1 x.2:=by simp [prepAt]
  cases b1 with
  | true=>
   have hz:prep1 x.2=[32]:=by unfold prep1;rw [if_pos hb1]
   refine z_bC (X:=noF) (x:=32) hY 1 2 rfl hJ hfo rfl hRo (by decide) (fun β=>⟨rfl,rfl,prepAt r0,by rw [hxr];simp [prepAt,hz]⟩) rfl (fun β w _=>⟨trivial,fun k hk=>hk.elim,fun k _ h=>h.elim⟩) ?_ ?_
   ·intro f2 hfo2 hJ2
    exact ⟨⟨f2,hfo2⟩,by show J (prepAt (pre++[x])) f2;rw [hsn,hz];exact hJ2,Ent.mk' trivial rfl (fun β w hs=>(hs.perm [0]).lower (n':=2))⟩
   ·intro f2 hfo2 hJ2
    exact ⟨⟨f2,hfo2⟩,⟨rfl,prepAt pre++[32],⟨[],by rw [hsn,hz];simp⟩,hJ2⟩,Ent.mk' trivial rfl (fun β w hs=>(hs.perm [0]).lower (n':=2))⟩
  | false=>
   refine ⟨5,5,0,5,5,_,rfl,rfl,rfl,Nat.le_refl _,Nat.le_refl _,Nat.zero_le _,rfl,rfl,rfl,?_⟩
   refine z_ae (v:= .bool b2) (fun β w' hs=>by
    have h:=z_o3 w' x.2 (some ⟨9,0,none⟩) nothingL 5 (hs.get 4 rfl) (by decide)
    rw [hb2] at h
    exact h) ?_
   cases b2 with
   | true=>
    have hz:prep1 x.2=[]:=by unfold prep1;rw [if_neg (by rw [hb1];decide),if_pos hb2]
    exact ⟨⟨f,hfo⟩,by show J (prepAt (pre++[x])) f;rw [hsn,hz,List.append_nil];exact hJ,Ent.mk' trivial rfl (fun β w hs=>(hs.perm [1]).lower (n':=2))⟩
   | false=>
    have hz:prep1 x.2=[x.2]:=by unfold prep1;rw [if_neg (by rw [hb1];decide),if_neg (by rw [hb2];decide)]
    refine z_bC (X:=noF) (x:=x.2) hY 1 2 rfl hJ hfo rfl hRo (by decide) (fun β=>⟨rfl,rfl,prepAt r0,by rw [hxr];simp [prepAt,hz]⟩) rfl (fun β w _=>⟨trivial,fun k hk=>hk.elim,fun k _ h=>h.elim⟩) ?_ ?_
    ·intro f2 hfo2 hJ2
     exact ⟨⟨f2,hfo2⟩,by show J (prepAt (pre++[x])) f2;rw [hsn,hz];exact hJ2,Ent.mk' trivial rfl (fun β w hs=>(hs.perm [0]).lower (n':=2))⟩
    ·intro f2 hfo2 hJ2
     exact ⟨⟨f2,hfo2⟩,⟨rfl,prepAt pre++[x.2],⟨[],by rw [hsn,hz];simp⟩,hJ2⟩,Ent.mk' trivial rfl (fun β w hs=>(hs.perm [0]).lower (n':=2))⟩
 ·rintro xs ⟨f,hfo⟩ Fs hJ ⟨rfl,rfl⟩
  intro β w' hs
  exact (hs.keepB (List.nil_sublist _)).fin [0] ⟨f,[],rfl,.inl ⟨_,hJ,rfl,rfl⟩⟩ rfl rfl rfl ⟨hfo,trivial⟩
 ·rintro e pre ⟨f,hfo⟩ Fs ⟨rfl,p,⟨r,hp⟩,hJx⟩ ⟨⟨r2,hr⟩,rfl⟩
  intro β w' hs
  refine (hs.keepB (List.nil_sublist _)).fin [0] ⟨f,[],rfl,.inr ⟨p,hJx,⟨r++prepAt r2,?_⟩,rfl⟩⟩ rfl rfl rfl ⟨hfo,trivial⟩
  rw [hr,prepAt,List.flatMap_append,<-prepAt,hp,List.append_assoc]
  rfl
theorem z_rX (w:World) (s:ByteArray):Con Tryz.prog z_hU #[.string s] w [] (fun v Fs=> ∃bx,v= .func (.func z_cP) #[] #[.pointer (some ⟨bx,0,none⟩)]/\Fs=[bkF bx z_ag [.string s]]):=by
 refine z_ac (cx:=z_gU w (Un [])) (z_kT w (Un [])) z_mS rfl rfl (β:=Va.z) [.c (.v (.string s))] 0 [] [] rfl rfl (Sat.start rfl) ?_
 intro β w' hs
 exact hs.ofBk.fin [0] ⟨β 0,rfl,rfl⟩
def form0:Nam.Fm:=⟨1,0x80,0,0⟩
def pickF (r:Nat) (f g:Nam.Fm):Nam.Fm:=if g.least<=r then g else f
def formOf (r:Nat):Nam.Fm:=Nam.fms.foldl (pickF r) form0
def encGo (f:Nam.Fm) (r:Nat):Nat->List UInt8
 | 0=>[]
 | k+1=>(if k=f.size - 1 then f.lead ||| UInt8.ofNat (r/2^(6*k)) else 128 ||| (UInt8.ofNat (r/2^(6*k))&&&63))::encGo f r k
def encL (r:Nat):List UInt8:=encGo (formOf r) r (formOf r).size
theorem z_pN (f:Nam.Fm) (r:Nat): ∀k,(encGo f r k).length=k
 | 0=>rfl
 | k+1=>by simp [encGo,z_pN f r k]
theorem z_o8 (r:Nat): ∀(l:List Nam.Fm) (f:Nam.Fm),f∈Nam.fms->(∀g∈l,g∈Nam.fms)->l.foldl (pickF r) f∈Nam.fms
 | [],_,hf,_=>hf
 | g::l,f,hf,h=>by
  rw [List.foldl_cons]
  refine z_o8 r l _ ?_ (fun x hx=>h x (List.mem_cons_of_mem _ hx))
  unfold pickF
  split
  ·exact h g List.mem_cons_self
  ·exact hf
theorem z_pw:form0∈Nam.fms:=List.mem_cons_self
structure EnS where
 k:Nat
 acc:List UInt8
 A:Option Addr
 c:Nat
theorem z_vA (w:World) (A:Option Addr) (l:List UInt8) (c r:Nat) (z:Int) (hz:z=(r:Int)) (hr31:r<=1114111) (hsg:Nam.sign r=true) (hr:Bs w A l) (hn:l.length<=1000000000) (hf:Forms 10 w):
  Con Tryz.prog z_kc #[.slice A l.length c,.int .i32 z] w [] fun v Fs=> ∃A' c',v= .slice A' (l++encL r).length c'/\(l++encL r).length<=c'/\c'<=maxLen/\Fs=[browF z_ab A' (l++encL r) c']:=by
 have g:=z_ml w (Un [])
 have hml:=maxLen_eq
 refine z_ac (cx:=z_ji w (Un [])) g z_oR rfl rfl (β:=Va.z) [.c (.v (.slice A l.length c)),.c (.v (.int .i32 z))] 0 [] [oldF w] rfl rfl (z_ay rfl) ?_
 refine z_ae (v:= .bool true) (fun β w' hs=>by
  have h:=z_wn w' z r hz
  rw [hsg] at h
  exact h) ?_
 refine z_aa [] (fun β w' hs=>z_qM w' A l c (Rd.old hr (hs.get 0 rfl)) (by omega)) ?_
 rintro v Fs ⟨A1,c1,rfl,h1,h1m,rfl⟩
 have hcell: ∀w',(oldF w).p w'-> ∀j u,formCells[j]?=some u->w'.cell? ((⟨10,0,none⟩:Addr).add j)=some u:=by
  intro w' ho j u hu
  obtain ⟨ad,q,hc⟩:=(Forms.old hf ho).2 (by decide)
  cases q
  exact hc j u hu
 refine ⟨0,rfl,by decide,?_⟩
 refine ⟨formV form0,rfl,fun β w' hs=>?_,?_⟩
 ·intro j u hu
  have hj:j<4:=(List.getElem?_eq_some_iff.1 hu).1
  refine hcell w' (hs.get 1 rfl) j u ?_
  have:formCells[j]?=(formV form0)[j]?:=by
   match j,hj with
   | 0,_=>rfl
   | 1,_=>rfl
   | 2,_=>rfl
   | 3,_=>rfl
  rw [this,hu]
 refine ⟨formCells,rfl,fun β w' hs=>hcell w' (hs.get 1 rfl),?_⟩
 refine z_ai (ι:=Nat) 1 (fun i=>[(1,.c (.v (.int .i32 z))),(5,.c (.v (.slice A1 l.length c1))),(6,.c (.p 0 0)),(18,.agg (formCells.map SL.v)),(19,.c (.v (.int .i64 (i:Int))))]) (fun i=>[⟨0,z_a8,(formV ((Nam.fms.take i).foldl (pickF r) form0)).map SL.v⟩]) (fun _=>[browF z_ab A1 l c1,oldF w])
  (fun i=>i<=4) (fun i=>4 - i) 0 (Nat.zero_le _) (Ent.same ⟨rfl,rfl,rfl,rfl,rfl,trivial⟩ rfl) g ?_
 intro i hi
 refine BIf.dec (fun hlt=>?_) (fun hge=>?_)
 ·have hlt0:(i:Int)<4:=hlt
  have hi4:i<Nam.fms.length:=by show i<4;omega
  obtain ⟨f,hfi,hfm⟩:=at_lt hi4
  have hfold:(Nam.fms.take (i+1)).foldl (pickF r) form0=pickF r ((Nam.fms.take i).foldl (pickF r) form0) f:=by
   rw [List.take_add_one,hfi,List.foldl_append]
   rfl
  refine ⟨i,(formV f).map SL.v,rfl,by omega,z_uq hfi,?_⟩
  refine BIf.dec (fun hls=>?_) (fun hls=>?_)
  ·have hls1:(f.least:Int)<=z:=hls
   rw [pickF,if_pos (by omega)] at hfold
   refine ⟨((i+1:Nat):Int),by rw [wrap_i64 (by omega) (by omega)];rfl,?_⟩
   refine ⟨i+1,by omega,by omega,?_⟩
   rw [hfold]
   exact Ent.mk' ⟨rfl,rfl,rfl,rfl,rfl,trivial⟩ rfl (fun β w hs=>(hs.keepB (List.sublist_cons_self _ _)).lower)
  ·have hls1: ¬(f.least:Int)<=z:=hls
   rw [pickF,if_neg (by omega)] at hfold
   refine ⟨((i+1:Nat):Int),by rw [wrap_i64 (by omega) (by omega)];rfl,?_⟩
   refine ⟨i+1,by omega,by omega,?_⟩
   rw [hfold]
   exact Ent.mk' ⟨rfl,rfl,rfl,rfl,rfl,trivial⟩ rfl (fun β w hs=>(hs.keepB (List.sublist_cons_self _ _)).lower)
 ·have hge0: ¬(i:Int)<4:=hge
  obtain rfl:i=4:=by omega
  have hfe:(Nam.fms.take 4).foldl (pickF r) form0=formOf r:=rfl
  rw [hfe]
  have hfs:=z_nM (z_o8 r Nam.fms form0 z_pw (fun _ h=>h))
  change 1<=(formOf r).size/\(formOf r).size<=4/\_ at hfs
  unfold encL
  generalize formOf r=f at hfs ⊢
  refine ⟨(f.size:Int) - 1,wrap_i64 (by omega) (by omega),?_⟩
  refine z_ai (ι:=EnS) 1 (fun i=>[(1,.c (.v (.int .i32 z))),(5,.c (.v (.slice i.A i.acc.length i.c))),(6,.c (.p 0 0)),(9,.c (.v (.int .i64 ((i.k:Int) - 1))))]) (fun _=>[⟨0,z_a8,(formV f).map SL.v⟩]) (fun i=>[browF z_ab i.A i.acc i.c,oldF w])
   (fun i=>i.acc++encGo f r i.k=l++encGo f r f.size/\i.k<=f.size/\i.acc.length<=i.c/\i.c<=maxLen/\i.acc.length+i.k=l.length+f.size) (fun i=>i.k) ⟨f.size,l,A1,c1⟩ ⟨rfl,Nat.le_refl _,h1,h1m,rfl⟩ (Ent.same ⟨rfl,rfl,rfl,rfl,trivial⟩ rfl) g ?_
  rintro ⟨k,acc,A2,c2⟩ ⟨hinv,hk,hac,hcm,hlen⟩
  simp only at hinv hk hac hcm hlen
  simp only
  refine BIf.dec (fun hp=>?_) (fun hp=>?_)
  ·have hp0:(0:Int)<=(k:Int) - 1:=hp
   obtain ⟨k',rfl⟩: ∃k',k=k'+1:=⟨k - 1,by omega⟩
   refine ⟨((6*k':Nat):Int),by rw [wrap_i64 (by omega) (by omega)];omega,?_⟩
   refine ⟨by omega,((r/2^(6*k'):Nat):Int),?_,?_⟩
   ·have hmin:min ((6*k':Nat):Int).toNat IntKind.i32.bits=6*k':=by show min (6*k') 32=_;omega
    rw [hmin,hz]
    exact z_tC r (6*k')
   refine ⟨(f.size:Int) - 1,wrap_i64 (by omega) (by omega),?_⟩
   refine BIf.dec (fun he=>?_) (fun he=>?_)
   ·have he0:((k'+1:Nat):Int) - 1=(f.size:Int) - 1:=he
    have henc:encGo f r (k'+1)=(f.lead ||| UInt8.ofNat (r/2^(6*k')))::encGo f r k':=by rw [encGo,if_pos (by omega)]
    refine ⟨_,z_bZ _,?_⟩
    refine ⟨_,or8 f.lead (UInt8.ofNat (r/2^(6*k'))),?_⟩
    intro b0
    refine ⟨1,acc.length,acc.length+1,acc.map byte,[f.lead ||| UInt8.ofNat (r/2^(6*k'))].map byte,(acc++[f.lead ||| UInt8.ofNat (r/2^(6*k'))]).map byte,rfl,fun β w hs=>z_an (hs.get 0 rfl),z_ap _,rfl,List.map_append.symm,by rw [maxLen_eq];omega,by show (acc.length+1)*1<=_;omega,?_⟩
    intro A' c' q1 q2 _
    refine ⟨(k':Int) - 1,by rw [wrap_i64 (by omega) (by omega)];omega,?_⟩
    have hle:(acc++[f.lead ||| UInt8.ofNat (r/2^(6*k'))]).length=acc.length+1:=by simp
    refine ⟨⟨k',acc++[f.lead ||| UInt8.ofNat (r/2^(6*k'))],A',c'⟩,⟨by rw [<-hinv,henc];simp,by show k'<=f.size;omega,by show (acc++[f.lead ||| UInt8.ofNat (r/2^(6*k'))]).length<=c';omega,q2,by show (acc++[f.lead ||| UInt8.ofNat (r/2^(6*k'))]).length+k'=_;omega⟩,by show k'<k'+1;omega,?_⟩
    simp only [browF,hle]
    exact Ent.mk' ⟨rfl,rfl,rfl,rfl,trivial⟩ rfl (fun β w hs=>hs.weaken (List.Sublist.refl _) (List.sublist_cons_self _ _))
   ·have he0: ¬((k'+1:Nat):Int) - 1=(f.size:Int) - 1:=he
    have henc:encGo f r (k'+1)=(128 ||| (UInt8.ofNat (r/2^(6*k'))&&&63))::encGo f r k':=by rw [encGo,if_neg (by omega)]
    refine ⟨_,z_bZ _,?_⟩
    refine ⟨_,and8 (UInt8.ofNat (r/2^(6*k'))) 63,?_⟩
    refine ⟨_,or8 128 (UInt8.ofNat (r/2^(6*k'))&&&63),?_⟩
    intro b0
    refine ⟨1,acc.length,acc.length+1,acc.map byte,[128 ||| (UInt8.ofNat (r/2^(6*k'))&&&63)].map byte,(acc++[128 ||| (UInt8.ofNat (r/2^(6*k'))&&&63)]).map byte,rfl,fun β w hs=>z_an (hs.get 0 rfl),z_ap _,rfl,List.map_append.symm,by rw [maxLen_eq];omega,by show (acc.length+1)*1<=_;omega,?_⟩
    intro A' c' q1 q2 _
    refine ⟨(k':Int) - 1,by rw [wrap_i64 (by omega) (by omega)];omega,?_⟩
    have hle:(acc++[128 ||| (UInt8.ofNat (r/2^(6*k'))&&&63)]).length=acc.length+1:=by simp
    refine ⟨⟨k',acc++[128 ||| (UInt8.ofNat (r/2^(6*k'))&&&63)],A',c'⟩,⟨by rw [<-hinv,henc];simp,by show k'<=f.size;omega,by show (acc++[128 ||| (UInt8.ofNat (r/2^(6*k'))&&&63)]).length<=c';omega,q2,by show (acc++[128 ||| (UInt8.ofNat (r/2^(6*k'))&&&63)]).length+k'=_;omega⟩,by show k'<k'+1;omega,?_⟩
    simp only [browF,hle]
    exact Ent.mk' ⟨rfl,rfl,rfl,rfl,trivial⟩ rfl (fun β w hs=>hs.weaken (List.Sublist.refl _) (List.sublist_cons_self _ _))
  ·have hp0: ¬(0:Int)<=(k:Int) - 1:=hp
   obtain rfl:k=0:=by omega
   simp only [encGo,List.append_nil] at hinv
   intro β w' hs
   refine (hs.keepB (List.nil_sublist _)).fin [0] ⟨A2,c2,by rw [<-hinv];rfl,by rw [<-hinv];exact hac,hcm,by rw [<-hinv];rfl⟩
end Go.Proofs.YtloeaiafphkjnaaGreatDoor.Sx
namespace Go.Proofs.YtloeaiafphkjnaaGreatDoor.Sx
open Go
theorem z_tX {s:List UInt8} {r:Nat} (h:(Nam.decL s).1=some r):Nam.sign r=true:=by
 unfold Nam.decL at h
 split at h
 ·rename_i f hf
  split at h
  ·rename_i q hq
   obtain rfl:=Option.some.inj h
   unfold Nam.tryF at hq
   split at hq
   ·cases hq
   ·split at hq
    ·split at hq
     ·rename_i hh
      obtain rfl:=Option.some.inj hq
      exact hh.2
     ·cases hq
    ·cases hq
  ·cases h
 ·cases h
theorem z_oo {r:Nat}: ∀(k:Nat) (l:List UInt8),l.length<=k->some r∈Nam.runes l->Nam.sign r=true:=by
 intro k
 induction k with
 | zero=>
  intro l h hm
  obtain rfl:l=[]:=List.length_eq_zero_iff.1 (by omega)
  rw [Nam.runes_nil] at hm
  cases hm
 | succ k ih=>
  intro l h hm
  by_cases hl:l=[]
  ·subst hl
   rw [Nam.runes_nil] at hm
   cases hm
  ·have h1:=Nam.decL_size hl
   rw [Nam.runes_cons hl] at hm
   rcases List.mem_cons.1 hm with hm | hm
   ·exact z_tX hm.symm
   ·exact ih _ (by rw [List.length_drop];omega) hm
def prepO (l:List (Option Nat)):List Int:=l.flatMap fun o=>prep1 (runeI o)
theorem z_pK (l:List UInt8):prepAt (runesAt l 0)=prepO (Nam.runes l):=by
 have h:=z_e6 l _ 0 (Nat.le_refl _)
 rw [List.drop_zero] at h
 have e1:prepAt (runesAt l 0)=((runesAt l 0).map (·.2)).flatMap prep1:=by rw [prepAt,List.flatMap_map]
 rw [e1,h,List.flatMap_map]
 rfl
theorem z_un {r:Nat} (h:Nam.sign r=true):r<=1114111:=by
 unfold Nam.sign at h
 simp only [Bool.and_eq_true,decide_eq_true_eq] at h
 exact h.1
theorem z_ug {l:List UInt8} (hv:validB l=true) {z:Int} (hz:z∈prepAt (runesAt l 0)): ∃r:Nat,z=(r:Int)/\Nam.sign r=true/\r<=1114111:=by
 rw [z_pK] at hz
 obtain ⟨o,ho,hz⟩:=List.mem_flatMap.1 hz
 cases o with
 | none=>
  have:=List.all_eq_true.1 hv none ho
  cases this
 | some r=>
  have hs:=z_oo l.length l (Nat.le_refl _) ho
  unfold prep1 at hz
  split at hz
  ·obtain rfl:=List.mem_singleton.1 hz
   exact ⟨32,rfl,by decide,by decide⟩
  ·split at hz
   ·cases hz
   ·obtain rfl:=List.mem_singleton.1 hz
    exact ⟨r,rfl,hs,z_un hs⟩
def badZ (z:Int):Bool:=inSp z barredL || decide (bits .and .i32 z 65534=65534)
def encZ (z:Int):List UInt8:=encL z.toNat
def prepF (l:List UInt8):List UInt8×Int:=
 if validB l=true then if (prepAt (runesAt l 0)).any badZ=true then ([],5) else ((prepAt (runesAt l 0)).flatMap encZ,0) else ([],4)
end Go.Proofs.YtloeaiafphkjnaaGreatDoor.Sx
namespace Go.Proofs.YtloeaiafphkjnaaGreatDoor.Sx
open Go
attribute [local irreducible] Calls
def mkS (l:List UInt8):ByteArray:=⟨l.toArray⟩
theorem z_vU (z:Int):(encZ z).length<=4:=by
 unfold encZ encL
 rw [z_pN]
 have:=z_nM (z_o8 z.toNat Nam.fms form0 z_pw (fun _ h=>h))
 exact this.2.1
theorem z_sQ (z:Int):(prep1 z).length<=1:=by
 unfold prep1
 split
 ·exact Nat.le_refl _
 ·split
  ·exact Nat.zero_le _
  ·exact Nat.le_refl _
theorem z_mA (l:List UInt8): ∀(k i:Nat),l.length - i<=k->(runesAt l i).length<=l.length - i:=by
 intro k
 induction k with
 | zero=>intro i h;rw [z_cO (by omega)];exact Nat.zero_le _
 | succ k ih=>
  intro i h
  by_cases hi:i<l.length
  ·have h1:=Nam.decL_size (z_ig hi)
   rw [z_e5 hi,List.length_cons]
   have:=ih (i+(Nam.decL (l.drop i)).2) (by omega)
   omega
  ·rw [z_cO hi];exact Nat.zero_le _
theorem z_qN {α β:Type} (f:α->List β) (n:Nat) (h: ∀x,(f x).length<=n): ∀l:List α,(l.flatMap f).length<=n*l.length
 | []=>by simp
 | x::r=>by
  rw [List.flatMap_cons,List.length_append,List.length_cons]
  have h1:=h x
  have h2:=z_qN f n h r
  rw [Nat.mul_succ]
  omega
theorem z_sa (l:List UInt8):(prepAt (runesAt l 0)).length<=l.length:=by
 have h1:=z_qN (fun x:Rn=>prep1 x.2) 1 (fun x=>z_sQ x.2) (runesAt l 0)
 have h2:=z_mA l _ 0 (Nat.le_refl _)
 unfold prepAt
 omega
structure PrS8 where
 out:List UInt8
 A:Option Addr
 c:Nat
theorem z_tp (w0:World) (s:ByteArray) (hl:s.size<=100000) (hf:Forms 10 w0) (h5:(spansF 8 blanksL).p w0) (h6:(spansF 9 nothingL).p w0) (h4:(spansF 4 barredL).p w0):
  Pu Tryz.prog z_jh #[.string s] w0 (.tuple #[.string (mkS (prepF s.data.toList).1),.int .i64 (prepF s.data.toList).2]):=by
 have g:=z_lC w0 (Un [])
 have hlen:s.data.toList.length=s.size:=rfl
 have own2: ∀ {f1 f2 f3 f4:Fact},f1.own=false->f2.own=false->f3.own=false->f4.own=false-> ∀g∈[f1,f2,f3,f4],g.own=false:=by
  intro f1 f2 f3 f4 e1 e2 e3 e4 g hg
  simp only [List.mem_cons,List.not_mem_nil,or_false] at hg
  rcases hg with rfl | rfl | rfl | rfl<;>assumption
 have st:Sat (z_aR w0 (Un [])) Va.z 0 [] [formF,formF,spansF 8 blanksL,spansF 9 nothingL,spansF 4 barredL] w0:=by
  have s1:Sat (z_aR w0 (Un [])) Va.z 0 [] [spansF 4 barredL] w0:=(Sat.start rfl).rd (fun _ h=>by cases h) h4
  have s2:Sat (z_aR w0 (Un [])) Va.z 0 [] [spansF 9 nothingL,spansF 4 barredL] w0:=s1.rd (fun g hg=>own2 (f1:=spansF 4 barredL) (f2:=noF) (f3:=noF) (f4:=noF) rfl rfl rfl rfl g (by obtain rfl:=List.mem_singleton.1 hg;simp)) h6
  have s3:Sat (z_aR w0 (Un [])) Va.z 0 [] [spansF 8 blanksL,spansF 9 nothingL,spansF 4 barredL] w0:=s2.rd (fun g hg=>own2 (f1:=spansF 9 nothingL) (f2:=spansF 4 barredL) (f3:=noF) (f4:=noF) rfl rfl rfl rfl g (by simp only [List.mem_cons,List.not_mem_nil,or_false] at hg ⊢;rcases hg with h | h<;>simp [h])) h5
  have s4:Sat (z_aR w0 (Un [])) Va.z 0 [] [formF,spansF 8 blanksL,spansF 9 nothingL,spansF 4 barredL] w0:=s3.rd (fun g hg=>own2 (f1:=spansF 8 blanksL) (f2:=spansF 9 nothingL) (f3:=spansF 4 barredL) (f4:=noF) rfl rfl rfl rfl g (by simp only [List.mem_cons,List.not_mem_nil,or_false] at hg ⊢;rcases hg with h | h | h<;>simp [h])) hf
  exact s4.rd (own2 rfl rfl rfl rfl) hf
 refine z_ac (cx:=z_aR w0 (Un [])) g z_n6 rfl rfl (β:=Va.z) [.c (.v (.string s))] 0 [] _ rfl rfl st ?_
 obtain ⟨bv,hv⟩: ∃bv,validB s.data.toList=bv:=⟨_,rfl⟩
 refine z_ae (v:= .bool bv) (fun β w hs=>by
  have h:=z_w5 w s (by omega) (hs.get 0 rfl)
  rw [hv] at h
  exact h) ?_
 cases bv with
 | false=>
  intro β w' hs
  refine (hs.keepB (List.nil_sublist _)).fin [] ⟨?_,rfl⟩
  unfold prepF
  rw [hv]
  rfl
 | true=>
  refine z_aa [] (fun β w hs=>z_rX w s) ?_
  rintro v Fs ⟨bx,rfl,rfl⟩
  obtain ⟨T,hT⟩: ∃T,prepAt (runesAt s.data.toList 0)=T:=⟨_,rfl⟩
  have hTl:T.length<=100000:=by
   have:=z_sa s.data.toList
   rw [hT] at this
   omega
  have hpr:prepF s.data.toList=if T.any badZ=true then ([],5) else (T.flatMap encZ,0):=by unfold prepF;rw [if_pos hv,hT]
  refine z_aG (α:=Int) (ι:=PrS8) (κ:=Unit) g rfl (cv:=[.pointer (some ⟨bx,0,none⟩)]) rfl (by kernel_rfl) 3 (Nat.le_refl 3)
   (fun pre i=>pre.any badZ=false/\i.out=pre.flatMap encZ) (fun i=>[⟨2,z_al,[.v (.slice i.A i.out.length i.c)]⟩,⟨1,z_av,[.v (.int .i64 0)]⟩,⟨0,z_ag,[.v (.string (mkS []))]⟩]) (fun i=>[browF z_ab i.A i.out i.c]) (fun i=>⟨rfl,trivial⟩)
   (fun e pre _=>e= .ret/\pre.any badZ=true) (fun _=>[⟨1,z_av,[.v (.int .i64 5)]⟩,⟨0,z_ag,[.v (.string (mkS []))]⟩]) (fun _=>[]) (fun _=>trivial)
   [bkF bx z_ag [.string s]] [formF,spansF 8 blanksL,spansF 9 nothingL] [formF,spansF 4 barredL] ⟨rfl,trivial⟩ (fun g h=>by
    simp only [List.mem_cons,List.not_mem_nil,or_false] at h
    rcases h with rfl | rfl<;>rfl) ⟨[],none,0⟩ ⟨rfl,rfl⟩ (fun β w hs=>⟨β,Agr.refl _ _,?_⟩) (insPr s.data.toList)
   (fun xs Fs'=>xs=T/\Fs'=[]) (fun pre Fs'=>(∃r,T=pre++r)/\Fs'=[])
   (fun l w f0 R J Jx hJ0 hJo hRo hY hm=>(z_wZ l w bx s f0 R J Jx hJ0 hJo hRo hY (by omega) hm).mono fun _ Fs h=>by rw [<-hT];exact h) ?_ ?_ ?_
  ·exact (hs.nilRow z_ab 1).perm [1,2,4,5,0,3,6]
  ·rintro ⟨out,A,c⟩ pre z args X W S l' bs pn pn' hbs ⟨hno,hout⟩ ⟨rfl,rfl,r0,hzr⟩
   simp only at hno hout
   rw [hT] at hzr
   refine ⟨_,rfl,?_⟩
   obtain ⟨b1,hb1⟩: ∃b1,inSp z barredL=b1:=⟨_,rfl⟩
   refine ⟨9,9,0,9,9,_,rfl,rfl,rfl,Nat.le_refl _,Nat.le_refl _,Nat.zero_le _,rfl,rfl,rfl,?_⟩
   refine z_ae (v:= .bool b1) (fun β w' hs=>by
    have h:=z_o3 w' z (some ⟨4,0,none⟩) barredL 9 (hs.get 3 rfl) (by decide)
    rw [hb1] at h
    exact h) ?_
   cases b1 with
   | true=>
    have hbz:badZ z=true:=by unfold badZ;rw [hb1];rfl
    exact ⟨(),⟨rfl,by rw [List.any_append,List.any_cons,hbz];simp⟩,Ent.mk' trivial rfl (fun β w hs=>((hs.keepB (List.sublist_cons_self _ _)).perm []).lower (n':=3))⟩
   | false=>
    obtain ⟨y,hy⟩: ∃y,bits .and .i32 z 65534=y:=⟨_,rfl⟩
    refine ⟨y,hy,?_⟩
    refine BIf.dec (fun h3=>?_) (fun h3=>?_)
    ·have h30:y=65534:=h3
     have hbz:badZ z=true:=by unfold badZ;rw [hb1,hy,decide_eq_true h30];rfl
     exact ⟨(),⟨rfl,by rw [List.any_append,List.any_cons,hbz];simp⟩,Ent.mk' trivial rfl (fun β w hs=>((hs.keepB (List.sublist_cons_self _ _)).perm []).lower (n':=3))⟩
    ·have h30: ¬y=65534:=h3
     have hbz:badZ z=false:=by unfold badZ;rw [hb1,hy,decide_eq_false h30];rfl
     obtain ⟨r,hz,hsg,hr31⟩:=z_ug hv (z:=z) (by rw [hT,hzr];simp)
     have hol:out.length<=400000:=by
      have h8:=z_qN encZ 4 z_vU pre
      have h9:pre.length<=T.length:=by rw [hzr,List.length_append];omega
      rw [hout]
      omega
     refine z_aa [] (fun β w' hs=>z_vA w' A out c r z hz hr31 hsg (z_an (hs.get 1 rfl)) (by omega) (hs.get 2 rfl)) ?_
     rintro v Fs ⟨A',c',rfl,q1,q2,rfl⟩
     exact ⟨⟨out++encL r,A',c'⟩,⟨by rw [List.any_append,hno,List.any_cons,hbz];rfl,by rw [hout,List.flatMap_append];simp [encZ,hz]⟩,Ent.mk' trivial rfl (fun β w hs=>(hs.perm [0]).lower (n':=3))⟩
  ·rintro xs ⟨out,A,c⟩ Fs ⟨hno,hout⟩ ⟨rfl,rfl⟩
   simp only at hno hout
   rw [if_neg (by rw [hno];decide)] at hpr
   refine ⟨out,fun β w hs=>z_an (hs.get 0 rfl),?_⟩
   intro β w' hs
   refine (hs.keepB (List.nil_sublist _)).fin [] ⟨?_,rfl⟩
   rw [hpr,<-hout]
   rfl
  ·rintro e pre ⟨⟩ Fs ⟨rfl,hbad⟩ ⟨⟨r,hr⟩,rfl⟩
   rw [if_pos (by rw [hr,List.any_append,hbad];rfl)] at hpr
   intro β w' hs
   refine (hs.keepB (List.nil_sublist _)).fin [] ⟨?_,rfl⟩
   rw [hpr]
   rfl
def sizF (l:List UInt8) (most:Nat):List UInt8×Int:=
 if (prepF l).2=0 then if (prepF l).1=[] then ([],2) else if most<(prepF l).1.length then ([],3) else ((prepF l).1,0) else ([],(prepF l).2)
theorem mkS_nil {p:List UInt8}:mkS p=mkS []↔p=[]:=by
 constructor
 ·intro h
  have:=congrArg (fun s:ByteArray=>s.data.toList) h
  simpa [mkS] using this
 ·rintro rfl;rfl
theorem z_xH (w:World) (s:ByteArray) (most:Nat) (hmost:most<=1000000) (hl:s.size<=100000) (hf:Forms 10 w) (h5:(spansF 8 blanksL).p w) (h6:(spansF 9 nothingL).p w) (h4:(spansF 4 barredL).p w):
  Pu Tryz.prog z_lG #[.string s,.int .i64 (most:Int)] w (.tuple #[.string (mkS (sizF s.data.toList most).1),.int .i64 (sizF s.data.toList most).2]):=by
 have g:=z_mR w (Un [])
 refine z_ac (cx:=z_gp w (Un [])) g z_pX rfl rfl (β:=Va.z) [.c (.v (.string s)),.c (.v (.int .i64 (most:Int)))] 0 [] [oldF w] rfl rfl (z_ay rfl) ?_
 obtain ⟨p,e,hpe⟩: ∃p e,prepF s.data.toList=(p,e):=⟨_,_,rfl⟩
 have hz:sizF s.data.toList most=if e=0 then if p=[] then ([],2) else if most<p.length then ([],3) else (p,0) else ([],e):=by unfold sizF;rw [hpe]
 refine z_ae (v:= .tuple #[.string (mkS p),.int .i64 e]) (fun β w' hs=>by
  have h:=z_tp w' s hl (Forms.old hf (hs.get 0 rfl)) (Rd.old h5 (hs.get 0 rfl)) (Rd.old h6 (hs.get 0 rfl)) (Rd.old h4 (hs.get 0 rfl))
  rw [hpe] at h
  exact h) ?_
 have fin: ∀(q:List UInt8) (d:Int),sizF s.data.toList most=(q,d)-> ∀ {n:Nat} {H:List Bk} {F:List Fact} (β:Va) (w':World),Sat (z_gp w (Un [])) β n H F w'->Fin w [] (fun u Fs=>u= .tuple #[.string (mkS (sizF s.data.toList most).1),.int .i64 (sizF s.data.toList most).2]/\Fs=[]) (.tuple #[.string (mkS q),.int .i64 d]) w':=by
  intro q d h n H F β w' hs
  rw [h]
  exact (hs.keepB (List.nil_sublist _)).fin [] ⟨rfl,rfl⟩
 refine BIf.not (BIf.dec (fun he=>?_) (fun he=>?_))
 ·have he0:e=0:=he
  rw [if_pos he0] at hz
  refine BIf.dec (p:=mkS p=mkS []) (fun hp=>?_) (fun hp=>?_)
  ·rw [if_pos (mkS_nil.1 hp)] at hz
   exact fin [] 2 hz
  ·rw [if_neg (fun q=>hp (mkS_nil.2 q))] at hz
   have hsz:(mkS p).size=p.length:=by simp [mkS,ByteArray.size]
   refine BIf.dec (fun hm=>?_) (fun hm=>?_)
   ·have hm0:(most:Int)<((mkS p).size:Int):=hm
    rw [hsz] at hm0
    rw [if_pos (by omega)] at hz
    exact fin [] 3 hz
   ·have hm0: ¬(most:Int)<((mkS p).size:Int):=hm
    rw [hsz] at hm0
    rw [if_neg (by omega)] at hz
    rw [he0]
    exact fin p 0 hz
 ·have he0: ¬e=0:=he
  rw [if_neg he0] at hz
  exact fin [] e hz
theorem z_yz (w:World) (s:ByteArray) (hl:s.size<=100000) (hf:Forms 10 w) (h5:(spansF 8 blanksL).p w) (h6:(spansF 9 nothingL).p w) (h4:(spansF 4 barredL).p w):
  Pu Tryz.prog z_jJ #[.string s] w (.tuple #[.string (mkS (sizF s.data.toList 32).1),.int .i64 (sizF s.data.toList 32).2]):=by
 have g:=z_n1 w (Un [])
 refine z_ac (cx:=z_l6 w (Un [])) g z_qZ rfl rfl (β:=Va.z) [.c (.v (.string s))] 0 [] [oldF w] rfl rfl (z_ay rfl) ?_
 refine z_ae (fun β w' hs=>z_xH w' s 32 (by decide) hl (Forms.old hf (hs.get 0 rfl)) (Rd.old h5 (hs.get 0 rfl)) (Rd.old h6 (hs.get 0 rfl)) (Rd.old h4 (hs.get 0 rfl))) ?_
 intro β w' hs
 exact hs.fin [] ⟨rfl,rfl⟩
end Go.Proofs.YtloeaiafphkjnaaGreatDoor.Sx
namespace Go.Proofs.YtloeaiafphkjnaaGreatDoor.Sx
open Go
def rblank (r:Int):Bool:=decide (r=160\/r=5760\/(8192<=r/\r<=8202)\/r=8239\/r=8287\/r=12288)
def rgoes (r:Int):Bool:=decide (r=173\/(8203<=r/\r<=8205)\/r=8288\/(65024<=r/\r<=65039)\/r=65279)
def rbars (r:Int):Bool:=decide (r<=31\/(127<=r/\r<=159)\/(8232<=r/\r<=8238)\/(8294<=r/\r<=8297)\/(57344<=r/\r<=63743)\/983040<=r\/(65529<=r/\r<=65533)\/(64976<=r/\r<=65007)\/65534<=r%65536)
theorem z_ud (r:Int):rblank r=inSp r blanksL:=by
 unfold rblank inSp blanksL
 simp only [List.any_cons,List.any_nil,Bool.or_false]
 rw [Bool.eq_iff_iff]
 simp only [decide_eq_true_eq,Bool.or_eq_true,Bool.and_eq_true]
 omega
theorem z_u7 (r:Int):rgoes r=inSp r nothingL:=by
 unfold rgoes inSp nothingL
 simp only [List.any_cons,List.any_nil,Bool.or_false]
 rw [Bool.eq_iff_iff]
 simp only [decide_eq_true_eq,Bool.or_eq_true,Bool.and_eq_true]
 omega
theorem z_vx {x:Nat} (hx:x<2147483648):bits .and .i32 (x:Int) 65534=65534↔65534<=x%65536:=by
 have e:bits .and .i32 (x:Int) 65534=((x&&&65534:Nat):Int):=by
  show IntKind.i32.wrap ((((BitVec.ofInt 32 (x:Int))&&&(BitVec.ofInt 32 65534)).toNat:Nat):Int)=_
  have h1:(BitVec.ofInt 32 (x:Int)).toNat=x:=by rw [BitVec.toNat_ofInt];omega
  have h2:(BitVec.ofInt 32 65534).toNat=65534:=by decide
  rw [BitVec.toNat_and,h1,h2]
  have:=Nat.and_le_left (n:=x) (m:=65534)
  exact z_ki (by omega) (by omega)
 rw [e]
 have h:x&&&65534=(x%65536)/2*2:=by
  apply Nat.eq_of_testBit_eq
  intro i
  have h3:(x%65536)/2*2=((x%2^16)>>>1)<<<1:=by rw [Nat.shiftRight_eq_div_pow,Nat.shiftLeft_eq]
  have h4:(65534:Nat)=(2^15 - 1)<<<1:=by decide
  rw [h3,h4,Nat.testBit_and,Nat.testBit_shiftLeft,Nat.testBit_shiftLeft,Nat.testBit_shiftRight,Nat.testBit_mod_two_pow,Nat.testBit_two_pow_sub_one]
  by_cases hi:1<=i
  ·have e2:1+(i - 1)=i:=by omega
   have e3:decide (i - 1<15)=decide (i<16):=decide_eq_decide.2 (by omega)
   rw [decide_eq_true hi,e2,e3,Bool.true_and,Bool.true_and,Bool.and_comm]
  ·rw [decide_eq_false hi];simp
 rw [h]
 omega
theorem z_vb {x:Nat} (hx:x<=1114111):rbars (x:Int)=badZ (x:Int):=by
 unfold rbars badZ inSp barredL
 simp only [List.any_cons,List.any_nil,Bool.or_false]
 rw [Bool.eq_iff_iff]
 simp only [decide_eq_true_eq,Bool.or_eq_true,Bool.and_eq_true]
 rw [z_vx (by omega)]
 omega
def rbytesL (r:Nat):List UInt8:=
 if r<128 then [UInt8.ofNat r]
 else if r<2048 then [UInt8.ofNat (192+r/64),UInt8.ofNat (128+r%64)]
 else if r<65536 then [UInt8.ofNat (224+r/4096),UInt8.ofNat (128+r/64%64),UInt8.ofNat (128+r%64)]
 else [UInt8.ofNat (240+r/262144),UInt8.ofNat (128+r/4096%64),UInt8.ofNat (128+r/64%64),UInt8.ofNat (128+r%64)]
theorem low6 (y:Nat):128 ||| (UInt8.ofNat y&&&63)=UInt8.ofNat (128+y%64):=by
 have key: ∀n:_root_.Fin 256,128 ||| (UInt8.ofNat n.1&&&63)=UInt8.ofNat (128+n.1%64):=by decide+kernel
 have h:=key ⟨y%256,Nat.mod_lt _ (by decide)⟩
 have e1:UInt8.ofNat (y%256)=UInt8.ofNat y:=by apply UInt8.toNat_inj.1;simp
 simp only [e1] at h
 rw [h]
 congr 2
 omega
theorem hi2 {y:Nat} (h:y<32):192 ||| UInt8.ofNat y=UInt8.ofNat (192+y):=by
 have key: ∀n:_root_.Fin 32,192 ||| UInt8.ofNat n.1=UInt8.ofNat (192+n.1):=by decide+kernel
 exact key ⟨y,h⟩
theorem hi3 {y:Nat} (h:y<16):224 ||| UInt8.ofNat y=UInt8.ofNat (224+y):=by
 have key: ∀n:_root_.Fin 16,224 ||| UInt8.ofNat n.1=UInt8.ofNat (224+n.1):=by decide+kernel
 exact key ⟨y,h⟩
theorem hi4 {y:Nat} (h:y<8):240 ||| UInt8.ofNat y=UInt8.ofNat (240+y):=by
 have key: ∀n:_root_.Fin 8,240 ||| UInt8.ofNat n.1=UInt8.ofNat (240+n.1):=by decide+kernel
 exact key ⟨y,h⟩
theorem z_xb {r:Nat} (hr:r<=1114111):encL r=rbytesL r:=by
 unfold rbytesL
 have hf:formOf r=if r<128 then form0 else if r<2048 then ⟨2,0xe0,0xc0,0x80⟩ else if r<65536 then ⟨3,0xf0,0xe0,0x800⟩ else ⟨4,0xf8,0xf0,0x10000⟩:=by
  simp only [formOf,Nam.fms,List.foldl_cons,List.foldl_nil,pickF,Nat.zero_le,if_true]
  by_cases h1:r<128
  ·rw [if_pos h1,if_neg (by omega),if_neg (by omega),if_neg (by omega)];rfl
  ·by_cases h2:r<2048
   ·rw [if_neg h1,if_pos h2,if_neg (by omega),if_neg (by omega),if_pos (by omega)]
   ·by_cases h3:r<65536
    ·rw [if_neg h1,if_neg h2,if_pos h3,if_neg (by omega),if_pos (by omega)]
    ·rw [if_neg h1,if_neg h2,if_neg h3,if_pos (by omega)]
 unfold encL
 rw [hf]
 by_cases h1:r<128
 ·rw [if_pos h1,if_pos h1]
  show [0 ||| UInt8.ofNat (r/1)]=_
  rw [Nat.div_one,UInt8.zero_or]
 ·by_cases h2:r<2048
  ·rw [if_neg h1,if_pos h2,if_neg h1,if_pos h2]
   show [192 ||| UInt8.ofNat (r/64),128 ||| (UInt8.ofNat (r/1)&&&63)]=_
   rw [low6,hi2 (by omega),Nat.div_one]
  ·by_cases h3:r<65536
   ·rw [if_neg h1,if_neg h2,if_pos h3,if_neg h1,if_neg h2,if_pos h3]
    show [224 ||| UInt8.ofNat (r/4096),128 ||| (UInt8.ofNat (r/64)&&&63),128 ||| (UInt8.ofNat (r/1)&&&63)]=_
    rw [low6,low6,hi3 (by omega),Nat.div_one]
   ·rw [if_neg h1,if_neg h2,if_neg h3,if_neg h1,if_neg h2,if_neg h3]
    show [240 ||| UInt8.ofNat (r/262144),128 ||| (UInt8.ofNat (r/4096)&&&63),128 ||| (UInt8.ofNat (r/64)&&&63),128 ||| (UInt8.ofNat (r/1)&&&63)]=_
    rw [low6,low6,low6,hi4 (by omega),Nat.div_one]
def prepR:List Int->Option (List UInt8)
 | []=>some []
 | z::l=>if rblank z=true then (prepR l).map ([32]++ ·) else if rgoes z=true then prepR l else if rbars z=true then none else (prepR l).map (rbytesL z.toNat++ ·)
theorem z_rr: ∀(l:List Int),(∀z∈l,∃x:Nat,z=(x:Int)/\x<=1114111)->prepR l=if (l.flatMap prep1).any badZ=true then none else some ((l.flatMap prep1).flatMap encZ)
 | [],_=>rfl
 | z::l,h=>by
  obtain ⟨x,rfl,hx⟩:=h z List.mem_cons_self
  have ih:=z_rr l (fun y hy=>h y (List.mem_cons_of_mem _ hy))
  have e32:encZ 32=[32]:=by decide
  have b32:badZ 32=false:=by decide
  simp only [prepR,List.flatMap_cons,prep1]
  rw [z_ud,z_u7,ih]
  by_cases h1:inSp (x:Int) blanksL=true
  ·rw [if_pos h1,if_pos h1]
   by_cases hb:(l.flatMap prep1).any badZ=true
   ·rw [if_pos hb,if_pos (by rw [List.any_append,hb];simp)];rfl
   ·rw [if_neg hb,if_neg (by rw [List.any_append];simp only [List.any_cons,b32,List.any_nil,Bool.or_false,Bool.false_or];exact hb)]
    simp only [Option.map_some,List.flatMap_append,List.flatMap_cons,List.flatMap_nil,e32,List.append_nil]
  ·rw [if_neg h1,if_neg h1]
   by_cases h2:inSp (x:Int) nothingL=true
   ·rw [if_pos h2,if_pos h2];rfl
   ·rw [if_neg h2,if_neg h2,z_vb hx]
    by_cases h3:badZ (x:Int)=true
    ·rw [if_pos h3,if_pos (by rw [List.any_append,List.any_cons,h3];rfl)]
    ·rw [if_neg h3]
     have h3':badZ (x:Int)=false:=by simpa using h3
     by_cases hb:(l.flatMap prep1).any badZ=true
     ·rw [if_pos hb,if_pos (by rw [List.any_append,hb];simp)];rfl
     ·rw [if_neg hb,if_neg (by rw [List.any_append,List.any_cons,h3'];simpa using hb)]
      simp only [Option.map_some,List.flatMap_append,List.flatMap_cons,List.flatMap_nil,List.append_nil]
      rw [encZ,z_xb (by omega)]
theorem z_pt {l:List UInt8} (hv:validB l=true): ∀x∈runesAt l 0,∃r:Nat,x.2=(r:Int)/\Nam.sign r=true/\r<=1114111:=by
 intro x hx
 have h:=z_e6 l _ 0 (Nat.le_refl _)
 rw [List.drop_zero] at h
 have hm:x.2∈(Nam.runes l).map runeI:=by rw [<-h];exact List.mem_map.2 ⟨x,hx,rfl⟩
 obtain ⟨o,ho,he⟩:=List.mem_map.1 hm
 cases o with
 | none=>have:=List.all_eq_true.1 hv none ho;cases this
 | some r=>
  have hs:=z_oo l.length l (Nat.le_refl _) ho
  exact ⟨r,he.symm,hs,z_un hs⟩
theorem z_uX (l:List UInt8):prepF l=if validB l=true then (match prepR ((runesAt l 0).map (·.2)) with | none=>(([],5):List UInt8×Int) | some p=>(p,0)) else ([],4):=by
 unfold prepF
 by_cases hv:validB l=true
 ·rw [if_pos hv,if_pos hv]
  have h:=z_rr ((runesAt l 0).map (·.2)) (fun z hz=>by
   obtain ⟨x,hx,rfl⟩:=List.mem_map.1 hz
   obtain ⟨r,h1,_,h3⟩:=z_pt hv x hx
   exact ⟨r,h1,h3⟩)
  have e1:prepAt (runesAt l 0)=((runesAt l 0).map (·.2)).flatMap prep1:=by rw [prepAt,List.flatMap_map]
  rw [h,e1]
  split<;>rfl
 ·rw [if_neg hv,if_neg hv]
end Go.Proofs.YtloeaiafphkjnaaGreatDoor.Sx
namespace Go.Proofs.YtloeaiafphkjnaaGreatDoor.Sx
open Go
attribute [local irreducible] Calls
def okc (x:UInt8):Bool:=decide ((97<=x.toNat/\x.toNat<=122)\/(48<=x.toNat/\x.toNat<=57)\/x.toNat=45\/x.toNat=95)
def plainF (l:List UInt8):Bool:=l.all okc&&(decide (l≠[])&&decide (l.length<=32))
set_option maxHeartbeats 1000000 in
theorem z_oI (w:World) (s:ByteArray) (hl:s.size<=100000):Pu Tryz.prog z_lR #[.string s] w (.bool (plainF s.data.toList)):=by
 have g:=z_mI w (Un [])
 have hlen:s.data.toList.length=s.size:=rfl
 refine z_ac (cx:=z_gI w (Un [])) g z_pB rfl rfl (β:=Va.z) [.c (.v (.string s))] 0 [] [] rfl rfl (Sat.start rfl) ?_
 intro b c hc _
 refine z_ai 0 (fun k:Nat=>[(0,.c (.v (.string s))),(6,.c (.v (.slice (some ⟨b,0,none⟩) s.size c))),(7,.c (.v (.int .i64 s.size))),(8,.c (.v (.int .i64 (k:Int))))]) (fun _=>[]) (fun _=>[rdoF 1 (some ⟨b,0,none⟩) s.size (s.data.toList.map byte)])
  (fun k=>k<=s.size/\(s.data.toList.take k).all okc=true) (fun k=>s.size - k) 0 ⟨Nat.zero_le _,rfl⟩ (Ent.same ⟨rfl,rfl,rfl,rfl,trivial⟩ rfl) g ?_
 rintro k ⟨hk,hall⟩
 refine BIf.dec (fun hlt=>?_) (fun hge=>?_)
 ·have hlt0:(k:Int)<s.size:=hlt
  have hkl:k<s.size:=by omega
  obtain ⟨x,hx,hxm⟩:=at_lt (l:=s.data.toList) (k:=k) (by omega)
  obtain ⟨z,hz⟩: ∃z:Int,(x.toNat:Int)=z:=⟨_,rfl⟩
  have hsn:okc x=true->(s.data.toList.take (k+1)).all okc=true:=fun h=>by rw [List.take_add_one,hx,List.all_append,hall];simp [h]
  have bad:okc x=false-> ∀ {n:Nat} {H:List Bk} {F:List Fact} (β:Va) (w':World),Sat (z_gI w (Un [])) β n H F w'->Fin w [] (fun u Fs=>u= .bool (plainF s.data.toList)/\Fs=[]) (.bool false) w':=by
   intro h n H F β w' hs
   refine (hs.keepB (List.nil_sublist _)).fin [] ⟨?_,rfl⟩
   have:s.data.toList.all okc=false:=by
    rw [List.all_eq_false]
    exact ⟨x,hxm,by rw [h];decide⟩
   unfold plainF
   rw [this]
   rfl
  refine ⟨⟨b,0,none⟩,k,rfl,rfl,hkl,.int .u8 z,fun β w' hs=>by rw [<-hz];exact Rd.cell1 (u:=byte x) (hs.get 0 rfl) (by rw [List.getElem?_map,hx];rfl),?_⟩
  conv=>whnf
  generalize h1:decide ((97:Int)<=z)=b1
  cases b1 with
  | true=>
   conv=>whnf
   generalize h2:decide (z<=(122:Int))=b2
   cases b2 with
   | true=>
    refine ⟨((k+1:Nat):Int),by rw [wrap_i64 (by omega) (by omega)];rfl,?_⟩
    exact ⟨k+1,⟨hkl,hsn (by simp only [decide_eq_true_eq,decide_eq_false_iff_not] at *;simp only [okc,decide_eq_true_eq];omega)⟩,by omega,Ent.same ⟨rfl,rfl,rfl,rfl,trivial⟩ rfl⟩
   | false=>
    conv=>whnf
    generalize h3:decide ((48:Int)<=z)=b3
    cases b3 with
    | true=>
     conv=>whnf
     generalize h4:decide (z<=(57:Int))=b4
     cases b4 with
     | true=>
      refine ⟨((k+1:Nat):Int),by rw [wrap_i64 (by omega) (by omega)];rfl,?_⟩
      exact ⟨k+1,⟨hkl,hsn (by simp only [decide_eq_true_eq,decide_eq_false_iff_not] at *;simp only [okc,decide_eq_true_eq];omega)⟩,by omega,Ent.same ⟨rfl,rfl,rfl,rfl,trivial⟩ rfl⟩
     | false=>
      conv=>whnf
      generalize h5:decide (z=(45:Int))=b5
      cases b5 with
      | true=>
       refine ⟨((k+1:Nat):Int),by rw [wrap_i64 (by omega) (by omega)];rfl,?_⟩
       exact ⟨k+1,⟨hkl,hsn (by simp only [decide_eq_true_eq,decide_eq_false_iff_not] at *;simp only [okc,decide_eq_true_eq];omega)⟩,by omega,Ent.same ⟨rfl,rfl,rfl,rfl,trivial⟩ rfl⟩
      | false=>
       conv=>whnf
       generalize h6:decide (z=(95:Int))=b6
       cases b6 with
       | true=>
        refine ⟨((k+1:Nat):Int),by rw [wrap_i64 (by omega) (by omega)];rfl,?_⟩
        exact ⟨k+1,⟨hkl,hsn (by simp only [decide_eq_true_eq,decide_eq_false_iff_not] at *;simp only [okc,decide_eq_true_eq];omega)⟩,by omega,Ent.same ⟨rfl,rfl,rfl,rfl,trivial⟩ rfl⟩
       | false=>
        exact bad (by simp only [decide_eq_true_eq,decide_eq_false_iff_not] at *;simp only [okc,decide_eq_false_iff_not];omega)
    | false=>
     conv=>whnf
     generalize h5:decide (z=(45:Int))=b5
     cases b5 with
     | true=>
      refine ⟨((k+1:Nat):Int),by rw [wrap_i64 (by omega) (by omega)];rfl,?_⟩
      exact ⟨k+1,⟨hkl,hsn (by simp only [decide_eq_true_eq,decide_eq_false_iff_not] at *;simp only [okc,decide_eq_true_eq];omega)⟩,by omega,Ent.same ⟨rfl,rfl,rfl,rfl,trivial⟩ rfl⟩
     | false=>
      conv=>whnf
      generalize h6:decide (z=(95:Int))=b6
      cases b6 with
      | true=>
       refine ⟨((k+1:Nat):Int),by rw [wrap_i64 (by omega) (by omega)];rfl,?_⟩
       exact ⟨k+1,⟨hkl,hsn (by simp only [decide_eq_true_eq,decide_eq_false_iff_not] at *;simp only [okc,decide_eq_true_eq];omega)⟩,by omega,Ent.same ⟨rfl,rfl,rfl,rfl,trivial⟩ rfl⟩
      | false=>
       exact bad (by simp only [decide_eq_true_eq,decide_eq_false_iff_not] at *;simp only [okc,decide_eq_false_iff_not];omega)
  | false=>
   conv=>whnf
   generalize h3:decide ((48:Int)<=z)=b3
   cases b3 with
   | true=>
    conv=>whnf
    generalize h4:decide (z<=(57:Int))=b4
    cases b4 with
    | true=>
     refine ⟨((k+1:Nat):Int),by rw [wrap_i64 (by omega) (by omega)];rfl,?_⟩
     exact ⟨k+1,⟨hkl,hsn (by simp only [decide_eq_true_eq,decide_eq_false_iff_not] at *;simp only [okc,decide_eq_true_eq];omega)⟩,by omega,Ent.same ⟨rfl,rfl,rfl,rfl,trivial⟩ rfl⟩
    | false=>
     conv=>whnf
     generalize h5:decide (z=(45:Int))=b5
     cases b5 with
     | true=>
      refine ⟨((k+1:Nat):Int),by rw [wrap_i64 (by omega) (by omega)];rfl,?_⟩
      exact ⟨k+1,⟨hkl,hsn (by simp only [decide_eq_true_eq,decide_eq_false_iff_not] at *;simp only [okc,decide_eq_true_eq];omega)⟩,by omega,Ent.same ⟨rfl,rfl,rfl,rfl,trivial⟩ rfl⟩
     | false=>
      conv=>whnf
      generalize h6:decide (z=(95:Int))=b6
      cases b6 with
      | true=>
       refine ⟨((k+1:Nat):Int),by rw [wrap_i64 (by omega) (by omega)];rfl,?_⟩
       exact ⟨k+1,⟨hkl,hsn (by simp only [decide_eq_true_eq,decide_eq_false_iff_not] at *;simp only [okc,decide_eq_true_eq];omega)⟩,by omega,Ent.same ⟨rfl,rfl,rfl,rfl,trivial⟩ rfl⟩
      | false=>
       exact bad (by simp only [decide_eq_true_eq,decide_eq_false_iff_not] at *;simp only [okc,decide_eq_false_iff_not];omega)
   | false=>
    conv=>whnf
    generalize h5:decide (z=(45:Int))=b5
    cases b5 with
    | true=>
     refine ⟨((k+1:Nat):Int),by rw [wrap_i64 (by omega) (by omega)];rfl,?_⟩
     exact ⟨k+1,⟨hkl,hsn (by simp only [decide_eq_true_eq,decide_eq_false_iff_not] at *;simp only [okc,decide_eq_true_eq];omega)⟩,by omega,Ent.same ⟨rfl,rfl,rfl,rfl,trivial⟩ rfl⟩
    | false=>
     conv=>whnf
     generalize h6:decide (z=(95:Int))=b6
     cases b6 with
     | true=>
      refine ⟨((k+1:Nat):Int),by rw [wrap_i64 (by omega) (by omega)];rfl,?_⟩
      exact ⟨k+1,⟨hkl,hsn (by simp only [decide_eq_true_eq,decide_eq_false_iff_not] at *;simp only [okc,decide_eq_true_eq];omega)⟩,by omega,Ent.same ⟨rfl,rfl,rfl,rfl,trivial⟩ rfl⟩
     | false=>
      exact bad (by simp only [decide_eq_true_eq,decide_eq_false_iff_not] at *;simp only [okc,decide_eq_false_iff_not];omega)
 ·have hge0: ¬(k:Int)<s.size:=hge
  obtain rfl:k=s.size:=by omega
  rw [<-hlen,List.take_length] at hall
  have hpl:plainF s.data.toList=(decide (s.data.toList≠[])&&decide (s.data.toList.length<=32)):=by unfold plainF;rw [hall,Bool.true_and]
  refine BIf.not (BIf.dec (p:=s=mkS []) (fun he=>?_) (fun he=>?_))
  ·intro β w' hs
   refine (hs.keepB (List.nil_sublist _)).fin [] ⟨?_,rfl⟩
   rw [hpl,he]
   rfl
  ·have hne:s.data.toList≠[]:=fun q=>he (by
    have:s=mkS s.data.toList:=by cases s;rfl
    rw [this,q])
   intro β w' hs
   refine (hs.keepB (List.nil_sublist _)).fin [] ⟨?_,rfl⟩
   rw [hpl,decide_eq_true hne,Bool.true_and,hlen]
   show Value.bool (decide ((s.size:Int)<=32))=_
   congr 1
   exact decide_eq_decide.2 (by omega)
def nameA (s:ByteArray):ByteArray×Int:=(mkS (sizF s.data.toList 32).1,(sizF s.data.toList 32).2)
structure NamT (w:World):Prop where
 f:Forms 10 w
 s5:(spansF 8 blanksL).p w
 s6:(spansF 9 nothingL).p w
 s4:(spansF 4 barredL).p w
theorem NamT.old {W w:World} (h:NamT W) (ho:(oldF W).p w):NamT w:=⟨Forms.old h.f ho,Rd.old h.s5 ho,Rd.old h.s6 ho,Rd.old h.s4 ho⟩
theorem z_tu (w:World) (s:ByteArray) (hl:s.size<=100000) (hn:NamT w):Pu Tryz.prog z_jJ #[.string s] w (.tuple #[.string (nameA s).1,.int .i64 (nameA s).2]):=
 z_yz w s hl hn.f hn.s5 hn.s6 hn.s4
def namF:Fact:=readF [formF,spansF 8 blanksL,spansF 9 nothingL,spansF 4 barredL]
theorem z_nF {w:World} (h:namF.p w):NamT w:=⟨h formF (by simp),h (spansF 8 blanksL) (by simp),h (spansF 9 nothingL) (by simp),h (spansF 4 barredL) (by simp)⟩
def saltedN (n:Nat) (it:Int):Bool:=decide (1<=n)&&(decide (n<=32)&&(decide (1<=it)&&decide (it<=64)))
theorem z_tM (w:World) (A:Option Addr) (n c:Nat) (it:Int):Pu Tryz.prog z_kR #[.slice A n c,.int .i64 it] w (.bool (saltedN n it)):=by
 have g:=z_l9 w (Un [])
 refine z_ac (cx:=z_jj w (Un [])) g z_pf rfl rfl (β:=Va.z) [.c (.v (.slice A n c)),.c (.v (.int .i64 it))] 0 [] [] rfl rfl (Sat.start rfl) ?_
 conv=>whnf
 generalize h1:decide ((1:Int)<=(n:Int))=b1
 have e1:decide (1<=n)=b1:=by rw [<-h1];exact decide_eq_decide.2 (by omega)
 cases b1 with
 | false=>
  intro β w' hs
  refine hs.fin [] ⟨?_,rfl⟩
  unfold saltedN
  rw [e1]
  rfl
 | true=>
  conv=>whnf
  generalize h2:decide ((n:Int)<=(32:Int))=b2
  have e2:decide (n<=32)=b2:=by rw [<-h2];exact decide_eq_decide.2 (by omega)
  cases b2 with
  | false=>
   intro β w' hs
   refine hs.fin [] ⟨?_,rfl⟩
   unfold saltedN
   rw [e1,e2]
   rfl
  | true=>
   conv=>whnf
   generalize h3:decide ((1:Int)<=it)=b3
   cases b3 with
   | false=>
    intro β w' hs
    refine hs.fin [] ⟨?_,rfl⟩
    unfold saltedN
    rw [e1,e2,h3]
    rfl
   | true=>
    intro β w' hs
    refine hs.fin [] ⟨?_,rfl⟩
    unfold saltedN
    rw [e1,e2,h3]
    rfl
end Go.Proofs.YtloeaiafphkjnaaGreatDoor.Sx
namespace Go.Proofs.YtloeaiafphkjnaaGreatDoor.Sx
open Go
end Go.Proofs.YtloeaiafphkjnaaGreatDoor.Sx
namespace Go.Proofs
open Go.Shelf
def Tryz.keys126_ren:Go.Shelf.Ren:=⟨fun | 7=>126 | 10=>174 | n=>n,fun | 23=>113 | 26=>9 | 3=>144 | 28=>71 | 0=>0 | 27=>70 | 33=>135 | 4=>4 | n=>n,fun | n=>n⟩
theorem Tryz.keys126:Go.Proofs.SlLaysZ.n7 Tryz.prog Tryz.keys126_ren:= {
 mixed:=by kernel_rfl
 f7:=⟨Tryz.f126.name,by decide,Tryz.func126.trans (congrArg some (by kernel_rfl))⟩
 f10:=⟨Tryz.f174.name,by decide,Tryz.func174.trans (congrArg some (by kernel_rfl))⟩
 t0:=Tryz.underlying0
 a0:=Tryz.isAgg0
 z0:=Tryz.sizeOf0
 v0:=Tryz.zeroValue0
 t4:=Tryz.underlying4
 a4:=Tryz.isAgg4
 z4:=Tryz.sizeOf4
 v4:=Tryz.zeroValue4
 t23:=Tryz.underlying113
 a23:=Tryz.isAgg113
 z23:=Tryz.sizeOf113
 v23:=Tryz.zeroValue113
 t26:=Tryz.underlying9
 a26:=Tryz.isAgg9
 z26:=Tryz.sizeOf9
 v26:=Tryz.zeroValue9
 t27:=Tryz.underlying70
 a27:=Tryz.isAgg70
 z27:=Tryz.sizeOf70
 v27:=Tryz.zeroValue70
 t28:=Tryz.underlying71
 a28:=Tryz.isAgg71
 z28:=Tryz.sizeOf71
 v28:=Tryz.zeroValue71
 t33:=Tryz.underlying135
 a33:=Tryz.isAgg135
 z33:=Tryz.sizeOf135
 v33:=Tryz.zeroValue135}
def Tryz.sorted125_ren:Go.Shelf.Ren:=⟨fun | 6=>125 | 8=>173 | 9=>54 | 11=>212 | 13=>107 | 12=>106 | 23=>156 | 24=>157 | 14=>148 | 15=>149 | 16=>150 | 17=>151 | 18=>152 | 19=>153 | 20=>136 | 21=>154 | 22=>155 | 25=>191 | 26=>192 | 27=>193 | 28=>194 | 29=>195 | 30=>182 | 31=>226 | n=>n,fun | 26=>9 | 28=>71 | 24=>32 | 0=>0 | 3=>3 | 37=>127 | 48=>116 | 50=>50 | 4=>4 | 40=>204 | 39=>203 | 45=>150 | 5=>5 | 9=>9 | 51=>231 | 55=>234 | 57=>265 | 58=>263 | 33=>135 | n=>n,fun | n=>n⟩
theorem Tryz.sorted125:Go.Proofs.SlLaysZ.n6 Tryz.prog Tryz.sorted125_ren:= {
 mixed:=by kernel_rfl
 f6:=⟨Tryz.f125.name,by decide,Tryz.func125.trans (congrArg some (by kernel_rfl))⟩
 f8:=⟨Tryz.f173.name,by decide,Tryz.func173.trans (congrArg some (by kernel_rfl))⟩
 f11:=⟨Tryz.f212.name,by decide,Tryz.func212.trans (congrArg some (by kernel_rfl))⟩
 t0:=Tryz.underlying0
 a0:=Tryz.isAgg0
 z0:=Tryz.sizeOf0
 v0:=Tryz.zeroValue0
 t24:=Tryz.underlying32
 a24:=Tryz.isAgg32
 z24:=Tryz.sizeOf32
 v24:=Tryz.zeroValue32
 t26:=Tryz.underlying9
 a26:=Tryz.isAgg9
 z26:=Tryz.sizeOf9
 v26:=Tryz.zeroValue9
 t28:=Tryz.underlying71
 a28:=Tryz.isAgg71
 z28:=Tryz.sizeOf71
 v28:=Tryz.zeroValue71
 i26:=by kernel_rfl}
def Tryz.sort54_ren:Go.Shelf.Ren:=⟨fun | 6=>54 | 8=>107 | 9=>106 | 19=>156 | 20=>157 | 21=>148 | 22=>149 | 23=>150 | 24=>151 | 25=>152 | 26=>153 | 27=>136 | 28=>154 | 29=>155 | 36=>191 | 31=>192 | 32=>193 | 37=>194 | 38=>195 | 39=>182 | 41=>226 | n=>n,fun | 27=>32 | 29=>9 | 3=>3 | 32=>127 | 26=>32 | 0=>0 | 44=>116 | 46=>50 | 4=>4 | 36=>204 | 35=>203 | 41=>150 | 5=>5 | 9=>9 | 53=>231 | 57=>234 | 63=>265 | 64=>263 | n=>n,fun | n=>n⟩
theorem Tryz.sort54:Go.Proofs.SlLaysM.n6 Tryz.prog Tryz.sort54_ren:= {
 mixed:=by kernel_rfl
 f6:=⟨Tryz.f54.name,by decide,Tryz.func54.trans (congrArg some (by kernel_rfl))⟩
 f8:=Tryz.func107.trans (congrArg some (by kernel_rfl))
 f9:=⟨Tryz.f106.name,by decide,Tryz.func106.trans (congrArg some (by kernel_rfl))⟩
 f19:=Tryz.func156.trans (congrArg some (by kernel_rfl))
 f20:=Tryz.func157.trans (congrArg some (by kernel_rfl))
 f21:=⟨Tryz.f148.name,by decide,Tryz.func148.trans (congrArg some (by kernel_rfl))⟩
 f22:=⟨Tryz.f149.name,by decide,Tryz.func149.trans (congrArg some (by kernel_rfl))⟩
 f23:=⟨Tryz.f150.name,by decide,Tryz.func150.trans (congrArg some (by kernel_rfl))⟩
 f24:=⟨Tryz.f151.name,by decide,Tryz.func151.trans (congrArg some (by kernel_rfl))⟩
 f25:=⟨Tryz.f152.name,by decide,Tryz.func152.trans (congrArg some (by kernel_rfl))⟩
 f26:=⟨Tryz.f153.name,by decide,Tryz.func153.trans (congrArg some (by kernel_rfl))⟩
 f27:=⟨Tryz.f136.name,by decide,Tryz.func136.trans (congrArg some (by kernel_rfl))⟩
 f28:=⟨Tryz.f154.name,by decide,Tryz.func154.trans (congrArg some (by kernel_rfl))⟩
 f29:=⟨Tryz.f155.name,by decide,Tryz.func155.trans (congrArg some (by kernel_rfl))⟩
 f31:=Tryz.func192.trans (congrArg some (by kernel_rfl))
 f32:=Tryz.func193.trans (congrArg some (by kernel_rfl))
 f36:=⟨Tryz.f191.name,by decide,Tryz.func191.trans (congrArg some (by kernel_rfl))⟩
 f37:=⟨Tryz.f194.name,by decide,Tryz.func194.trans (congrArg some (by kernel_rfl))⟩
 f38:=⟨Tryz.f195.name,by decide,Tryz.func195.trans (congrArg some (by kernel_rfl))⟩
 f39:=⟨Tryz.f182.name,by decide,Tryz.func182.trans (congrArg some (by kernel_rfl))⟩
 f41:=⟨Tryz.f226.name,by decide,Tryz.func226.trans (congrArg some (by kernel_rfl))⟩
 t0:=Tryz.underlying0
 a0:=Tryz.isAgg0
 z0:=Tryz.sizeOf0
 v0:=Tryz.zeroValue0
 t3:=Tryz.underlying3
 a3:=Tryz.isAgg3
 z3:=Tryz.sizeOf3
 v3:=Tryz.zeroValue3
 t4:=Tryz.underlying4
 a4:=Tryz.isAgg4
 z4:=Tryz.sizeOf4
 v4:=Tryz.zeroValue4
 t5:=Tryz.underlying5
 a5:=Tryz.isAgg5
 z5:=Tryz.sizeOf5
 v5:=Tryz.zeroValue5
 t9:=Tryz.underlying9
 a9:=Tryz.isAgg9
 z9:=Tryz.sizeOf9
 v9:=Tryz.zeroValue9
 t26:=Tryz.underlying32
 a26:=Tryz.isAgg32
 z26:=Tryz.sizeOf32
 v26:=Tryz.zeroValue32
 t27:=Tryz.underlying32
 a27:=Tryz.isAgg32
 z27:=Tryz.sizeOf32
 v27:=Tryz.zeroValue32
 t29:=Tryz.underlying9
 a29:=Tryz.isAgg9
 z29:=Tryz.sizeOf9
 v29:=Tryz.zeroValue9
 t32:=Tryz.underlying127
 a32:=Tryz.isAgg127
 z32:=Tryz.sizeOf127
 v32:=Tryz.zeroValue127
 t35:=Tryz.underlying203
 a35:=Tryz.isAgg203
 z35:=Tryz.sizeOf203
 v35:=Tryz.zeroValue203
 t36:=Tryz.underlying204
 a36:=Tryz.isAgg204
 z36:=Tryz.sizeOf204
 v36:=Tryz.zeroValue204
 t41:=Tryz.underlying150
 a41:=Tryz.isAgg150
 z41:=Tryz.sizeOf150
 v41:=Tryz.zeroValue150
 t44:=Tryz.underlying116
 a44:=Tryz.isAgg116
 z44:=Tryz.sizeOf116
 v44:=Tryz.zeroValue116
 t46:=Tryz.underlying50
 a46:=Tryz.isAgg50
 z46:=Tryz.sizeOf50
 v46:=Tryz.zeroValue50
 t53:=Tryz.underlying231
 a53:=Tryz.isAgg231
 z53:=Tryz.sizeOf231
 v53:=Tryz.zeroValue231
 t57:=Tryz.underlying234
 a57:=Tryz.isAgg234
 z57:=Tryz.sizeOf234
 v57:=Tryz.zeroValue234
 t63:=Tryz.underlying265
 a63:=Tryz.isAgg265
 z63:=Tryz.sizeOf265
 v63:=Tryz.zeroValue265
 t64:=Tryz.underlying263
 a64:=Tryz.isAgg263
 z64:=Tryz.sizeOf263
 v64:=Tryz.zeroValue263}
def Tryz.keys128_ren:Go.Shelf.Ren:=⟨fun | 7=>128 | 10=>175 | n=>n,fun | 23=>144 | 26=>9 | 3=>146 | 28=>71 | 0=>0 | 27=>70 | 33=>135 | 4=>4 | n=>n,fun | n=>n⟩
theorem Tryz.keys128:Go.Proofs.SlLaysZ.n7 Tryz.prog Tryz.keys128_ren:= {
 mixed:=by kernel_rfl
 f7:=⟨Tryz.f128.name,by decide,Tryz.func128.trans (congrArg some (by kernel_rfl))⟩
 f10:=⟨Tryz.f175.name,by decide,Tryz.func175.trans (congrArg some (by kernel_rfl))⟩
 t0:=Tryz.underlying0
 a0:=Tryz.isAgg0
 z0:=Tryz.sizeOf0
 v0:=Tryz.zeroValue0
 t4:=Tryz.underlying4
 a4:=Tryz.isAgg4
 z4:=Tryz.sizeOf4
 v4:=Tryz.zeroValue4
 t23:=Tryz.underlying144
 a23:=Tryz.isAgg144
 z23:=Tryz.sizeOf144
 v23:=Tryz.zeroValue144
 t26:=Tryz.underlying9
 a26:=Tryz.isAgg9
 z26:=Tryz.sizeOf9
 v26:=Tryz.zeroValue9
 t27:=Tryz.underlying70
 a27:=Tryz.isAgg70
 z27:=Tryz.sizeOf70
 v27:=Tryz.zeroValue70
 t28:=Tryz.underlying71
 a28:=Tryz.isAgg71
 z28:=Tryz.sizeOf71
 v28:=Tryz.zeroValue71
 t33:=Tryz.underlying135
 a33:=Tryz.isAgg135
 z33:=Tryz.sizeOf135
 v33:=Tryz.zeroValue135}
end Go.Proofs
namespace Go.Proofs.YtloeaiafphkjnaaGreatDoor.Sx
open Go
attribute [local irreducible] Calls
def strs (l:List ByteArray):List Value:=l.map Value.string
theorem z_cU (l:List ByteArray): ∀u∈strs l,u.oneCell'=true:=by
 intro u hu
 obtain ⟨x,_,rfl⟩:=List.mem_map.1 hu
 rfl
theorem z_cX (l:List ByteArray):(strs l).length=l.length:=by simp [strs]
abbrev srowF (A:Option Addr) (l:List ByteArray) (c:Nat):Fact:=rowF z_ag 1 (.slice A l.length c) l.length (strs l)
end Go.Proofs.YtloeaiafphkjnaaGreatDoor.Sx
namespace Go.Proofs.YtloeaiafphkjnaaGreatDoor.Sx
open Go
attribute [local irreducible] Calls
structure Ro where
 A:Option Addr
 c:Nat
 l:List UInt8
 hc:l.length<=c
def Ro.v (r:Ro):Value:= .slice r.A r.l.length r.c
def Ro.f (r:Ro):Fact:=rdoF 1 r.A r.l.length (r.l.map byte)
theorem browRo {e:Nat} {A:Option Addr} {l:List UInt8} {c:Nat} {w:World} (h:(browF e A l c).p w):(rdoF 1 A l.length (l.map byte)).p w:=z_an h
theorem browRoD {e:Nat} {A:Option Addr} {l:List UInt8} {c:Nat} {w:World} (h:(browF e A l c).p w): ∀k,(rdoF 1 A l.length (l.map byte)).D k->(browF e A l c).D k:=by
 rintro k ⟨hk,ad,q,rfl⟩
 have hl:0<l.length:=by
  have:0<l.length*1:=hk
  omega
 have q':A=some ad:=q
 rcases h.2 with ⟨he,h0⟩ | ⟨g,cap,cur,he,_⟩
 ·omega
 ·have hA:A=some ⟨g,0,none⟩:=by injection he
  rw [q'] at hA
  obtain rfl:=Option.some.inj hA
  show Value.ownBlock (.slice A l.length c)=_
  rw [q']
  rfl
inductive Recs (w':World):List Fact->List Fact->Prop
 | nil:Recs w' [] []
 | cons {f g:Fact} {Fs Gs:List Fact} (h:g.own=true/\(f.p w'->g.p w')/\ ∀k,g.D k->f.D k) (r:Recs w' Fs Gs):Recs w' (f::Fs) (g::Gs)
theorem Fin.recast {w:World} {Gs:List Fact} {R R':Value->List Fact->Prop} {v:Value} {w':World} (h:Fin w Gs R v w')
  (hr: ∀Fs,R v Fs->(∀f∈Fs,f.p w')-> ∃Fs',R' v Fs'/\Recs w' Fs Fs'):Fin w Gs R' v w':=by
 obtain ⟨Fs,h1,h2,h3,h4,h5⟩:=h
 obtain ⟨Fs',q1,q2⟩:=hr Fs h1 h3.fact
 have key: ∀ {Fs Fs':List Fact},Recs w' Fs Fs'->Mem w' Fs->Owns Fs->Mem w' Fs'/\Owns Fs'/\ ∀g∈Fs',∃f∈Fs,∀k,g.D k->f.D k:=by
  intro Fs Fs' hf
  induction hf with
  | nil=>intro _ _;exact ⟨⟨fun _ q=>(by cases q),fun _ q=>(by cases q),List.Pairwise.nil⟩,trivial,fun _ q=>(by cases q)⟩
  | @cons f g Fs Fs' hfg hrest ih=>
   intro hm ho
   obtain ⟨i1,i2,i3⟩:=ih ⟨fun x hx=>hm.fact x (List.mem_cons_of_mem _ hx),fun x hx=>hm.flt x (List.mem_cons_of_mem _ hx),(List.pairwise_cons.1 hm.sepf).2⟩ ho.2
   refine ⟨⟨fun x hx=>?_,fun x hx k hk=>?_,List.pairwise_cons.2 ⟨fun x hx _ k hk hk'=>?_,i1.sepf⟩⟩,⟨hfg.1,i2⟩,fun x hx=>?_⟩
   ·rcases List.mem_cons.1 hx with rfl | hx
    ·exact hfg.2.1 (hm.fact f List.mem_cons_self)
    ·exact i1.fact x hx
   ·rcases List.mem_cons.1 hx with rfl | hx
    ·exact hm.flt f List.mem_cons_self k (hfg.2.2 k hk)
    ·exact i1.flt x hx k hk
   ·obtain ⟨y,hy,hyd⟩:=i3 x hx
    exact (List.pairwise_cons.1 hm.sepf).1 y hy (.inl ho.1) k (hfg.2.2 k hk) (hyd k hk')
   ·rcases List.mem_cons.1 hx with rfl | hx
    ·exact ⟨f,List.mem_cons_self,hfg.2.2⟩
    ·obtain ⟨y,hy,hyd⟩:=i3 x hx
     exact ⟨y,List.mem_cons_of_mem _ hy,hyd⟩
 obtain ⟨k1,k2,k3⟩:=key q2 h3 h4
 exact ⟨Fs',q1,h2,k1,k2,fun g hg k hk=>by obtain ⟨f,hf,hfd⟩:=k3 g hg;exact h5 f hf k (hfd k hk)⟩
theorem z_kh (w:World) (A:Option Addr) (l:List UInt8) (n c:Nat) (hn:n=l.length) (hr:Bs w A l) (hl:l.length<=1000000):
  Con Tryz.prog z_f4 #[.slice A n c] w [] fun v Fs=> ∃r:Ro,r.l=l/\v=r.v/\Fs=[r.f]:=by
 subst hn
 refine Calls.mono (z_qM w A l c hr (by omega)) ?_
 rintro e w' ⟨v,rfl,hf⟩
 refine ⟨v,rfl,hf.recast ?_⟩
 rintro Fs ⟨A',c',rfl,hc,_,rfl⟩ hp
 have hp0:=hp _ List.mem_cons_self
 exact ⟨[Ro.f ⟨A',c',l,hc⟩],⟨⟨A',c',l,hc⟩,rfl,rfl,rfl⟩,.cons ⟨rfl,fun h=>browRo h,browRoD hp0⟩ .nil⟩
theorem Un.app {A B:List Fact} {k:Nat}:Un (A++B) k↔Un A k\/Un B k:=by
 unfold Un
 constructor
 ·rintro ⟨g,hg,hk⟩
  rcases List.mem_append.1 hg with h | h
  ·exact .inl ⟨g,h,hk⟩
  ·exact .inr ⟨g,h,hk⟩
 ·rintro (⟨g,hg,hk⟩ | ⟨g,hg,hk⟩)
  ·exact ⟨g,List.mem_append_left _ hg,hk⟩
  ·exact ⟨g,List.mem_append_right _ hg,hk⟩
theorem Un.cons {x:Fact} {B:List Fact} {k:Nat}:Un (x::B) k↔x.D k\/Un B k:=by
 unfold Un
 constructor
 ·rintro ⟨g,hg,hk⟩
  rcases List.mem_cons.1 hg with rfl | h
  ·exact .inl hk
  ·exact .inr ⟨g,h,hk⟩
 ·rintro (hk | ⟨g,hg,hk⟩)
  ·exact ⟨x,List.mem_cons_self,hk⟩
  ·exact ⟨g,List.mem_cons_of_mem _ hg,hk⟩
theorem sep_mid {A B:List Fact} {x:Fact} {w:World}:(sepF (A++x::B)).p w↔x.p w/\(sepF (A++B)).p w/\ ∀k,x.D k-> ¬Un (A++B) k:=by
 show ((∀f∈A++x::B,f.p w)/\(A++x::B).Pairwise _)↔x.p w/\((∀f∈A++B,f.p w)/\(A++B).Pairwise _)/\_
 rw [List.pairwise_append,List.pairwise_cons,List.pairwise_append]
 constructor
 ·rintro ⟨h1,h2,⟨h3,h4⟩,h5⟩
  refine ⟨h1 x (by simp),⟨fun f hf=>h1 f ?_,h2,h4,fun a ha b hb=>h5 a ha b (List.mem_cons_of_mem _ hb)⟩,fun k hk q=>?_⟩
  ·rcases List.mem_append.1 hf with h | h
   ·exact List.mem_append_left _ h
   ·exact List.mem_append_right _ (List.mem_cons_of_mem _ h)
  ·rcases Un.app.1 q with ⟨g,hg,hk'⟩ | ⟨g,hg,hk'⟩
   ·exact h5 g hg x List.mem_cons_self k hk' hk
   ·exact h3 g hg k hk hk'
 ·rintro ⟨h1,⟨h2,h3,h4,h5⟩,h6⟩
  refine ⟨fun f hf=>?_,h3,⟨fun g hg k hk hk'=>h6 k hk (Un.app.2 (.inr ⟨g,hg,hk'⟩)),h4⟩,fun a ha b hb k hk hk'=>?_⟩
  ·rcases List.mem_append.1 hf with h | h
   ·exact h2 f (List.mem_append_left _ h)
   ·rcases List.mem_cons.1 h with rfl | h
    ·exact h1
    ·exact h2 f (List.mem_append_right _ h)
  ·rcases List.mem_cons.1 hb with rfl | hb
   ·exact h6 k hk' (Un.app.2 (.inl ⟨a,ha,hk⟩))
   ·exact h5 a ha b hb k hk hk'
section
variable {cx:Cx} {β:Va} {n:Nat} {H:List Bk} {F:List Fact} {w:World}
theorem Sat.focus (h:Sat cx β n H F w) (j:Nat) {A B:List Fact} {x:Fact} (hj:nth F j=some (sepF (A++x::B))) (hx:x.own=true):Sat cx β n H (x::sepF (A++B)::dropIx [j] 0 F) w:=by
 have hp:=sep_mid.1 (h.get j hj)
 have hl:=h.getLt j hj
 have htk:takeIx F [j]=[sepF (A++x::B)]:=by simp only [takeIx,hj]
 have hin: ∀k,x.D k\/Un (A++B) k->Un (A++x::B) k:=by
  intro k hk
  rcases hk with hk | hk
  ·exact Un.app.2 (.inr (Un.cons.2 (.inl hk)))
  ·rcases Un.app.1 hk with hk | hk
   ·exact Un.app.2 (.inl hk)
   ·exact Un.app.2 (.inr (Un.cons.2 (.inr hk)))
 refine h.swap [j] (by rw [htk];exact ⟨rfl,trivial⟩) (Fs:=[x,sepF (A++B)]) (Chg.refl _ _) ⟨fun f hf=>?_,fun f hf k hk=>?_,?_⟩ (fun f hf k hk=>?_)
 ·simp only [List.mem_cons,List.not_mem_nil,or_false] at hf
  rcases hf with rfl | rfl
  ·exact hp.1
  ·exact hp.2.1
 ·simp only [List.mem_cons,List.not_mem_nil,or_false] at hf
  rcases hf with rfl | rfl
  ·exact hl k (hin k (.inl hk))
  ·exact hl k (hin k (.inr hk))
 ·refine List.pairwise_cons.2 ⟨fun f hf _ k hk=>?_,List.pairwise_singleton _ _⟩
  obtain rfl:=List.mem_singleton.1 hf
  exact hp.2.2 k hk
 ·rw [htk]
  simp only [List.mem_cons,List.not_mem_nil,or_false] at hf
  refine .inl ⟨_,List.mem_singleton.2 rfl,?_⟩
  rcases hf with rfl | rfl
  ·exact hin k (.inl hk)
  ·exact hin k (.inr hk)
theorem Sat.blur (h:Sat cx β n H F w) (i j:Nat) {A B:List Fact} {x:Fact} (hi:nth F i=some x) (hj:nth F j=some (sepF (A++B))) (hx:x.own=true) (hne:i≠j):Sat cx β n H (sepF (A++x::B)::dropIx [i,j] 0 F) w:=by
 have h1:=h.get i hi
 have h2:=h.get j hj
 have ap:=h.apart (i:=i) (j:=j) (by rw [<-z_aB];exact hi) (by rw [<-z_aB];exact hj) hne (.inl hx)
 have htk:takeIx F [i,j]=[x,sepF (A++B)]:=by simp only [takeIx,hi,hj]
 have hin: ∀k,Un (A++x::B) k->x.D k\/Un (A++B) k:=by
  intro k hk
  rcases Un.app.1 hk with hk | hk
  ·exact .inr (Un.app.2 (.inl hk))
  ·rcases Un.cons.1 hk with hk | hk
   ·exact .inl hk
   ·exact .inr (Un.app.2 (.inr hk))
 refine h.swap [i,j] (by rw [htk];exact ⟨hx,rfl,trivial⟩) (Fs:=[sepF (A++x::B)]) (Chg.refl _ _) ⟨fun f hf=>?_,fun f hf k hk=>?_,List.pairwise_singleton _ _⟩ (fun f hf k hk=>?_)
 ·obtain rfl:=List.mem_singleton.1 hf
  exact sep_mid.2 ⟨h1,h2,ap⟩
 ·obtain rfl:=List.mem_singleton.1 hf
  rcases hin k hk with q | q
  ·exact h.getLt i hi k q
  ·exact h.getLt j hj k q
 ·obtain rfl:=List.mem_singleton.1 hf
  rw [htk]
  rcases hin k hk with q | q
  ·exact .inl ⟨x,List.mem_cons_self,q⟩
  ·exact .inl ⟨_,List.mem_cons_of_mem _ List.mem_cons_self,q⟩
end
end Go.Proofs.YtloeaiafphkjnaaGreatDoor.Sx
namespace Go.Proofs.YtloeaiafphkjnaaGreatDoor.Sx
open Go
structure ASec where
 salt:List UInt8
 iter:Int
 stored:List UInt8
 server:List UInt8
 ha1:List UInt8
structure ACrd where
 tenant:ByteArray
 user:ByteArray
 sec:ASec
 gen:Nat
 roles:List ByteArray
 revoked:Bool
abbrev ATs:=List (ByteArray×List ACrd)
structure ASto where
 ts:ATs
 last:Nat
 reads:Int
def aten:ATs->ByteArray->Option (List ACrd)
 | [],_=>none
 | (k,us)::r,t=>if k=t then some us else aten r t
def ausr:List ACrd->ByteArray->Option ACrd
 | [],_=>none
 | c::r,n=>if c.user=n then some c else ausr r n
def atenU:ATs->ByteArray->(List ACrd->List ACrd)->ATs
 | [],_,_=>[]
 | (k,us)::r,t,f=>if k=t then (k,f us)::r else (k,us)::atenU r t f
def ausrU:List ACrd->ByteArray->(ACrd->ACrd)->List ACrd
 | [],_,_=>[]
 | c::r,n,f=>if c.user=n then f c::r else c::ausrU r n f
def atenD:ATs->ByteArray->ATs
 | [],_=>[]
 | (k,us)::r,t=>if k=t then r else (k,us)::atenD r t
def ausrD:List ACrd->ByteArray->List ACrd
 | [],_=>[]
 | c::r,n=>if c.user=n then r else c::ausrD r n
def aget (X:ASto) (t n:ByteArray):Option ACrd:=(aten X.ts t).bind fun us=>ausr us n
def aone (X:ASto) (t u:ByteArray):Option ACrd:=if (nameA u).2=0 then aget X t (nameA u).1 else none
def saltedA (l:List UInt8) (iter:Int):Bool:=decide (1<=l.length)&&(decide (l.length<=32)&&(decide (1<=iter)&&decide (iter<=64)))
def rightA (x:ASec):Bool:=saltedA x.salt x.iter&&(decide (x.stored.length=32)&&(decide (x.server.length=32)&&decide (x.ha1.length=32)))
def greatN:Nat:=9007199254740992
structure Sec where
 salt:Ro
 iter:Int
 stored:Ro
 server:Ro
 ha1:Ro
def Sec.vs (x:Sec):List Value:=[x.salt.v,.int .i64 x.iter,x.stored.v,x.server.v,x.ha1.v]
def Sec.fs (x:Sec):List Fact:=[x.salt.f,x.stored.f,x.server.f,x.ha1.f]
def Sec.a (x:Sec):ASec:=⟨x.salt.l,x.iter,x.stored.l,x.server.l,x.ha1.l⟩
def strsF (A:Option Addr) (l:List ByteArray):Fact:=rdoF 1 A l.length (l.map Value.string)
structure Crd where
 b:Nat
 tenant:ByteArray
 user:ByteArray
 sec:Sec
 gen:Nat
 rA:Option Addr
 rc:Nat
 roles:List ByteArray
 revoked:Bool
def Crd.vs (c:Crd):List Value:= .string c.tenant:: .string c.user::(c.sec.vs++[.int .u64 c.gen,.slice c.rA c.roles.length c.rc,.bool c.revoked])
def Crd.parts (c:Crd):List Fact:=strsF c.rA c.roles::c.sec.fs
def Crd.fs (c:Crd):List Fact:=bkF c.b z_ak c.vs::c.parts
def Crd.a (c:Crd):ACrd:=⟨c.tenant,c.user,c.sec.a,c.gen,c.roles,c.revoked⟩
def crdF (c:Crd):Fact:=sepF c.fs
def ptr (b:Nat):Value:= .pointer (some ⟨b,0,none⟩)
structure Ten where
 b:Nat
 name:ByteArray
 us:List Crd
def Ten.m (T:Ten):ML:=T.us.map fun c=>(c.user,ptr c.b)
def tenF (T:Ten):Fact:=sepF [mapF T.b T.m,sepF (T.us.map crdF)]
def Ten.a (T:Ten):ByteArray×List ACrd:=(T.name,T.us.map Crd.a)
structure Sto where
 b:Nat
 m:Nat
 ts:List Ten
 last:Nat
 reads:Int
def Sto.vs (S:Sto):List Value:=[.map (some S.m),.int .u64 (S.last:Int),.int .u64 S.reads]
def Sto.ml (S:Sto):ML:=S.ts.map fun T=>(T.name,.map (some T.b))
def stoF (S:Sto):Fact:=sepF [bkF S.b z_am S.vs,mapF S.m S.ml,sepF (S.ts.map tenF)]
def Sto.a (S:Sto):ASto:=⟨S.ts.map Ten.a,S.last,S.reads⟩
def tenO:List Ten->ByteArray->Option Ten
 | [],_=>none
 | T::r,t=>if T.name=t then some T else tenO r t
def crdO:List Crd->ByteArray->Option Crd
 | [],_=>none
 | c::r,n=>if c.user=n then some c else crdO r n
theorem z_cW (t:ByteArray): ∀ts:List Ten,(∃A T B,ts=A++T::B/\tenO ts t=some T/\T.name=t/\mlook (ts.map fun T=>(T.name,Value.map (some T.b))) t=some (.map (some T.b))/\aten (ts.map Ten.a) t=some (T.us.map Crd.a)/\
   (∀T':Ten,∀f,T'.name=t->T'.us.map Crd.a=f (T.us.map Crd.a)->(A++T'::B).map Ten.a=atenU (ts.map Ten.a) t f)/\(A++B).map Ten.a=atenD (ts.map Ten.a) t/\(A++B).map (fun T:Ten=>(T.name,Value.map (some T.b)))=mdel (ts.map fun T=>(T.name,Value.map (some T.b))) t)\/
  (mlook (ts.map fun T=>(T.name,Value.map (some T.b))) t=none/\aten (ts.map Ten.a) t=none/\tenO ts t=none)
 | []=> .inr ⟨rfl,rfl,rfl⟩
 | T::r=>by
  by_cases h:T.name=t
  ·refine .inl ⟨[],T,r,rfl,by simp [tenO,h],h,?_,?_,?_,?_,?_⟩
   ·simp [mlook,h]
   ·simp [aten,Ten.a,h]
   ·intro T' f h1 h2
    simp [atenU,Ten.a,h,h1,h2]
   ·simp [atenD,Ten.a,h]
   ·simp [mdel,h]
  ·rcases z_cW t r with ⟨A,T0,B,rfl,h0,h1,h2,h3,h4,h5,h6⟩ | ⟨h1,h2,h3⟩
   ·refine .inl ⟨T::A,T0,B,rfl,by simpa [tenO,h] using h0,h1,?_,?_,?_,?_,?_⟩
    ·simpa [mlook,h] using h2
    ·simpa [aten,Ten.a,h] using h3
    ·intro T' f q1 q2
     have:=h4 T' f q1 q2
     simp only [List.cons_append,List.map_cons,Ten.a,atenU,if_neg h] at this ⊢
     rw [this]
    ·simp only [List.cons_append,List.map_cons,Ten.a,atenD,if_neg h] at h5 ⊢
     rw [h5]
    ·simp only [List.cons_append,List.map_cons,mdel,if_neg h] at h6 ⊢
     rw [h6]
   ·refine .inr ⟨?_,?_,?_⟩
    ·simpa [mlook,h] using h1
    ·simpa [aten,Ten.a,h] using h2
    ·simpa [tenO,h] using h3
theorem z_iz (n:ByteArray): ∀us:List Crd,(∃A c B,us=A++c::B/\crdO us n=some c/\c.user=n/\mlook (us.map fun c=>(c.user,ptr c.b)) n=some (ptr c.b)/\ausr (us.map Crd.a) n=some c.a/\
   (∀c':Crd,∀f,c'.user=n->c'.a=f c.a->(A++c'::B).map Crd.a=ausrU (us.map Crd.a) n f)/\(A++B).map Crd.a=ausrD (us.map Crd.a) n/\(A++B).map (fun c:Crd=>(c.user,ptr c.b))=mdel (us.map fun c=>(c.user,ptr c.b)) n/\
   (∀c':Crd,c'.user=n->c'.b=c.b->(A++c'::B).map (fun c:Crd=>(c.user,ptr c.b))=us.map fun c=>(c.user,ptr c.b)))\/
  (mlook (us.map fun c=>(c.user,ptr c.b)) n=none/\ausr (us.map Crd.a) n=none/\crdO us n=none)
 | []=> .inr ⟨rfl,rfl,rfl⟩
 | c::r=>by
  by_cases h:c.user=n
  ·refine .inl ⟨[],c,r,rfl,by simp [crdO,h],h,?_,?_,?_,?_,?_,?_⟩
   ·simp [mlook,h]
   ·simp [ausr,Crd.a,h]
   ·intro c' f h1 h2
    have h0:c.a.user=n:=h
    simp [ausrU,h0,h2]
   ·simp [ausrD,Crd.a,h]
   ·simp [mdel,h]
   ·intro c' h1 h2
    simp [h1,h2,h]
  ·have h0: ¬c.a.user=n:=h
   rcases z_iz n r with ⟨A,c0,B,rfl,h8,h1,h2,h3,h4,h5,h6,h7⟩ | ⟨h1,h2,h3⟩
   ·refine .inl ⟨c::A,c0,B,rfl,by simpa [crdO,h] using h8,h1,?_,?_,?_,?_,?_,?_⟩
    ·simpa [mlook,h] using h2
    ·simp only [List.map_cons,ausr,if_neg h0];exact h3
    ·intro c' f q1 q2
     have:=h4 c' f q1 q2
     simp only [List.cons_append,List.map_cons,ausrU,if_neg h0] at this ⊢
     rw [this]
    ·simp only [List.cons_append,List.map_cons,ausrD,if_neg h0] at h5 ⊢
     rw [h5]
    ·simp only [List.cons_append,List.map_cons,mdel,if_neg h] at h6 ⊢
     rw [h6]
    ·intro c' q1 q2
     have:=h7 c' q1 q2
     simp only [List.cons_append,List.map_cons] at this ⊢
     rw [this]
   ·refine .inr ⟨?_,?_,?_⟩
    ·simpa [mlook,h] using h1
    ·simp only [List.map_cons,ausr,if_neg h0];exact h2
    ·simpa [crdO,h] using h3
end Go.Proofs.YtloeaiafphkjnaaGreatDoor.Sx
namespace Go.Proofs.YtloeaiafphkjnaaGreatDoor.Sx
open Go
attribute [local irreducible] Calls
theorem z_bt {f:Fact} {W w:World} (h:f.p W) (hD: ∀k,f.D k->k<W.heap.size) (ho:(oldF W).p w):f.p w:=f.st W w (fun k hk=>ho k (hD k hk)) h
theorem z_gX {S:Sto} {w:World} (h:(stoF S).p w):(bkF S.b z_am S.vs).p w:=h.1 _ (by simp)
theorem z_mC {S:Sto} {w:World} (h:(stoF S).p w):mapP S.m S.ml w:=h.1 (mapF S.m S.ml) (by simp)
theorem z_jV {S:Sto} {w:World} (h:(stoF S).p w) {A B:List Ten} {T:Ten} (hT:S.ts=A++T::B):(tenF T).p w:=by
 have h1:(sepF (S.ts.map tenF)).p w:=h.1 _ (by simp)
 exact h1.1 _ (by rw [hT];simp)
theorem z_nP {T:Ten} {w:World} (h:(tenF T).p w):mapP T.b T.m w:=h.1 (mapF T.b T.m) (by simp)
theorem z_tc {T:Ten} {w:World} (h:(tenF T).p w) {A B:List Crd} {c:Crd} (hc:T.us=A++c::B):(crdF c).p w:=by
 have h1:(sepF (T.us.map crdF)).p w:=h.1 _ (by simp)
 exact h1.1 _ (by rw [hc];simp)
theorem z_wP {c:Crd} {w:World} (h:(crdF c).p w):(bkF c.b z_ak c.vs).p w:=h.1 _ (by simp [Crd.fs])
theorem bkc {b ty:Nat} {cs:List Value} {w:World} (h:(bkF b ty cs).p w) {o:Nat} {v:Value} (ho:cs[o]?=some v):w.cell? ⟨b,o,none⟩=some v:=by
 have h':w.heap[b]?=some (.cells cs.toArray ty (0,0)):=h
 rw [cell_of_row w b o _ _ _ h']
 simpa using ho
def mapV:Option Ten->Value
 | some T=> .map (some T.b)
 | none=> .map none
def crdV:Option Crd->Value
 | some c=>ptr c.b
 | none=> .pointer none
def Sto.usr (S:Sto) (t u:ByteArray):Option Crd:=if (nameA u).2=0 then (tenO S.ts t).bind fun T=>crdO T.us (nameA u).1 else none
theorem z_rs (w:World):(zeroValue z_aS).run Tryz.prog w= .ok (.map none) w:=by kernel_rfl
theorem z_h4 (w:World):(zeroValue z_mk).run Tryz.prog w= .ok (.pointer none) w:=by kernel_rfl
theorem z_hV (w:World) (S:Sto) (t:ByteArray) (h:(stoF S).p w) (hl: ∀k,(stoF S).D k->k<w.heap.size):Pu Tryz.prog z_eX #[ptr S.b,.string t] w (mapV (tenO S.ts t)):=by
 have g:=z_hp w (Un [])
 refine z_ac (cx:=z_ez w (Un [])) g z_k2 rfl rfl (β:=Va.z) [.c (.v (ptr S.b)),.c (.v (.string t))] 0 [] [oldF w] rfl rfl (z_ay rfl) ?_
 refine ⟨.map (some S.m),fun β w' hs=>bkc (z_gX (z_bt h hl (hs.get 0 rfl))) rfl,?_⟩
 refine ⟨.map none,fun w=>z_rs w,S.ml,mlook S.ml t,fun β w' hs=>z_mC (z_bt h hl (hs.get 0 rfl)),rfl,?_⟩
 rcases z_cW t S.ts with ⟨A,T,B,e,h0,h1,h2,_⟩ | ⟨h1,h2,h3⟩
 ·rw [show mlook S.ml t=_ from h2,h0]
  intro β w' hs
  exact hs.fin [] ⟨rfl,rfl⟩
 ·rw [show mlook S.ml t=_ from h1,h3]
  intro β w' hs
  exact hs.fin [] ⟨rfl,rfl⟩
theorem get_c (w:World) (S:Sto) (t u:ByteArray) (h:(stoF S).p w) (hl: ∀k,(stoF S).D k->k<w.heap.size) (hu:u.size<=100000) (hn:NamT w):Pu Tryz.prog z_gS #[ptr S.b,.string t,.string u] w (crdV (S.usr t u)):=by
 have g:=z_jH w (Un [])
 refine z_ac (cx:=z_f1 w (Un [])) g z_mh rfl rfl (β:=Va.z) [.c (.v (ptr S.b)),.c (.v (.string t)),.c (.v (.string u))] 0 [] [oldF w] rfl rfl (z_ay rfl) ?_
 obtain ⟨p,e,hpe⟩: ∃p e,nameA u=(p,e):=⟨_,_,rfl⟩
 refine z_ae (v:= .tuple #[.string p,.int .i64 e]) (fun β w' hs=>by
  have h:=z_tu w' u hu (hn.old (hs.get 0 rfl))
  rw [hpe] at h
  exact h) ?_
 have hus:S.usr t u=if e=0 then (tenO S.ts t).bind fun T=>crdO T.us p else none:=by unfold Sto.usr;rw [hpe]
 refine BIf.not (BIf.dec (fun he=>?_) (fun he=>?_))
 ·have he0:e=0:=he
  rw [if_pos he0] at hus
  rcases z_cW t S.ts with ⟨A,T,B,eT,h0,h1,h2,_⟩ | ⟨h1,h2,h3⟩
  ·refine z_ae (v:= .map (some T.b)) (fun β w' hs=>by
    have h:=z_hV w' S t (z_bt h hl (hs.get 0 rfl)) (fun k hk=>Nat.lt_of_lt_of_le (hl k hk) hs.chg.size)
    rw [h0] at h
    exact h) ?_
   refine ⟨.pointer none,fun w=>z_h4 w,T.m,mlook T.m p,fun β w' hs=>z_nP (z_jV (z_bt h hl (hs.get 0 rfl)) eT),rfl,?_⟩
   rw [h0] at hus
   rcases z_iz p T.us with ⟨U,c,V,eU,q0,q1,q2,_⟩ | ⟨q1,q2,q3⟩
   ·rw [show mlook T.m p=_ from q2]
    intro β w' hs
    refine hs.fin [] ⟨?_,rfl⟩
    rw [hus]
    show _=crdV (crdO T.us p)
    rw [q0]
    rfl
   ·rw [show mlook T.m p=_ from q1]
    intro β w' hs
    refine hs.fin [] ⟨?_,rfl⟩
    rw [hus]
    show _=crdV (crdO T.us p)
    rw [q3]
    rfl
  ·refine z_ae (v:= .map none) (fun β w' hs=>by
    have h:=z_hV w' S t (z_bt h hl (hs.get 0 rfl)) (fun k hk=>Nat.lt_of_lt_of_le (hl k hk) hs.chg.size)
    rw [h3] at h
    exact h) ?_
   refine ⟨.pointer none,fun w=>z_h4 w,?_⟩
   intro β w' hs
   refine hs.fin [] ⟨?_,rfl⟩
   rw [hus,h3]
   rfl
 ·have he0: ¬e=0:=he
  rw [if_neg he0] at hus
  intro β w' hs
  refine hs.fin [] ⟨?_,rfl⟩
  rw [hus]
  rfl
theorem z_wo (w:World) (S:Sto) (h:(stoF S).p w) (hl: ∀k,(stoF S).D k->k<w.heap.size):Pu Tryz.prog z_fE #[ptr S.b] w (.int .u64 (S.last:Int)):=by
 have g:=z_iM w (Un [])
 refine z_ac (cx:=z_e2 w (Un [])) g z_k6 rfl rfl (β:=Va.z) [.c (.v (ptr S.b))] 0 [] [oldF w] rfl rfl (z_ay rfl) ?_
 refine ⟨.int .u64 (S.last:Int),fun β w' hs=>bkc (z_gX (z_bt h hl (hs.get 0 rfl))) rfl,?_⟩
 intro β w' hs
 exact hs.fin [] ⟨rfl,rfl⟩
structure SecV where
 A1:Option Addr
 n1:Nat
 c1:Nat
 it:Int
 A2:Option Addr
 n2:Nat
 c2:Nat
 A3:Option Addr
 n3:Nat
 c3:Nat
 A4:Option Addr
 n4:Nat
 c4:Nat
def SecV.vs (x:SecV):List Value:=[.slice x.A1 x.n1 x.c1,.int .i64 x.it,.slice x.A2 x.n2 x.c2,.slice x.A3 x.n3 x.c3,.slice x.A4 x.n4 x.c4]
def SecV.ss (x:SecV):List SL:=[.v (.slice x.A1 x.n1 x.c1),.v (.int .i64 x.it),.v (.slice x.A2 x.n2 x.c2),.v (.slice x.A3 x.n3 x.c3),.v (.slice x.A4 x.n4 x.c4)]
def rightN (x:SecV):Bool:=saltedN x.n1 x.it&&(decide (x.n2=32)&&(decide (x.n3=32)&&decide (x.n4=32)))
theorem z_vi (w:World) (x:SecV):Pu Tryz.prog z_eC #[.agg x.vs.toArray] w (.bool (rightN x)):=by
 have g:=z_g1 w (Un [])
 refine z_ac (cx:=z_dV w (Un [])) g z_jW rfl rfl (β:=Va.z) [.agg x.ss] 0 [] [] rfl rfl (Sat.start rfl) ?_
 refine z_ae (fun β w' hs=>z_tM w' x.A1 x.n1 x.c1 x.it) ?_
 generalize hq:saltedN x.n1 x.it=b0
 cases b0 with
 | false=>
  intro β w' hs
  refine (hs.keepB (List.nil_sublist _)).fin [] ⟨?_,rfl⟩
  unfold rightN
  rw [hq]
  rfl
 | true=>
  conv=>whnf
  generalize h1:decide ((x.n2:Int)=(32:Int))=b1
  have e1:decide (x.n2=32)=b1:=by rw [<-h1];exact decide_eq_decide.2 (by omega)
  cases b1 with
  | false=>
   intro β w' hs
   refine (hs.keepB (List.nil_sublist _)).fin [] ⟨?_,rfl⟩
   unfold rightN
   rw [hq,e1]
   rfl
  | true=>
   conv=>whnf
   generalize h2:decide ((x.n3:Int)=(32:Int))=b2
   have e2:decide (x.n3=32)=b2:=by rw [<-h2];exact decide_eq_decide.2 (by omega)
   cases b2 with
   | false=>
    intro β w' hs
    refine (hs.keepB (List.nil_sublist _)).fin [] ⟨?_,rfl⟩
    unfold rightN
    rw [hq,e1,e2]
    rfl
   | true=>
    intro β w' hs
    refine (hs.keepB (List.nil_sublist _)).fin [] ⟨?_,rfl⟩
    unfold rightN
    rw [hq,e1,e2]
    show Value.bool (decide ((x.n4:Int)=(32:Int)))=_
    congr 1
    exact decide_eq_decide.2 (by omega)
structure SRd (x:SecV) (a:ASec) (w:World):Prop where
 n1:x.n1=a.salt.length
 it:x.it=a.iter
 n2:x.n2=a.stored.length
 n3:x.n3=a.server.length
 n4:x.n4=a.ha1.length
 r1:Bs w x.A1 a.salt
 r2:Bs w x.A2 a.stored
 r3:Bs w x.A3 a.server
 r4:Bs w x.A4 a.ha1
theorem SRd.old {x:SecV} {a:ASec} {W w:World} (h:SRd x a W) (ho:(oldF W).p w):SRd x a w:=⟨h.n1,h.it,h.n2,h.n3,h.n4,Rd.old h.r1 ho,Rd.old h.r2 ho,Rd.old h.r3 ho,Rd.old h.r4 ho⟩
theorem SRd.right {x:SecV} {a:ASec} {w:World} (h:SRd x a w):rightN x=rightA a:=by
 unfold rightN rightA saltedN saltedA
 rw [h.n1,h.it,h.n2,h.n3,h.n4]
structure ASz (a:ASec):Prop where
 s:a.salt.length<=1000000
 d:a.stored.length<=1000000
 v:a.server.length<=1000000
 h:a.ha1.length<=1000000
def Sec.x (y:Sec):SecV:=⟨y.salt.A,y.salt.l.length,y.salt.c,y.iter,y.stored.A,y.stored.l.length,y.stored.c,y.server.A,y.server.l.length,y.server.c,y.ha1.A,y.ha1.l.length,y.ha1.c⟩
theorem Sec.rd {y:Sec} {w:World} (h: ∀f∈y.fs,f.p w):SRd y.x y.a w:=
 ⟨rfl,rfl,rfl,rfl,rfl,h y.salt.f (by simp [Sec.fs]),h y.stored.f (by simp [Sec.fs]),h y.server.f (by simp [Sec.fs]),h y.ha1.f (by simp [Sec.fs])⟩
theorem z_pl (w:World) (x:SecV) (a:ASec) (hr:SRd x a w) (hz:ASz a):
  Con Tryz.prog z_dY #[.agg x.vs.toArray] w [] fun v Fs=> ∃y:Sec,y.a=a/\v= .agg y.vs.toArray/\Fs=[y.ha1.f,y.server.f,y.stored.f,y.salt.f]:=by
 have g:=z_f7 w (Un [])
 refine z_ac (cx:=z_bo w (Un [])) g z_iE rfl rfl (β:=Va.z) [.agg x.ss] 0 [] [oldF w] rfl rfl (z_ay rfl) ?_
 have hS: ∀ {n:Nat} {F:List Fact},Sub (z_bo w (Un [])) n [⟨1,z_be,ti98.zero.map SL.v⟩,⟨0,z_be,x.ss⟩] F [⟨0,z_be,x.ss⟩] []:=fun {n F}=>Sub.of (List.sublist_cons_self _ _) (List.nil_sublist _)
 refine z_aj g z_g0 (by kernel_rfl) [⟨0,z_be,x.ss⟩] [] hS ?_
 refine z_aa [] (fun β w' hs=>z_kh w' x.A1 a.salt x.n1 x.c1 hr.n1 (Rd.old hr.r1 (hs.get 0 rfl)) hz.s) ?_
 rintro v Fs ⟨r1,e1,rfl,rfl⟩
 refine ⟨hS,?_⟩
 refine z_aa [] (fun β w' hs=>z_kh w' x.A2 a.stored x.n2 x.c2 hr.n2 (Rd.old hr.r2 (hs.get 1 rfl)) hz.d) ?_
 rintro v Fs ⟨r2,e2,rfl,rfl⟩
 refine ⟨hS,?_⟩
 refine z_aa [] (fun β w' hs=>z_kh w' x.A3 a.server x.n3 x.c3 hr.n3 (Rd.old hr.r3 (hs.get 2 rfl)) hz.v) ?_
 rintro v Fs ⟨r3,e3,rfl,rfl⟩
 refine ⟨hS,?_⟩
 refine z_aa [] (fun β w' hs=>z_kh w' x.A4 a.ha1 x.n4 x.c4 hr.n4 (Rd.old hr.r4 (hs.get 3 rfl)) hz.h) ?_
 rintro v Fs ⟨r4,e4,rfl,rfl⟩
 refine ⟨hS,?_⟩
 intro β w' hs
 refine (hs.keepB (List.nil_sublist _)).fin [0,1,2,3] ⟨⟨r1,x.it,r2,r3,r4⟩,?_,rfl,rfl⟩ rfl rfl rfl ⟨rfl,rfl,rfl,rfl,trivial⟩
 show ASec.mk r1.l x.it r2.l r3.l r4.l=a
 rw [e1,e2,e3,e4,hr.it]
theorem z_re (w:World) (A:Option Addr) (l:List ByteArray) (c:Nat) (hr:Rd 1 A l.length (strs l) w) (hn:l.length<=1000000):
  Con Tryz.prog z_aN #[.slice A l.length c] w [] fun v Fs=> ∃A' c',v= .slice A' l.length c'/\l.length<=c'/\c'<=maxLen/\Fs=[srowF A' l c']:=by
 refine z_ac (cx:=z_aL w (Un [])) (z_a4 w (Un [])) z_bj rfl rfl (β:=Va.z) [.c (.v (.slice A l.length c))] 0 [] [rdF 1 A l.length (strs l)] rfl rfl ((Sat.start rfl).rd (fun _ h=>by cases h) hr) ?_
 refine BIf.mk (fun h=>?_) (fun h=>?_)
 ·intro β w' hs
  have hA:A=none:=by simpa using h
  subst hA
  have hl:l=[]:=by
   cases l with
   | nil=>rfl
   | cons x r=>obtain ⟨ad,q,_⟩:=hr.2 (by simp);cases q
  subst hl
  exact (hs.nilRow z_ag 1).fin [0] ⟨none,0,rfl,Nat.le_refl _,Nat.zero_le _,rfl⟩
 intro b
 refine ⟨0,0,l.length,[],strs l,_,rfl,fun β w hs=>hs.get 1 rfl,z_cU l,Nat.zero_add _,rfl,by rw [maxLen_eq];omega,by show l.length*16<=_;omega,?_⟩
 intro A' c' h1 h2 h3 β w' hs
 exact hs.fin [0] ⟨A',c',rfl,h1,h2,rfl⟩
theorem z_p1 (w:World) (b cb last:Nat) (m r:Value) (cs:List Value) (hlen:cs.length=10) (hlast:last<greatN) (hm:Mem w [bkF b z_am [m,.int .u64 (last:Int),r],bkF cb z_ak cs]):
  Con Tryz.prog z_d0 #[ptr b,ptr cb] w [bkF b z_am [m,.int .u64 (last:Int),r],bkF cb z_ak cs] fun v Fs=>v= .int .i64 0/\Fs=[bkF b z_am [m,.int .u64 ((last+1:Nat):Int),r],bkF cb z_ak (putAll cs 7 [.int .u64 ((last+1:Nat):Int)])]:=by
 have g:=z_gB w (Un [bkF b z_am [m,.int .u64 (last:Int),r],bkF cb z_ak cs])
 refine z_ac (cx:=z_c3 w (Un [bkF b z_am [m,.int .u64 (last:Int),r],bkF cb z_ak cs])) g z_iF rfl rfl (β:=Va.z) [.c (.v (ptr b)),.c (.v (ptr cb))] 0 [] [bkF b z_am [m,.int .u64 (last:Int),r],bkF cb z_ak cs] rfl rfl (hm.sat0 rfl (fun f hf ho k hk=>⟨f,hf,hk⟩)) ?_
 refine ⟨.int .u64 (last:Int),fun β w' hs=>bkc (hs.get 0 rfl) rfl,((last+1:Nat):Int),?_,?_⟩
 ·rw [z_aT];unfold greatN at hlast;omega
 refine ⟨[bkF b z_am [m,.int .u64 ((last+1:Nat):Int),r],bkF cb z_ak cs],fun β w' hs=>?_,?_⟩
 ·exact hs.bkSet 0 (o:=1) (us:=[.int .u64 ((last+1:Nat):Int)]) rfl (by simp) (fun u hu=>by obtain rfl:=List.mem_singleton.1 hu;rfl)
 refine ⟨.int .u64 ((last+1:Nat):Int),fun β w' hs=>bkc (hs.get 0 rfl) rfl,?_⟩
 refine ⟨[bkF b z_am [m,.int .u64 ((last+1:Nat):Int),r],bkF cb z_ak (putAll cs 7 [.int .u64 ((last+1:Nat):Int)])],fun β w' hs=>?_,?_⟩
 ·exact hs.bkSet 1 (o:=7) (us:=[.int .u64 ((last+1:Nat):Int)]) rfl (by rw [hlen];simp) (fun u hu=>by obtain rfl:=List.mem_singleton.1 hu;rfl)
 intro β w' hs
 exact hs.fin [0,1] ⟨rfl,rfl⟩
def noRd:Value->Option (DataW Unit×List MemPlace):=fun _=>some (.nil,[])
def sortK (l:List ByteArray):List ByteArray:=((l.map fun s=>s.data.toList).mergeSort leB).map mkS
theorem z_kY (l:List ByteArray):(sortK l).length=l.length:=by simp [sortK]
theorem z_wr {P:Program} {k:TypeId} (hk:P.underlying k=some .string) {e:ME} (hs:e.1.size<=maxLen):WideElems.rd P k noRd e.ent=some (.string e.1.data.toList,.nil):=by
 unfold WideElems.rd
 have h:keyOf P k e.ent.key=some (.string e.1.data.toList):=by
  simp [ME.ent,keyOf,hk,mapKey,hs]
 rw [h]
 rfl
structure KeysOk (l:ML):Prop where
 nodup:(l.map (·.1)).Nodup
 size: ∀p∈l,p.1.size<=maxLen
theorem z_rE {P:Program} {k:TypeId} (hk:P.underlying k=some .string) {w:World} {b:Nat} {l:ML} (h:mapP b l w) (ho:KeysOk l) (hl:l.length<=1000000):
  ∃D:DataW Unit,w.ownsMap P k noRd b l.length D/\(strKeys D).Perm (l.map fun p=>p.1.data.toList)/\Maps.size D<=1000000:=by
 obtain ⟨es,c,hb,hm⟩:=h
 have hcut:=hm.cut
 have hlen:es.length=l.length:=by rw [<-hcut,List.length_map]
 have hrg: ∀e∈es,WideElems.rg P k noRd e.ent=(.string e.1.data.toList,.nil):=fun e he=>by
  unfold WideElems.rg
  rw [z_wr hk (ho.size (e.1,e.2.1) (by rw [<-hcut];exact List.mem_map.2 ⟨e,he,rfl⟩))]
  rfl
 have hmap:((es.map ME.ent).toArray.toList.map (WideElems.rg P k noRd))=es.map fun e=>((.string e.1.data.toList,.nil):Lit×DataW Unit):=by
  rw [List.toList_toArray,List.map_map]
  exact List.map_congr_left fun e he=>hrg e he
 refine ⟨_,⟨_,c,hb,⟨?_,?_,?_⟩,?_,rfl⟩,?_,?_⟩
 ·have:=maxLen_eq
  simp only [List.size_toArray,List.length_map]
  omega
 ·refine (MapKept.stamped_iff _ _).2 ⟨?_,?_,?_⟩
  ·intro x hx
   rw [List.toList_toArray] at hx
   obtain ⟨e,he,rfl⟩:=List.mem_map.1 hx
   exact hm.lt e he
  ·rw [List.toList_toArray,List.map_map]
   have h2:=hm.inc
   refine List.Pairwise.imp (fun {a b} q=>Nat.ne_of_lt q) ?_
   have e3:es.map ((·.born)∘ME.ent)=es.map (·.2.2):=rfl
   rw [e3]
   exact h2
  ·rw [List.toList_toArray]
   have h2:=ho.nodup
   rw [<-hcut,List.map_map] at h2
   refine List.pairwise_map.2 ?_
   have h3:=List.pairwise_map.1 h2
   refine h3.imp fun {a b} q r=>q ?_
   have r':Value.string a.1=Value.string b.1:=r
   injection r'
 ·intro x hx
  rw [List.toList_toArray] at hx
  obtain ⟨e,he,rfl⟩:=List.mem_map.1 hx
  exact ⟨_,z_wr hk (ho.size (e.1,e.2.1) (by rw [<-hcut];exact List.mem_map.2 ⟨e,he,rfl⟩))⟩
 ·simp only [List.size_toArray,List.length_map]
  omega
 ·rw [hmap]
  show ((es.map fun e=>((.string e.1.data.toList,.nil):Lit×DataW Unit)).foldr DataW.insert []).map (fun p=>strOf p.1) |>.Perm _
  refine ((WideShapes.sorted_perm _).map _).trans ?_
  rw [List.map_map,<-hcut,List.map_map]
  exact List.Perm.refl _
 ·rw [hmap]
  show ((es.map fun e=>((.string e.1.data.toList,.nil):Lit×DataW Unit)).foldr DataW.insert []).length<=_
  rw [(WideShapes.sorted_perm _).length_eq,List.length_map]
  omega
theorem z_w1 (l:List UInt8) (k:Nat):(sizF l k).1.length<=k:=by
 unfold sizF
 split
 ·split
  ·exact Nat.zero_le _
  ·split
   ·exact Nat.zero_le _
   ·rename_i h;exact Nat.le_of_not_lt h
 ·exact Nat.zero_le _
theorem z_uM (l:List UInt8):(mkS l).size=l.length:=by simp [mkS,ByteArray.size]
theorem z_pI (s:ByteArray):(nameA s).1.size<=32:=by rw [nameA,z_uM];exact z_w1 _ 32
end Go.Proofs.YtloeaiafphkjnaaGreatDoor.Sx
namespace Go.Proofs.YtloeaiafphkjnaaGreatDoor.Sx
open Go
attribute [local irreducible] Calls
noncomputable def cx0 (w:World) (S:Nat->Prop):Cx:=⟨Tryz.prog,w,S,0,[],[],[],none,[]⟩
theorem Sat.recut {cx:Cx} {β:Va} {n:Nat} {H:List Bk} {F:List Fact} {w:World} (h:Sat cx β n H F w) (js:List Nat) {F0 Fs:List Fact} (hre:Sat (cx0 w (Un F0)) Va.z 0 [] F0 w->Sat (cx0 w (Un F0)) Va.z 0 [] Fs w)
  (htk:takeIx F js=F0:=by rfl) (hn:nodupB js=true:=by rfl) (ho:Owns F0:=by first | exact ⟨rfl,trivial⟩ | exact ⟨rfl,rfl,trivial⟩ | exact ⟨rfl,rfl,rfl,trivial⟩ | exact ⟨rfl,rfl,rfl,rfl,trivial⟩) (ho':Owns Fs:=by first | exact ⟨rfl,trivial⟩ | exact ⟨rfl,rfl,trivial⟩ | exact ⟨rfl,rfl,rfl,trivial⟩ | exact ⟨rfl,rfl,rfl,rfl,trivial⟩):
  Sat cx β n H (Fs++dropIx js 0 F) w:=by
 subst htk
 have hm:=h.mem.take hn
 have h1:=hre (hm.sat0 rfl (fun f hf ho k hk=>⟨f,hf,hk⟩))
 refine h.swap js ho (Chg.refl _ _) h1.mem (fun f hf k hk=> .inl ?_)
 rcases h1.fown f hf (ho'.mem f hf) k hk with q | q
 ·exact q
 ·exact absurd (h1.flt f hf k hk) (Nat.not_lt.2 q)
def restF (m:Nat) (ml:ML) (AB:List Ten) (mb:Nat) (mm:ML) (UV:List Crd):Fact:=sepF [mapF m ml,sepF (AB.map tenF),mapF mb mm,sepF (UV.map crdF)]
section
variable {c0:Cx} {w:World}
theorem z_o5 {S:Sto} {A B:List Ten} {T:Ten} {U V:List Crd} {c:Crd} (hT:S.ts=A++T::B) (hc:T.us=U++c::V) (h0:Sat c0 Va.z 0 [] [stoF S] w):
  Sat c0 Va.z 0 [] [bkF S.b z_am S.vs,bkF c.b z_ak c.vs,sepF c.parts,restF S.m S.ml (A++B) T.b T.m (U++V)] w:=by
 have h1:=h0.unsep 0 rfl
 have h2:=h1.focus 2 (A:=A.map tenF) (B:=B.map tenF) (x:=tenF T) (by show some (sepF (S.ts.map tenF))=_;rw [hT,List.map_append,List.map_cons]) rfl
 have h3:=h2.unsep 0 rfl
 have h4:=h3.focus 1 (A:=U.map crdF) (B:=V.map crdF) (x:=crdF c) (by show some (sepF (T.us.map crdF))=_;rw [hc,List.map_append,List.map_cons]) rfl
 have h5:=h4.unsep 0 rfl
 have h6:=h5.sep [1,2,3,4,5] rfl ⟨rfl,rfl,rfl,rfl,rfl,trivial⟩
 have h7:=h6.sep [6,4,3,2] rfl ⟨rfl,rfl,rfl,rfl,trivial⟩
 have h8:=h7.perm [3,2,1,0]
 unfold restF
 rw [List.map_append,List.map_append]
 exact h8
theorem z_wa {S S':Sto} {A B:List Ten} {T:Ten} {U V:List Crd} {c c':Crd} (hT:S.ts=A++T::B) (hc:T.us=U++c::V) (hb:c'.b=c.b) (hu:c'.user=c.user) (hS:S'= {S with ts:=A++ {T with us:=U++c'::V}::B,last:=S'.last,reads:=S'.reads})
  (h0:Sat c0 Va.z 0 [] [bkF S.b z_am S'.vs,bkF c.b z_ak c'.vs,sepF c'.parts,restF S.m S.ml (A++B) T.b T.m (U++V)] w):Sat c0 Va.z 0 [] [stoF S'] w:=by
 have e1:T.m=(U++c'::V).map fun c:Crd=>(c.user,ptr c.b):=by
  unfold Ten.m
  rw [hc]
  simp [hb,hu]
 have e2:S.ml=S'.ml:=by
  unfold Sto.ml
  rw [hS,hT]
  simp
 unfold restF at h0
 rw [List.map_append,List.map_append,e1,e2] at h0
 have h1:=h0.unsep 3 rfl
 have h2:=h1.unsep 6 rfl
 have h3:=h2.sep [10,0,1,2,3,4] rfl ⟨rfl,rfl,rfl,rfl,rfl,rfl,trivial⟩
 have h3':Sat c0 Va.z 0 [] [crdF c',mapF S.m S'.ml,sepF (A.map tenF++B.map tenF),mapF T.b ((U++c'::V).map fun c:Crd=>(c.user,ptr c.b)),sepF (U.map crdF++V.map crdF),bkF S.b z_am S'.vs] w:=by
  have:crdF c'=sepF (bkF c.b z_ak c'.vs::c'.parts):=by unfold crdF Crd.fs;rw [hb]
  rw [this]
  exact h3
 have h4:=h3'.blur 0 4 (A:=U.map crdF) (B:=V.map crdF) (x:=crdF c') rfl rfl rfl (by decide)
 have h5:=h4.sep [3,0]
 have h5':Sat c0 Va.z 0 [] [tenF {T with us:=U++c'::V},mapF S.m S'.ml,sepF (A.map tenF++B.map tenF),bkF S.b z_am S'.vs] w:=by
  have:tenF {T with us:=U++c'::V}=sepF [mapF T.b ((U++c'::V).map fun c:Crd=>(c.user,ptr c.b)),sepF (U.map crdF++crdF c'::V.map crdF)]:=by
   unfold tenF Ten.m
   simp
  rw [this]
  exact h5
 have h6:=h5'.blur 0 2 (A:=A.map tenF) (B:=B.map tenF) (x:=tenF {T with us:=U++c'::V}) rfl rfl rfl (by decide)
 have h7:=h6.sep [2,1,0]
 have:stoF S'=sepF [bkF S.b z_am S'.vs,mapF S.m S'.ml,sepF (A.map tenF++tenF {T with us:=U++c'::V}::B.map tenF)]:=by
  unfold stoF
  rw [hS]
  simp
 rw [this]
 exact h7
end
theorem z_mm: ∀ {l:ML} {s:ByteArray} {v:Value},mlook l s=none->mput l s v=l++[(s,v)]
 | [],_,_,_=>rfl
 | (k,u)::r,s,v,h=>by
  simp only [mlook] at h
  split at h
  ·cases h
  ·rename_i hne
   simp only [mput,if_neg hne,List.cons_append]
   rw [z_mm h]
def secF (x:SecV) (a:ASec):Fact where
 own:=false
 D:=Un [bsF x.A1 a.salt,bsF x.A2 a.stored,bsF x.A3 a.server,bsF x.A4 a.ha1]
 p:=SRd x a
 st:=fun w w' hs h=>⟨h.n1,h.it,h.n2,h.n3,h.n4,(bsF x.A1 a.salt).st w w' (fun k hk=>hs k ⟨_,by simp,hk⟩) h.r1,(bsF x.A2 a.stored).st w w' (fun k hk=>hs k ⟨_,by simp,hk⟩) h.r2,(bsF x.A3 a.server).st w w' (fun k hk=>hs k ⟨_,by simp,hk⟩) h.r3,(bsF x.A4 a.ha1).st w w' (fun k hk=>hs k ⟨_,by simp,hk⟩) h.r4⟩
def sto0 (b m:Nat):Sto:=⟨b,m,[],0,0⟩
theorem z_rD (w:World):Con Tryz.prog z_ou #[] w [] fun v Fs=> ∃b m,v=ptr b/\Fs=[stoF (sto0 b m)]:=by
 have g:=z_oW w (Un [])
 refine z_ac (cx:=z_nQ w (Un [])) g z_se rfl rfl (β:=Va.z) [] 0 [] [] rfl rfl (Sat.start rfl) ?_
 intro m
 intro β w' hs
 have h1:=(hs.ofBk).noMem (sepF []) ⟨fun f hf=>(by cases hf),List.Pairwise.nil⟩ (fun k hk=>by obtain ⟨f,hf,_⟩:=hk;cases hf)
 have h2:=h1.sep [1,2,0]
 exact h2.fin [0] ⟨β 0,m,rfl,rfl⟩
end Go.Proofs.YtloeaiafphkjnaaGreatDoor.Sx
namespace Go.Proofs.YtloeaiafphkjnaaGreatDoor.Sx
open Go
attribute [local irreducible] Calls
def addT (X:ASto) (t:ByteArray):Int×ASto:=
 if plainF t.data.toList=false then (5,X) else if (aten X.ts t).isSome then (7,X) else if 8<=X.ts.length then (8,X) else (0,{X with ts:=X.ts++[(t,[])]})
def stoOut (S:Sto) (r:Int×ASto) (v:Value) (Fs:List Fact):Prop:= ∃S':Sto,v= .int .i64 r.1/\S'.a=r.2/\S'.b=S.b/\Fs=[stoF S']
theorem z_aw {S:Sto} {r:Int×ASto} {e:Int} (h:r=(e,S.a)):stoOut S r (.int .i64 e) [stoF S]:=⟨S,by rw [h],by rw [h],rfl,rfl⟩
theorem z_wF (S:Sto):S.ml.length=S.a.ts.length:=by simp [Sto.ml,Sto.a]
theorem z_rd {c0:Cx} {w:World} {S:Sto} {t:ByteArray} {mb:Nat} (h0:Sat c0 Va.z 0 [] [bkF S.b z_am S.vs,mapF S.m (S.ml++[(t,.map (some mb))]),sepF (S.ts.map tenF),mapF mb []] w):
  Sat c0 Va.z 0 [] [stoF {S with ts:=S.ts++[⟨mb,t,[]⟩]}] w:=by
 have h1:=h0.noMem (sepF []) ⟨fun f hf=>(by cases hf),List.Pairwise.nil⟩ (fun k hk=>by obtain ⟨f,hf,_⟩:=hk;cases hf)
 have h2:=h1.sep [4,0]
 have h3:=h2.blur 0 3 (A:=S.ts.map tenF) (B:=[]) (x:=tenF ⟨mb,t,[]⟩) rfl (by show some (sepF (S.ts.map tenF))=_;rw [List.append_nil]) rfl (by decide)
 have h4:=h3.sep [1,2,0]
 have e:stoF {S with ts:=S.ts++[⟨mb,t,[]⟩]}=sepF [bkF S.b z_am S.vs,mapF S.m (S.ml++[(t,.map (some mb))]),sepF (S.ts.map tenF++[tenF ⟨mb,t,[]⟩])]:=by
  unfold stoF Sto.ml
  simp [Sto.vs]
 rw [e]
 exact h4
theorem z_ns (w:World) (S:Sto) (t:ByteArray) (ht:t.size<=100000) (hm:Mem w [stoF S]):Con Tryz.prog z_cE #[ptr S.b,.string t] w [stoF S] (stoOut S (addT S.a t)):=by
 have g:=z_fo w (Un [stoF S])
 refine z_ac (cx:=z_cm w (Un [stoF S])) g z_hi rfl rfl (β:=Va.z) [.c (.v (ptr S.b)),.c (.v (.string t))] 0 [] [stoF S] rfl rfl (hm.sat0 rfl (fun f hf ho k hk=>⟨f,hf,hk⟩)) ?_
 refine z_ae (fun β w' hs=>z_oI w' t ht) ?_
 generalize hp:plainF t.data.toList=bp
 cases bp with
 | false=>
  intro β w' hs
  exact hs.fin [0] (z_aw (by unfold addT;rw [if_pos hp]))
 | true=>
  have hp': ¬plainF t.data.toList=false:=by rw [hp];decide
  rcases z_cW t S.ts with ⟨A,T,B,eT,h0,h1,h2,h3,_⟩ | ⟨h1,h2,h3⟩
  ·refine z_ae (v:= .map (some T.b)) (fun β w' hs=>by
    have h:=z_hV w' S t (hs.get 0 rfl) (hs.getLt 0 rfl)
    rw [h0] at h
    exact h) ?_
   intro β w' hs
   refine hs.fin [0] (z_aw ?_)
   unfold addT
   rw [if_neg hp',if_pos (by show (aten (S.ts.map Ten.a) t).isSome=true;rw [h3];rfl)]
  ·refine z_ae (v:= .map none) (fun β w' hs=>by
    have h:=z_hV w' S t (hs.get 0 rfl) (hs.getLt 0 rfl)
    rw [h3] at h
    exact h) ?_
   have h2': ¬(aten S.a.ts t).isSome=true:=by show¬(aten (S.ts.map Ten.a) t).isSome=true;rw [h2];simp
   have hl:=z_wF S
   refine ⟨.map (some S.m),fun β w' hs=>bkc (z_gX (hs.get 0 rfl)) rfl,?_⟩
   refine ⟨S.ml,fun β w' hs=>z_mC (hs.get 0 rfl),?_⟩
   refine BIf.dec (fun hf=>?_) (fun hf=>?_)
   ·have hf0:(8:Int)<=(S.ml.length:Int):=hf
    intro β w' hs
    refine hs.fin [0] (z_aw ?_)
    unfold addT
    rw [if_neg hp',if_neg h2',if_pos (by omega)]
   ·have hf0: ¬(8:Int)<=(S.ml.length:Int):=hf
    refine ⟨.map (some S.m),fun β w' hs=>bkc (z_gX (hs.get 0 rfl)) rfl,?_⟩
    intro mb
    refine ⟨[],fun _=>[stoF {S with ts:=S.ts++[⟨mb,t,[]⟩]}],fun β w' hs=>?_,fun _=>?_⟩
    ·have q1:=hs.unsep 1 rfl
     obtain ⟨w2,q2,q3⟩:=q1.mapPut g 1 rfl (t:=z_az) t (.map (some mb))
     rw [z_mm (show mlook S.ml t=none from h1)] at q3
     exact ⟨w2,0,q2,q3.recut [0,1,2,3] z_rd⟩
    ·intro β w' hs
     refine hs.fin [0] ⟨{S with ts:=S.ts++[⟨mb,t,[]⟩]},?_,?_,rfl,rfl⟩
     ·unfold addT
      rw [if_neg hp',if_neg h2',if_neg (by omega)]
      rfl
     ·unfold addT
      rw [if_neg hp',if_neg h2',if_neg (by omega)]
      show ASto.mk ((S.ts++[(⟨mb,t,[]⟩:Ten)]).map Ten.a) _ _=_
      rw [List.map_append]
      rfl
theorem z_v8 {c0:Cx} {w:World} {S:Sto} {A B:List Ten} {T:Ten} {n:ByteArray} {c:Crd} {last:Nat} (hT:S.ts=A++T::B) (hn:c.user=n)
  (h0:Sat c0 Va.z 0 [] [bkF S.b z_am [.map (some S.m),.int .u64 (last:Int),.int .u64 S.reads],bkF c.b z_ak c.vs,sepF c.parts,mapF T.b (T.m++[(n,ptr c.b)]),sepF (T.us.map crdF),mapF S.m S.ml,sepF ((A++B).map tenF)] w):
  Sat c0 Va.z 0 [] [stoF {S with ts:=A++ {T with us:=T.us++[c]}::B,last:=last}] w:=by
 have h1:=h0.unsep 2 rfl
 have h2:=h1.sep [6,0,1,2,3,4] rfl ⟨rfl,rfl,rfl,rfl,rfl,rfl,trivial⟩
 have h3:=h2.blur 0 3 (A:=T.us.map crdF) (B:=[]) (x:=crdF c) rfl (by show some (sepF (T.us.map crdF))=_;rw [List.append_nil]) rfl (by decide)
 have h4:=h3.sep [2,0]
 have e1:tenF {T with us:=T.us++[c]}=sepF [mapF T.b (T.m++[(n,ptr c.b)]),sepF (T.us.map crdF++[crdF c])]:=by
  unfold tenF Ten.m
  simp [hn]
 have h4':Sat c0 Va.z 0 [] [tenF {T with us:=T.us++[c]},bkF S.b z_am [.map (some S.m),.int .u64 (last:Int),.int .u64 S.reads],mapF S.m S.ml,sepF (A.map tenF++B.map tenF)] w:=by
  rw [e1,<-List.map_append]
  exact h4
 have h5:=h4'.blur 0 3 (A:=A.map tenF) (B:=B.map tenF) (x:=tenF {T with us:=T.us++[c]}) rfl rfl rfl (by decide)
 have h6:=h5.sep [1,2,0]
 have e:stoF {S with ts:=A++ {T with us:=T.us++[c]}::B,last:=last}=sepF [bkF S.b z_am [.map (some S.m),.int .u64 (last:Int),.int .u64 S.reads],mapF S.m S.ml,sepF (A.map tenF++tenF {T with us:=T.us++[c]}::B.map tenF)]:=by
  unfold stoF Sto.ml
  rw [hT]
  simp [Sto.vs]
 rw [e]
 exact h6
theorem z_tl {c0:Cx} {w:World} {S:Sto} {A B:List Ten} {T:Ten} (hT:S.ts=A++T::B) (h0:Sat c0 Va.z 0 [] [stoF S] w):
  Sat c0 Va.z 0 [] [bkF S.b z_am S.vs,mapF T.b T.m,sepF (T.us.map crdF),mapF S.m S.ml,sepF ((A++B).map tenF)] w:=by
 have h1:=h0.unsep 0 rfl
 have h2:=h1.focus 2 (A:=A.map tenF) (B:=B.map tenF) (x:=tenF T) (by show some (sepF (S.ts.map tenF))=_;rw [hT,List.map_append,List.map_cons]) rfl
 have h3:=h2.unsep 0 rfl
 have h4:=h3.perm [3,0,1,4,2]
 rw [List.map_append]
 exact h4
end Go.Proofs.YtloeaiafphkjnaaGreatDoor.Sx
