/- Texts joined: SxEff, Shelf, Bld, BoxL, Bk1, Hex, Sha1, Sha2, Sha3, Sha4, Sha5, Sha6, Sha7, Sha8, Sha9, Pd0, Pd4, Pd5, Nam1, Nam2, Nam3, Nam4, Nam5, Nam6, Nam7, Nam8, Nam9, NamP, NmT, Mk1, Tk1, SxTri, SxTriL, SxGo, B6L, RnP, Rn1, Rn2, Rn3, Rn4, B6V, B6G. -/
import Derived.Test.YtfomhhkoamapmaaGreatDoorMTicketPlays2
import Derived.Shelf.Strings.Builder1
import Derived.Shelf.Strings.Builder2
import Derived.Shelf.Small.Bits
import Derived.Shelf.Strconv.Itoa0
import Derived.Shelf.Strconv.Itoa1
import Derived.Shelf.LaysM
import Derived.Shelf.Strings.Search1
import Derived.Shelf.Strings.Search2
import Derived.Shelf.Strings.Cut
import Derived.Shelf.Strings.Shaped
import Derived.Shelf.Strings.Prefix
import Derived.Shelf.Bits.Mul64
import Derived.Ground.Names2Prog
import Derived.Shelf.Slices.Clone
import Derived.Ground.SlbCloneProg
import Derived.Shelf.Bytes.SlClone
import Derived.Ground.SlbNamesProg
import Derived.Shelf.Bytes.SlJoin
import Derived.Ground.SlgnProg
import Derived.Shelf.SlicesE.Clone
import Derived.Test.YtfomhhkoamapmaaGreatDoorProg
set_option linter.unusedVariables false
set_option linter.unusedSimpArgs false
namespace Go.Proofs.YtfomhhkoamapmaaGreatDoor.Sx
open Go
theorem subPerm {cx:Cx} {n:Nat} {H:List Bk} {F:List Fact} (js:List Nat) (hn:nodupB js=true:=by rfl):Sub cx n H F H (takeIx F js):=fun _ _ h=>h.perm js hn
theorem Rd.cell1 {w:World} {ad:Addr} {n:Nat} {xs:List Value} (h:Rd 1 (some ad) n xs w) {k:Nat} {u:Value} (hu:xs[k]?=some u):w.cell? (ad.add (k*1))=some u:=by
 have hk:k<xs.length:=(List.getElem?_eq_some_iff.1 hu).1
 obtain ⟨ad',q,hc⟩:=h.2 (by have:=h.1;omega)
 obtain rfl:=Option.some.inj q
 rw [Nat.mul_one]
 exact hc k u hu
theorem at_lt {α:Type} {l:List α} {k:Nat} (h:k<l.length): ∃x,l[k]?=some x/\x∈l:=⟨l[k],List.getElem?_eq_getElem h,List.getElem_mem h⟩
section
variable {cx:Cx} {β:Va} {n:Nat} {env:Env} {H:List Bk} {F:List Fact} {w:World}
theorem Rd.take {A:Option Addr} {m:Nat} {ys:List Value} (h:Rd 1 A m ys w) {k:Nat} (hk:k<=m):Rd 1 A k (ys.take k) w:=by
 refine ⟨?_,fun hp=>?_⟩
 ·rw [List.length_take,h.1];omega
 ·obtain ⟨ad,q,hc⟩:=h.2 (by omega)
  refine ⟨ad,q,fun j u hu=>hc j u ?_⟩
  rw [List.getElem?_take] at hu
  split at hu
  ·exact hu
  ·cases hu
theorem Sat.copyRow (h:Sat cx β n H F w) (g:Good cx) (j:Nat) {b k c e m cs r:Nat} {A:Option Addr} {xs ys:List Value} (hj:nth F j=some (rowF e 1 (.slice (some ⟨b,0,none⟩) k c) k xs)) (hr:Rd 1 A m ys w) (h1: ∀u∈ys,u.oneCell'=true)
  {t:TypeId} {i ie:TI} (ty:TypeId) (cst:Array Bool) (hm:min m k=r) (hi:lk cx.tt t=some i:=by rfl) (hd:i.desc= .slice e:=by rfl) (hie:lk cx.tt e=some ie:=by rfl) (hz:ie.size=1:=by rfl):
  ∃w',(builtin .copy #[t,t] ty cst #[.slice (some ⟨b,0,none⟩) k c,.slice A m cs]).run cx.P w= .ok (.value (.int .i64 (r:Int))) w'/\
   Sat cx β n H (putAt F j (rowF e 1 (.slice (some ⟨b,0,none⟩) k c) k (putAll xs 0 (ys.take r)))) w':=by
 subst hm
 have ht:=(g.ti hi).real (d:= .slice _) hd rfl
 have tie:=g.ti hie
 have hrt:=hr.take (k:=min m k) (Nat.min_le_left _ _)
 have hsz:=tie.run_size w
 rw [hz] at hsz
 have hfc:(Builtin.firstCells 1 (min m k) (.slice A m cs)).run cx.P w= .ok (ys.take (min m k)).toArray w:=by
  cases A with
  | none=>
   have h0:min m k=0:=by
    rcases Nat.eq_zero_or_pos (min m k) with q | q
    ·exact q
    ·obtain ⟨ad,q,_⟩:=hrt.2 q;cases q
   rw [h0]
   rfl
  | some ad=>
   have hl:=run_loadCells_list (P:=cx.P) (w:=w) ad (ys.take (min m k)) (fun j u hu=>by
    have hp:0<min m k:=by
     rcases Nat.eq_zero_or_pos (min m k) with q | q
     ·rw [q] at hu;simp at hu
     ·exact q
    obtain ⟨ad',q,hc⟩:=hrt.2 hp
    obtain rfl:=Option.some.inj q
    exact hc j u hu)
   have hlen:(ys.take (min m k)).length=min m k:=by rw [hrt.1,Nat.mul_one]
   rw [hlen] at hl
   simpa [Builtin.firstCells] using hl
 obtain ⟨w',e1,e2⟩:=h.rowSet (us:=ys.take (min m k)) (o:=0) hj (by rw [hrt.1];have:=Nat.min_le_right m k;omega) (fun u hu=>h1 u (List.take_subset _ _ hu))
 rw [z_bk,Nat.zero_add] at e1
 refine ⟨w',?_,e2⟩
 have hmin:Nat.min m k=min m k:=rfl
 simp [builtin,Builtin.copy_,run_underlying ht,Builtin.lenOf,hsz,hfc,e1,goInt,hmin]
theorem Sat.mapPut (h:Sat cx β n H F w) (g:Good cx) (j:Nat) {b:Nat} {l:ML} (hj:nth F j=some (mapF b l)) {t kt et:TypeId} {i ik:TI} (s:ByteArray) (v:Value) (hi:lk cx.tt t=some i:=by rfl) (hd:i.desc= .map kt et:=by rfl) (hik:lk cx.tt kt=some ik:=by rfl) (hdk:ik.desc= .string:=by rfl):
  ∃w',(Instr.mapUpdate t (.map (some b)) (.string s) v).run cx.P w= .ok () w'/\Sat cx β n H (putAt F j (mapF b (mput l s v))) w':=by
 obtain ⟨o,e1,e2⟩:=z_yj (P:=cx.P) ((g.ti hi).real (d:= .map _ _) hd rfl) ((g.ti hik).real (d:= .string) hdk rfl) (h.get j hj) s v
 exact ⟨_,e1,h.upd hj rfl (z_sa o) e2 (fun k hk=> .inl hk)⟩
theorem Sat.mapPutY (h:Sat cx β n H F w) (g:Good cx) (j:Nat) {b:Nat} {l:ML} (hj:nth F j=some (mapF b l)) {t kt et:TypeId} {i ik:TI} (s:ByteArray) (v:Value) (hi:lk cx.tt t=some i:=by rfl) (hd:i.desc= .map kt et:=by rfl) (hik:lk cx.tt kt=some ik:=by rfl) (hdk:ik.desc= .string:=by rfl):
  ∃(w':World) (y:Nat),(Instr.mapUpdate t (.map (some b)) (.string s) v).run cx.P w= .ok () w'/\Sat cx β n H ((fun _=>putAt F j (mapF b (mput l s v))) y) w':=by
 obtain ⟨w',e1,e2⟩:=h.mapPut g j hj s v hi hd hik hdk
 exact ⟨w',0,e1,e2⟩
theorem Sat.bkSet (h:Sat cx β n H F w) (j:Nat) {b ty o:Nat} {cs us:List Value} (hj:nth F j=some (bkF b ty cs)) (hl:o+us.length<=cs.length) (h1: ∀u∈us,u.oneCell'=true):
  ∃w',(storeCells ((⟨b,0,none⟩:Addr).add o) us 0).run cx.P w= .ok () w'/\Sat cx β n H (putAt F j (bkF b ty (putAll cs o us))) w':=by
 have hb:w.heap[b]?=some (.cells cs.toArray ty (0,0)):=h.get j hj
 obtain ⟨w',e1,e2,e3,e4⟩:=z_c5 (P:=cx.P) b ty us o 0 w cs hb h1 (by omega)
 refine ⟨w',by rw [z_bk,Nat.zero_add];exact e1,h.upd hj rfl (Chg.mono e3 (fun i _ q=>by subst q;rfl)) ?_ (fun q hq=> .inl hq)⟩
 show w'.heap[b]?=_
 rw [e2,Nat.add_zero]
end
end Go.Proofs.YtfomhhkoamapmaaGreatDoor.Sx
namespace Go.Proofs
open Go.Shelf
def Tryz.lays125_ren:Go.Shelf.Ren:=⟨fun | 125=>90 | 128=>128 | 129=>129 | n=>n,fun | 46=>163 | 3=>3 | 51=>205 | 53=>22 | 4=>4 | 5=>5 | 9=>9 | n=>n,fun | n=>n⟩
theorem Tryz.lays125:Go.Proofs.Lays.n125 Tryz.prog Tryz.lays125_ren:= {
 mixed:=by kernel_rfl
 f125:=Tryz.func90.trans (congrArg some (by kernel_rfl))
 f128:=Tryz.func128.trans (congrArg some (by kernel_rfl))
 f129:=Tryz.func129.trans (congrArg some (by kernel_rfl))
 t3:=Tryz.underlying3
 a3:=Tryz.isAgg3
 z3:=Tryz.sizeOf3
 v3:=Tryz.zeroValue3
 t4:=Tryz.underlying4
 a4:=Tryz.isAgg4
 z4:=Tryz.sizeOf4
 v4:=Tryz.zeroValue4
 t5:=Tryz.underlying5
 a5:=Tryz.isAgg5
 z5:=Tryz.sizeOf5
 v5:=Tryz.zeroValue5
 t9:=Tryz.underlying9
 a9:=Tryz.isAgg9
 z9:=Tryz.sizeOf9
 v9:=Tryz.zeroValue9
 t46:=Tryz.underlying163
 a46:=Tryz.isAgg163
 z46:=Tryz.sizeOf163
 v46:=Tryz.zeroValue163
 t51:=Tryz.underlying205
 a51:=Tryz.isAgg205
 z51:=Tryz.sizeOf205
 v51:=Tryz.zeroValue205
 t53:=Tryz.underlying22
 a53:=Tryz.isAgg22
 z53:=Tryz.sizeOf22
 v53:=Tryz.zeroValue22}
theorem Tryz.bits_Len (x:Int) (w:World) (h0:0<=x) (h1:x<=18446744073709551615):
  Calls Tryz.prog 90 #[.int .u64 x] w fun e w'=>e= .returned (.int .i64 (Lib.bitLen x.toNat))/\w'=w:=Any.bits_Len Tryz.lays125 x w h0 h1
def Tryz.lays283_ren:Go.Shelf.Ren:=⟨fun | 283=>109 | n=>n,fun | 3=>3 | 9=>9 | 4=>4 | n=>n,fun | n=>n⟩
theorem Tryz.lays283:Go.Proofs.Lays.n283 Tryz.prog Tryz.lays283_ren:= {
 mixed:=by kernel_rfl
 f283:=Tryz.func109.trans (congrArg some (by kernel_rfl))
 t3:=Tryz.underlying3
 a3:=Tryz.isAgg3
 z3:=Tryz.sizeOf3
 v3:=Tryz.zeroValue3
 t4:=Tryz.underlying4
 a4:=Tryz.isAgg4
 z4:=Tryz.sizeOf4
 v4:=Tryz.zeroValue4
 t9:=Tryz.underlying9
 a9:=Tryz.isAgg9
 z9:=Tryz.sizeOf9
 v9:=Tryz.zeroValue9}
open Go.Lib in
theorem Tryz.internal_strconv_small (i:Nat) (h:i<100) (w:World):
  Calls Tryz.prog 109 #[.int .i64 i] w fun e w'=>e= .returned (.string ⟨(Lib.decDigits i).toArray⟩)/\w'=w:=Any.internal_strconv_small Tryz.lays283 i h w
def Tryz.lays145_ren:Go.Shelf.Ren:=⟨fun | 145=>67 | 220=>100 | 219=>137 | 217=>168 | 225=>169 | 224=>170 | 267=>171 | 266=>195 | 314=>196 | n=>n,fun | 9=>9 | 4=>4 | 59=>139 | 3=>3 | 5=>5 | 46=>163 | 146=>239 | 51=>205 | n=>n,fun | 1=>0 | n=>n⟩
theorem Tryz.lays145:Go.Proofs.Lays.n145 Tryz.prog Tryz.lays145_ren:= {
 mixed:=by kernel_rfl
 f145:=Tryz.func67.trans (congrArg some (by kernel_rfl))
 f217:=Tryz.func168.trans (congrArg some (by kernel_rfl))
 f219:=Tryz.func137.trans (congrArg some (by kernel_rfl))
 f220:=Tryz.func100.trans (congrArg some (by kernel_rfl))
 f224:=Tryz.func170.trans (congrArg some (by kernel_rfl))
 f225:=Tryz.func169.trans (congrArg some (by kernel_rfl))
 f266:=Tryz.func195.trans (congrArg some (by kernel_rfl))
 f267:=Tryz.func171.trans (congrArg some (by kernel_rfl))
 f314:=Tryz.func196.trans (congrArg some (by kernel_rfl))
 t3:=Tryz.underlying3
 a3:=Tryz.isAgg3
 z3:=Tryz.sizeOf3
 v3:=Tryz.zeroValue3
 t4:=Tryz.underlying4
 a4:=Tryz.isAgg4
 z4:=Tryz.sizeOf4
 v4:=Tryz.zeroValue4
 t5:=Tryz.underlying5
 a5:=Tryz.isAgg5
 z5:=Tryz.sizeOf5
 v5:=Tryz.zeroValue5
 t9:=Tryz.underlying9
 a9:=Tryz.isAgg9
 z9:=Tryz.sizeOf9
 v9:=Tryz.zeroValue9
 t46:=Tryz.underlying163
 a46:=Tryz.isAgg163
 z46:=Tryz.sizeOf163
 v46:=Tryz.zeroValue163
 t51:=Tryz.underlying205
 a51:=Tryz.isAgg205
 z51:=Tryz.sizeOf205
 v51:=Tryz.zeroValue205
 t59:=Tryz.underlying139
 a59:=Tryz.isAgg139
 z59:=Tryz.sizeOf139
 v59:=Tryz.zeroValue139
 t146:=Tryz.underlying239
 a146:=Tryz.isAgg239
 z146:=Tryz.sizeOf239
 v146:=Tryz.zeroValue239
 g1:=by kernel_rfl}
open Go.RowKit Go.Lib in
theorem Tryz.strings_Cut (s sep:ByteArray) (m:Int) (w:World) (hs:s.size<4294967281) (hm:w.cell? ⟨0,0,none⟩=some (.int .i64 m)):
  Calls Tryz.prog 67 #[.string s,.string sep] w fun e w'=>e= .returned (.tuple #[.string ⟨(Lib.cut s.data.toList sep.data.toList).1.toArray⟩,.string ⟨(Lib.cut s.data.toList sep.data.toList).2.1.toArray⟩,.bool (Lib.cut s.data.toList sep.data.toList).2.2])/\ ∃n,w'=w.drewN n:=Any.strings_Cut Tryz.lays145 s sep m w hs hm
def Tryz.lays212_ren:Go.Shelf.Ren:=⟨fun | 212=>133 | 263=>164 | 264=>165 | n=>n,fun | 46=>163 | 51=>205 | 146=>239 | 53=>22 | 148=>241 | n=>n,fun | n=>n⟩
theorem Tryz.lays212:Go.Proofs.Lays.n212 Tryz.prog Tryz.lays212_ren:= {
 mixed:=by kernel_rfl
 f212:=Tryz.func133.trans (congrArg some (by kernel_rfl))
 f263:=Tryz.func164.trans (congrArg some (by kernel_rfl))
 f264:=Tryz.func165.trans (congrArg some (by kernel_rfl))
 t46:=Tryz.underlying163
 a46:=Tryz.isAgg163
 z46:=Tryz.sizeOf163
 v46:=Tryz.zeroValue163
 t51:=Tryz.underlying205
 a51:=Tryz.isAgg205
 z51:=Tryz.sizeOf205
 v51:=Tryz.zeroValue205
 t53:=Tryz.underlying22
 a53:=Tryz.isAgg22
 z53:=Tryz.sizeOf22
 v53:=Tryz.zeroValue22
 t146:=Tryz.underlying239
 a146:=Tryz.isAgg239
 z146:=Tryz.sizeOf239
 v146:=Tryz.zeroValue239
 t148:=Tryz.underlying241
 a148:=Tryz.isAgg241
 z148:=Tryz.sizeOf241
 v148:=Tryz.zeroValue241}
open Go.RowKit Go.Lib in
theorem Tryz.bits_Mul (x y:Nat) (hx:x<18446744073709551616) (hy:y<18446744073709551616) (w:World):
  Calls Tryz.prog 133 #[.int .u64 x,.int .u64 y] w fun e w'=>e= .returned (.tuple #[.int .u64 ((x*y/18446744073709551616:Nat):Int),.int .u64 ((x*y%18446744073709551616:Nat):Int)])/\w'=w:=Any.bits_Mul Tryz.lays212 x y hx hy w
def Tryz.laysSlJ14_ren:Go.Shelf.Ren:=⟨fun | 14=>73 | 15=>106 | n=>n,fun | 26=>137 | 22=>31 | 3=>3 | 4=>4 | 0=>0 | 9=>9 | 20=>20 | 5=>5 | n=>n,fun | n=>n⟩
theorem Tryz.laysSlJ14:Go.Proofs.SlLaysJ.n14 Tryz.prog Tryz.laysSlJ14_ren:= {
 mixed:=by kernel_rfl
 f14:=Tryz.func73.trans (congrArg some (by kernel_rfl))
 f15:=Tryz.func106.trans (congrArg some (by kernel_rfl))
 t0:=Tryz.underlying0
 a0:=Tryz.isAgg0
 z0:=Tryz.sizeOf0
 v0:=Tryz.zeroValue0
 t3:=Tryz.underlying3
 a3:=Tryz.isAgg3
 z3:=Tryz.sizeOf3
 v3:=Tryz.zeroValue3
 t4:=Tryz.underlying4
 a4:=Tryz.isAgg4
 z4:=Tryz.sizeOf4
 v4:=Tryz.zeroValue4
 t9:=Tryz.underlying9
 a9:=Tryz.isAgg9
 z9:=Tryz.sizeOf9
 v9:=Tryz.zeroValue9
 t20:=Tryz.underlying20
 a20:=Tryz.isAgg20
 z20:=Tryz.sizeOf20
 v20:=Tryz.zeroValue20
 t22:=Tryz.underlying31
 a22:=Tryz.isAgg31
 z22:=Tryz.sizeOf31
 v22:=Tryz.zeroValue31
 t26:=Tryz.underlying137
 a26:=Tryz.isAgg137
 z26:=Tryz.sizeOf137
 v26:=Tryz.zeroValue137
 t5:=Tryz.underlying5
 z5:=Tryz.sizeOf5
 i5:=by kernel_rfl}
open Go.RowKit Go.Lib in
theorem Tryz.bytes_Join_many (b o n c:Nat) (vs:List Value) (ls:List (List UInt8)) (sv:Value) (sep:List UInt8) (w:World) (hn:ls.length=n) (h2:2<=n) (hP:Lib.PartsAt w ⟨b,o,none⟩ vs ls) (hcap:n<=c) (hS:Lib.HoldsBytes w sv sep) (hn47:n<=140737488355328) (hlen:Lib.lens ls+sep.length*(n - 1)<=140737488355328):
  Calls Tryz.prog 73 #[.slice (some ⟨b,o,none⟩) n c,sv] w fun e w'=> ∃v',e= .returned v'/\Lib.FreshBytes w.heap.size w' v' (Lib.join ls sep)/\Below w.heap.size w w':=Any.bytes_Join_many Tryz.laysSlJ14 b o n c vs ls sv sep w hn h2 hP hcap hS hn47 hlen
end Go.Proofs
namespace Go.Proofs.YtfomhhkoamapmaaGreatDoor.Sx
open Go
attribute [local irreducible] Calls
def selfV (b:Nat):Value:= .pointer (some ⟨b,0,none⟩)
theorem z_km {P:Program} {k:FuncId} {args:Array Value} {w:World} {Gs:List Fact} {R:Value->List Fact->Prop} (h:Calls P k args w fun e w'=> ∃v,e= .returned v/\Fin w Gs R v w'):Con P k args w Gs R:=h
theorem z_vi {w w':World} {f f':Fact} {R:Value->List Fact->Prop} {v:Value} (hR:R v [f']) (hc:Chg f.D w w') (hp:f'.p w') (ho:f'.own=true) (hD: ∀k,f'.D k->f.D k/\k<w'.heap.size):Fin w [f] R v w':=by
 have hu:Un [f]=f.D:=by funext k;simp [Un]
 refine ⟨[f'],hR,by rw [hu];exact hc,⟨fun g hg=>?_,fun g hg k hk=>?_,List.pairwise_singleton _ _⟩,⟨ho,trivial⟩,fun g hg k hk=>?_⟩
 ·obtain rfl:=List.mem_singleton.1 hg;exact hp
 ·obtain rfl:=List.mem_singleton.1 hg;exact (hD k hk).2
 ·obtain rfl:=List.mem_singleton.1 hg;rw [hu];exact .inl (hD k hk).1
def bldF (b:Nat) (p:Value) (A:Option Addr) (l:List UInt8) (c:Nat):List Fact:=[bkF b z_aq [p,.slice A l.length c],browF z_ab A l c]
theorem Mem.none (w:World):Mem w []:=⟨fun _ q=>(by cases q),fun _ q=>(by cases q),List.Pairwise.nil⟩
theorem cellsU8:Tryz.prog.cellsOf z_ab=1:=by kernel_rfl
theorem z_wV:Tryz.prog.underlying z_nH=some (.pointer z_ab):=by kernel_rfl
theorem z_zg (w:World) (b:Nat) (p:Value) (A:Option Addr) (l:List UInt8) (c:Nat) (hne:l≠[]) (hm:Mem w (bldF b p A l c)):
  Con Tryz.prog z_du #[selfV b] w (bldF b p A l c) fun v Fs=>v= .string ⟨l.toArray⟩/\Fs=[]:=by
 have g:=z_ge w (Un (bldF b p A l c))
 have hl0:l.length≠0:=by simpa using hne
 have hrow:w.ownsRow 0 z_ab 1 (.slice A l.length c) l.length (l.map byte):=hm.fact _ (List.mem_cons_of_mem _ List.mem_cons_self)
 obtain ⟨gb,rfl,hlc,hcm⟩: ∃gb,A=some ⟨gb,0,none⟩/\l.length<=c/\c<=maxLen:=by
  rcases hrow.2 with ⟨_,hz⟩ | ⟨gb,cap,cur,hv,_,_,h1,h2,_⟩
  ·exact absurd hz hl0
  ·injection hv with h3 h4 h5
   subst h5
   exact ⟨gb,h3,h1,h2⟩
 refine z_ac (cx:=z_c2 w (Un (bldF b p (some ⟨gb,0,none⟩) l c))) g z_hO rfl rfl (β:=Va.z) [.c (.v (selfV b))] 0 [] _ rfl rfl (hm.sat0 rfl (fun f hf _ k hk=>⟨f,hf,hk⟩)) ?_
 refine z_af g z_gt (by kernel_rfl) [] [bkF b z_aq [p,.slice (some ⟨gb,0,none⟩) l.length c]] (Sub.of (List.nil_sublist _) (List.sublist_append_left [_] [_])) ?_
 have hcell: ∀(cx:Cx) (n:Nat) (β:Va) (w':World),Sat cx β n [] [bkF b z_aq [p,.slice (some ⟨gb,0,none⟩) l.length c]] w'->w'.cell? ⟨b,1,none⟩=some (.slice (some ⟨gb,0,none⟩) l.length c):=fun cx n β w' hs=>by
  have hb:w'.heap[b]?=some (.cells #[p,.slice (some ⟨gb,0,none⟩) l.length c] z_aq (0,0)):=hs.get 0 rfl
  rw [cell_of_row w' b 1 _ _ _ hb];rfl
 refine ⟨.slice (some ⟨gb,0,none⟩) l.length c,hcell _ _,?_⟩
 refine ⟨.slice (some ⟨gb,0,none⟩) l.length c,hcell _ _,?_⟩
 refine ⟨[],_,.c (.v (.pointer (some ⟨gb,0,none⟩))),fun β w' ty hs=>⟨w',?_,hs⟩,trivial,Sub.of (List.nil_sublist _) (List.sublist_append_left [_] [_]),?_⟩
 ·have:=Lib.run_unsafeSliceData_row (P:=Tryz.prog) w' #[z_al] ty ⟨gb,0,none⟩ l.length c (by omega)
  simp only [builtin,Sem.run_bind]
  erw [this]
  rfl
 refine ⟨[],[bkF b z_aq [p,.slice (some ⟨gb,0,none⟩) l.length c]],.c (.v (.string ⟨l.toArray⟩)),fun β w' ty hs=>⟨w'.freeze ⟨gb,0,none⟩ l.length,?_,?_⟩,trivial,Sub.refl,?_⟩
 ·have hrow':w'.ownsRow 0 z_ab 1 (.slice (some ⟨gb,0,none⟩) l.length c) l.length (l.map byte):=hs.get 1 rfl
  obtain ⟨cur,hg,hcs⟩: ∃cur,w'.heap[gb]?=some (.cells cur z_ab (0,0))/\cur.size=c*1:=by
   rcases hrow'.2 with ⟨_,hz⟩ | ⟨g',cap,cur,hv,_,hg,_,_,h3,_⟩
   ·exact absurd hz hl0
   ·injection hv with h4 h5 h6
    injection h4 with h4
    injection h4 with h4
    subst h4 h6
    exact ⟨cur,hg,h3⟩
  have:=Lib.run_unsafeString_row (P:=Tryz.prog) w' z_nH 3 ty z_ab z_wV cellsU8 gb cur.size (by simp [World.shape?,hg]) l hne (by omega) (by rw [maxLen_eq] at hcm;omega) (fun j x hx=>by
   have hr:=z_aj hrow'
   obtain ⟨ad,q,hc⟩:=hr.2 (by omega)
   obtain rfl:=Option.some.inj q
   exact hc j (byte x) (by simp [hx]))
  simp only [builtin,Sem.run_bind]
  erw [this]
  rfl
 ·refine hs.swap [1] ⟨rfl,trivial⟩ (Fs:=[]) (Chg.mono (z_pY _ _ _) (fun i _ q=>⟨_,List.mem_singleton.2 rfl,?_⟩)) (Mem.none _) (fun _ q=>by cases q)
  obtain rfl:i=gb:=q
  rfl
 intro β w' hs
 exact hs.fin [] ⟨rfl,rfl⟩
end Go.Proofs.YtfomhhkoamapmaaGreatDoor.Sx
namespace Go.Proofs.YtfomhhkoamapmaaGreatDoor.Bx
structure Term where
 kind:Nat
 key:List UInt8
 text:List UInt8
 rounds:Nat
 list:List Nat
 mask:List UInt8
def vint (n:Nat):List UInt8:=if h:n<128 then [UInt8.ofNat n] else UInt8.ofNat (n%128+128)::vint (n/128)
termination_by n
decreasing_by omega
theorem vint_lt {n:Nat} (h:n<128):vint n=[UInt8.ofNat n]:=by rw [vint,dif_pos h]
theorem vint_ge {n:Nat} (h: ¬n<128):vint n=UInt8.ofNat (n%128+128)::vint (n/128):=by rw [vint,dif_neg h]
theorem z_tc {a b:Nat} (ha:a<256) (hb:b<256) (h:UInt8.ofNat a=UInt8.ofNat b):a=b:=by
 have:=congrArg UInt8.toNat h
 simp only [UInt8.toNat_ofNat'] at this
 omega
theorem z_wy: ∀(a b:Nat) (x y:List UInt8),vint a++x=vint b++y->a=b/\x=y:=by
 intro a
 induction a using Nat.strongRecOn with
 | _ a ih=>
  intro b x y h
  by_cases ha:a<128
  ·by_cases hb:b<128
   ·rw [vint_lt ha,vint_lt hb] at h
    simp only [List.cons_append,List.nil_append,List.cons.injEq] at h
    exact ⟨z_tc (by omega) (by omega) h.1,h.2⟩
   ·rw [vint_lt ha,vint_ge hb] at h
    simp only [List.cons_append,List.nil_append,List.cons.injEq] at h
    have:=z_tc (by omega) (by omega) h.1
    omega
  ·by_cases hb:b<128
   ·rw [vint_ge ha,vint_lt hb] at h
    simp only [List.cons_append,List.nil_append,List.cons.injEq] at h
    have:=z_tc (by omega) (by omega) h.1
    omega
   ·rw [vint_ge ha,vint_ge hb] at h
    simp only [List.cons_append,List.cons.injEq] at h
    have h1:=z_tc (by omega) (by omega) h.1
    obtain ⟨h2,h3⟩:=ih (a/128) (by omega) (b/128) x y h.2
    exact ⟨by omega,h3⟩
theorem z_oz: ∀(l m:List Nat) (x y:List UInt8),l.length=m.length->l.flatMap vint++x=m.flatMap vint++y->l=m/\x=y
 | [],[],x,y,_,h=>⟨rfl,h⟩
 | [],_::_,_,_,hl,_=>by cases hl
 | _::_,[],_,_,hl,_=>by cases hl
 | a::l,b::m,x,y,hl,h=>by
  simp only [List.flatMap_cons,List.append_assoc] at h
  obtain ⟨rfl,h2⟩:=z_wy a b _ _ h
  obtain ⟨rfl,h3⟩:=z_oz l m x y (by simpa using hl) h2
  exact ⟨rfl,h3⟩
def print (t:Term):List UInt8:=[t.kind,t.rounds,t.key.length,t.text.length,t.list.length].flatMap vint++t.list.flatMap vint++(t.key++t.text++t.mask)
theorem print_inj {s t:Term} (h:print s=print t):s=t:=by
 obtain ⟨k,a,b,r,l,m⟩:=s
 obtain ⟨k',a',b',r',l',m'⟩:=t
 simp only [print,List.append_assoc] at h
 obtain ⟨h1,h2⟩:=z_oz [k,r,a.length,b.length,l.length] [k',r',a'.length,b'.length,l'.length] _ _ rfl h
 simp only [List.cons.injEq,and_true] at h1
 obtain ⟨rfl,rfl,h3,h4,h5⟩:=h1
 obtain ⟨rfl,h6⟩:=z_oz l l' _ _ h5 h2
 obtain ⟨rfl,h7⟩:=List.append_inj h6 h3
 obtain ⟨rfl,rfl⟩:=List.append_inj h7 h4
 rfl
def front:List UInt8:=[0xf1,84,82,77]++List.replicate 24 0
theorem front_len:front.length=28:=rfl
def be4 (n:Nat):List UInt8:=[UInt8.ofNat (n/16777216),UInt8.ofNat (n/65536),UInt8.ofNat (n/256),UInt8.ofNat n]
def handle (n:Nat):List UInt8:=front++be4 n
theorem handle_len (n:Nat):(handle n).length=32:=rfl
def num:List UInt8->Nat:=List.foldl (fun n b=>n*256+b.toNat) 0
theorem num_be4 {n:Nat} (h:n<4294967296):num (be4 n)=n:=by
 simp only [num,be4,List.foldl,UInt8.toNat_ofNat']
 omega
open Classical in
noncomputable def place (t:Term):List Term->Option Nat
 | []=>none
 | x::r=>if x=t then some 0 else (place t r).map (· +1)
theorem place_some {t:Term}: ∀ {L:List Term} {i:Nat},place t L=some i->L[i]?=some t
 | x::r,i,h=>by
  simp only [place] at h
  split at h
  ·rename_i q;obtain rfl:=Option.some.inj h;simp [q]
  ·obtain ⟨j,hj,rfl⟩:=Option.map_eq_some_iff.1 h
   simpa using place_some hj
theorem place_none {t:Term}: ∀ {L:List Term},place t L=none->t∉L
 | [],_=>List.not_mem_nil
 | x::r,h=>by
  simp only [place] at h
  split at h
  ·cases h
  ·rename_i q
   have h':place t r=none:=by simpa using h
   intro hm
   rcases List.mem_cons.1 hm with rfl | hm
   ·exact q rfl
   ·exact place_none h' hm
structure Box where
 sym:Bool
 full:Bool
 L:List Term
def noughts:List UInt8:=List.replicate 32 0
open Classical in
noncomputable def Box.tag (b:Box) (t:Term):List UInt8×Box:=match place t b.L with
 | some i=>(handle (i+1),b)
 | none=>if 4096<=b.L.length then (noughts,{b with full:=true}) else (handle (b.L.length+1),{b with L:=b.L++[t]})
def Box.opens (b:Box) (tag:List UInt8):Option (List Nat×List UInt8):=
 if tag.length=32 then
  if b.sym=true/\tag.take 28=front then
   if num (tag.drop 28)<1\/b.L.length<num (tag.drop 28) then none
   else match b.L[num (tag.drop 28) - 1]? with
    | some t=>if t.kind=4 then some (t.list,t.mask) else some ([num (tag.drop 28)],noughts)
    | none=>none
  else some ([],tag)
 else none
theorem opens_raw {b:Box} {tag:List UInt8} (h:tag.length=32) (hn: ¬(b.sym=true/\tag.take 28=front)):b.opens tag=some ([],tag):=by unfold Box.opens;rw [if_pos h,if_neg hn]
theorem opens_in {b:Box} {tag:List UInt8} {n:Nat} {t:Term} (h:tag.length=32) (hs:b.sym=true) (hf:tag.take 28=front) (hn:num (tag.drop 28)=n) (ho: ¬(n<1\/b.L.length<n)) (ht:b.L[n - 1]?=some t):
  b.opens tag=if t.kind=4 then some (t.list,t.mask) else some ([n],noughts):=by
 subst hn;unfold Box.opens;rw [if_pos h,if_pos ⟨hs,hf⟩,if_neg ho,ht]
end Go.Proofs.YtfomhhkoamapmaaGreatDoor.Bx
namespace Go.Proofs.YtfomhhkoamapmaaGreatDoor.Sx
open Go
attribute [local irreducible] Calls
theorem z_zC (w:World):Con Tryz.prog z_pV #[] w [] fun v Fs=> ∃b,v= .slice (some ⟨b,0,none⟩) 28 28/\Fs=[browF z_ab (some ⟨b,0,none⟩) Bx.front 28]:=by
 have g:=z_qo w (Un [])
 refine z_ac (cx:=z_oA w (Un [])) g z_tG rfl rfl (β:=Va.z) [] 0 [] [] rfl rfl (Sat.start rfl) ?_
 refine ⟨28,28,rfl,rfl,Nat.le_refl _,by decide,by decide,?_⟩
 intro b
 intro b2
 refine ⟨_,_,.c (.v (.int .i64 4)),fun β w' ty hs=>hs.copyRow g 1 rfl (z_aj (hs.get 0 rfl)) (z_as [241,84,82,77]) ty _ rfl,trivial,?_⟩
 intro β w' hs
 exact hs.fin [1] ⟨b,rfl,rfl⟩
theorem z_br (x:Nat):IntKind.u8.wrap (x:Int)=((UInt8.ofNat x).toNat:Int):=by
 rw [wrap_u8,UInt8.toNat_ofNat']
 omega
theorem z_o9 (n k:Nat):(n:Int).fdiv (2^k)=((n/2^k:Nat):Int):=by
 have:(2^k:Int)=((2^k:Nat):Int):=by push_cast;rfl
 rw [this,Int.fdiv_eq_ediv_of_nonneg _ (Int.natCast_nonneg _)]
 exact (Int.natCast_ediv _ _).symm
theorem z_tj (w:World) (n:Nat):Con Tryz.prog z_nG #[.int .i64 n] w [] fun v Fs=> ∃A c,v= .slice A 32 c/\32<=c/\c<=maxLen/\Fs=[browF z_ab A (Bx.handle n) c]:=by
 have g:=z_pc w (Un [])
 refine z_ac (cx:=z_l6 w (Un [])) g z_qT rfl rfl (β:=Va.z) [.c (.v (.int .i64 n))] 0 [] [] rfl rfl (Sat.start rfl) ?_
 refine z_aa [] (fun β w' hs=>z_zC w') ?_
 rintro v Fs ⟨b,rfl,rfl⟩
 refine ⟨by decide,_,z_o9 n 24,_,z_br _,by decide,_,z_o9 n 16,_,z_br _,by decide,_,z_o9 n 8,_,z_br _,_,z_br _,?_⟩
 intro b2
 refine ⟨1,28,32,_,(Bx.be4 n).map byte,(Bx.handle n).map byte,rfl,fun β w' hs=>z_aj (hs.get 0 rfl),z_as (Bx.be4 n),rfl,by rw [Bx.handle,List.map_append],by decide,by decide,?_⟩
 intro A c h1 h2 h3
 intro β w' hs
 exact hs.fin [1] ⟨A,c,rfl,h1,h2,rfl⟩
def dgs:List UInt8:=[48,49,50,51,52,53,54,55,56,57,97,98,99,100,101,102]
def hex2 (x:UInt8):List UInt8:=[dgs.getD (x.toNat/16) 0,dgs.getD (x.toNat%16) 0]
end Go.Proofs.YtfomhhkoamapmaaGreatDoor.Sx
namespace Go.Proofs.YtfomhhkoamapmaaGreatDoor.Sx
open Go Sha
attribute [local irreducible] Calls
theorem z_k8 (w:World) (x:UInt32) (n:Nat) (h1:1<=n) (h2:n<32):Pu Tryz.prog z_dr #[u32 x,.int .i64 (-(n:Int))] w (u32 (rotr x n)):=by
 refine pu_of (z_bh (cx:=z_c6 w None_) (z_gj w None_) z_hy rfl rfl (β:=Va.z) [.c (.v (u32 x)),.c (.v (.int .i64 (-(n:Int))))] 0 [] [] rfl rfl (Sat.start rfl) ?_)
 refine ⟨_,rfl,?_⟩
 refine ⟨((32 - n:Nat):Int),?_,?_⟩
 ·have: ∀n:_root_.Fin 32,1<=n.val->bits .and .u64 (IntKind.u64.wrap (-(n.val:Int))) 31=((32 - n.val:Nat):Int):=by decide
  exact this ⟨n,h2⟩ h1
 refine ⟨by omega,_,shl32 x (32 - n) (by omega),?_⟩
 refine ⟨(n:Int),by show IntKind.u64.wrap _=_;simp only [IntKind.wrap,IntKind.bits,IntKind.signed];simp;omega,?_⟩
 refine ⟨by omega,_,shr32 x n h2,?_⟩
 refine ⟨_,or32 _ _,?_⟩
 intro β w' hs
 refine ⟨?_,hs.chg⟩
 rw [<-z_yO]
 rfl
theorem z_ld (w:World) (x:UInt32) (n:Nat) (h1:1<=n) (h2:n<32):Pu Tryz.prog z_f4 #[u32 x,.int .u64 (n:Int)] w (u32 (rotr x n)):=by
 refine pu_of (z_bh (cx:=z_fl w None_) (z_iM w None_) z_lD rfl rfl (β:=Va.z) [.c (.v (u32 x)),.c (.v (.int .u64 (n:Int)))] 0 [] [] rfl rfl (Sat.start rfl) ?_)
 refine ⟨by omega,_,shr32 x n h2,?_⟩
 refine ⟨((32 - n:Nat):Int),by show IntKind.u64.wrap _=_;simp only [IntKind.wrap,IntKind.bits,IntKind.signed];simp;omega,?_⟩
 refine ⟨by omega,_,shl32 x (32 - n) (by omega),?_⟩
 refine ⟨_,or32 _ _,?_⟩
 intro β w' hs
 exact ⟨rfl,hs.chg⟩
theorem z_vU {x y k:Nat} (h:y<2^k):2^k*x ||| y=2^k*x+y:=(Nat.two_pow_add_eq_or_of_lt h x).symm
theorem z_yx (a b c d:UInt8):((UInt32.ofNat a.toNat<<<UInt32.ofNat 24 ||| UInt32.ofNat b.toNat<<<UInt32.ofNat 16) ||| UInt32.ofNat c.toNat<<<UInt32.ofNat 8) ||| UInt32.ofNat d.toNat=word a b c d:=by
 apply UInt32.toNat_inj.1
 have h1:=a.toNat_lt
 have h2:=b.toNat_lt
 have h3:=c.toNat_lt
 have h4:=d.toNat_lt
 have sh: ∀(x:UInt8) (n:Nat),n<=24->(UInt32.ofNat x.toNat<<<UInt32.ofNat n).toNat=2^n*x.toNat:=by
  intro x n hn
  have hx:=x.toNat_lt
  rw [UInt32.toNat_shiftLeft,UInt32.toNat_ofNat',UInt32.toNat_ofNat',Nat.mod_eq_of_lt (show n<2^32 by omega),Nat.mod_eq_of_lt (show n<32 by omega),Nat.shiftLeft_eq,Nat.mod_eq_of_lt (show x.toNat<2^32 by omega),Nat.mul_comm]
  refine Nat.mod_eq_of_lt ?_
  have:2^n<=2^24:=Nat.pow_le_pow_right (by omega) hn
  calc 2^n*x.toNat<=2^24*x.toNat:=Nat.mul_le_mul_right _ this
   _<2^32:=by omega
 unfold word
 simp only [UInt32.toNat_or,sh a 24 (by omega),sh b 16 (by omega),sh c 8 (by omega),UInt32.toNat_ofNat']
 rw [Nat.mod_eq_of_lt (show d.toNat<2^32 by omega)]
 rw [z_vU (show 2^16*b.toNat<2^24 by omega)]
 rw [show 2^24*a.toNat+2^16*b.toNat=2^16*(256*a.toNat+b.toNat) by omega,z_vU (show 2^8*c.toNat<2^16 by omega)]
 rw [show 2^16*(256*a.toNat+b.toNat)+2^8*c.toNat=2^8*(256*(256*a.toNat+b.toNat)+c.toNat) by omega,z_vU (show d.toNat<2^8 by omega)]
 omega
theorem z_zb (w:World) (A:Option Addr) (l:List UInt8) (c:Nat) (hr:Bs w A l) (x y z u:UInt8) (h0:l[0]?=some x) (h1:l[1]?=some y) (h2:l[2]?=some z) (h3:l[3]?=some u):
  Pu Tryz.prog z_pP #[.slice A l.length c] w (u32 (word x y z u)):=by
 obtain ⟨k0,e0⟩:=List.getElem?_eq_some_iff.1 h0
 obtain ⟨k1,e1⟩:=List.getElem?_eq_some_iff.1 h1
 obtain ⟨k2,e2⟩:=List.getElem?_eq_some_iff.1 h2
 obtain ⟨k3,e3⟩:=List.getElem?_eq_some_iff.1 h3
 have g:=z_qs w None_
 obtain ⟨ad,hA⟩:=Bs.addr hr (by omega)
 have cv: ∀b:UInt8,IntKind.u32.wrap (b.toNat:Int)=((UInt32.ofNat b.toNat).toNat:Int):=fun b=>z_pL _
 refine pu_of (z_bh (cx:=z_o0 w None_) g z_t7 rfl rfl (β:=Va.z) [.c (.v (.slice A l.length c))] 0 [] [bsF A l] rfl rfl ((Sat.start rfl).rd (fun _ h=>by cases h) hr) ?_)
 refine z_af g z_rn (by kernel_rfl) _ _ Sub.refl ?_
 refine ⟨ad,0,hA,rfl,k0,byte x,fun β w hs=>by rw [<-e0];exact Bs.cell (hs.get 0 rfl:Bs w A _) hA (j:=0) k0,?_⟩
 refine ⟨_,cv x,by omega,_,shl32 (UInt32.ofNat x.toNat) 24 (by omega),?_⟩
 refine ⟨ad,1,hA,rfl,k1,byte y,fun β w hs=>by rw [<-e1];exact Bs.cell (hs.get 0 rfl:Bs w A _) hA (j:=1) k1,?_⟩
 refine ⟨_,cv y,by omega,_,shl32 (UInt32.ofNat y.toNat) 16 (by omega),?_⟩
 refine ⟨_,or32 _ _,?_⟩
 refine ⟨ad,2,hA,rfl,k2,byte z,fun β w hs=>by rw [<-e2];exact Bs.cell (hs.get 0 rfl:Bs w A _) hA (j:=2) k2,?_⟩
 refine ⟨_,cv z,by omega,_,shl32 (UInt32.ofNat z.toNat) 8 (by omega),?_⟩
 refine ⟨_,or32 _ _,?_⟩
 refine ⟨ad,3,hA,rfl,k3,byte u,fun β w hs=>by rw [<-e3];exact Bs.cell (hs.get 0 rfl:Bs w A _) hA (j:=3) k3,?_⟩
 refine ⟨_,cv u,_,or32 _ _,?_⟩
 intro β w' hs
 refine ⟨?_,hs.chg⟩
 rw [<-z_yx]
 rfl
def sl32 (x:UInt32):SL:= .v (u32 x)
def arr (n:Nat) (ws:List UInt32):List SL:=(ws++List.replicate (n - ws.length) 0).map sl32
theorem z_sn {n:Nat} {ws:List UInt32} (h:ws.length<=n):(arr n ws).length=n:=by simp [arr];omega
theorem z_vb {n:Nat} {ws:List UInt32} {i:Nat} (h:i<ws.length):(arr n ws)[i]?=some (sl32 (ws.getD i 0)):=by
 simp only [arr,List.getElem?_map]
 rw [List.getElem?_append_left h,List.getElem?_eq_getElem h]
 simp [List.getD,List.getElem?_eq_getElem h]
theorem z_rY {n:Nat} {ws:List UInt32} (h:ws.length<n) (x:UInt32):(arr n ws).set ws.length (sl32 x)=arr n (ws++[x]):=by
 obtain ⟨k,rfl⟩: ∃k,n=ws.length+(k+1):=⟨n - ws.length - 1,by omega⟩
 simp only [arr,List.length_append,List.length_cons,List.length_nil]
 rw [show ws.length+(k+1) - ws.length=k+1 by omega,show ws.length+(k+1) - (ws.length+(0+1))=k by omega,List.replicate_succ]
 simp
theorem z_s5 {n:Nat} {ws:List UInt32} (h:ws.length=n):arr n ws=ws.map sl32:=by simp [arr,h]
theorem z_vC (ws:List UInt32):allOne (ws.map sl32)=true:=z_v5 fun x hx=>by obtain ⟨y,_,rfl⟩:=List.mem_map.1 hx;rfl
theorem z_yT (β:Va) (ws:List UInt32):(ws.map sl32).map (SL.val β)=ws.map u32:=by rw [List.map_map];rfl
theorem z_j8 (l:List UInt8) (i j:Nat) (h:i+j<l.length):(l.drop i)[j]?=some (l.getD (i+j) 0):=by
 rw [List.getElem?_drop,List.getElem?_eq_getElem h]
 simp [List.getD,List.getElem?_eq_getElem h]
theorem z_wK (w:World) (A:Option Addr) (l:List UInt8) (c:Nat) (hr:Bs w A l) (hc:l.length<=c) (hl:64<=l.length) (hm:c<=maxLen):
  Pu Tryz.prog z_nu #[.slice A l.length c] w (.agg ((W l).map u32).toArray):=by
 obtain ⟨ws,hws⟩: ∃ws,W l=ws:=⟨_,rfl⟩
 have hwl:ws.length=64:=by rw [<-hws];exact W_len l
 rw [hws]
 have g:=z_oo w None_
 refine pu_of (z_bh (cx:=z_ms w None_) g z_rN rfl rfl (β:=Va.z) [.c (.v (.slice A l.length c))] 0 [] [bsF A l] rfl rfl ((Sat.start rfl).rd (fun _ h=>by cases h) hr) ?_)
 have e0:arr 64 []=ti245.zero.map SL.v:=by simp only [arr,List.nil_append,List.length_nil,List.map_replicate];rfl
 refine z_ag (ι:=Nat) 2 (fun i=>[(0,.c (.v (.slice A l.length c))),(2,.c (.p 0 0)),(3,.c (.p 1 0)),(10,.c (.v (.int .i64 i)))]) (fun i=>[⟨1,245,arr 64 (sched l i)⟩,⟨0,245,arr 64 []⟩]) (fun _=>[bsF A l])
  (fun i=>i<=16) (fun i=>16 - i) 0 (Nat.zero_le _) (Ent.mk' ⟨rfl,rfl,rfl,rfl,trivial⟩ rfl (fun β w' hs=>by rw [show sched l 0=[] from rfl,e0];exact hs)) g ?_
 intro i hi
 refine BIf.dec (fun hlt=>?_) (fun hge=>?_)
 ·have hlt:i<16:=by omega
  rw [maxLen_eq] at hm
  refine ⟨((4*i:Nat):Int),by rw [wrap_i64 (by omega) (by omega)];omega,?_⟩
  refine ⟨c,l.length,4*i,(l.drop (4*i)).length,c - 4*i,_,rfl,rfl,rfl,Nat.le_refl _,hc,by omega,by rw [List.length_drop],rfl,rfl,?_⟩
  refine z_ah (fun β w' hs=>z_zb w' _ (l.drop (4*i)) _ (Bs.cutB (hs.get 0 rfl:Bs w' A l) (j:=l.length) hc (by omega) (Nat.le_refl _) (by rw [List.take_of_length_le (by simp)])) _ _ _ _
   (z_j8 l (4*i) 0 (by omega)) (z_j8 l (4*i) 1 (by omega)) (z_j8 l (4*i) 2 (by omega)) (z_j8 l (4*i) 3 (by omega))) ?_
  refine ⟨i,rfl,by omega,?_⟩
  have hsl:(sched l i).length=i:=z_gn l i
  refine z_xG (b:=Nat.ble (0+i*1+1) (arr 64 (sched l i)).length) (by rw [z_sn (by omega),Nat.ble_eq];omega) ?_
  refine ⟨((i+1:Nat):Int),by rw [wrap_i64 (by omega) (by omega)];rfl,?_⟩
  refine ⟨i+1,by omega,by omega,Ent.mk' ⟨rfl,rfl,rfl,rfl,trivial⟩ rfl (fun β w' hs=>?_)⟩
  have e1:putAll (arr 64 (sched l i)) (0+i*1) [sl32 (wordAt l i)]=arr 64 (sched l (i+1)):=by
   rw [putAll,putAll,z_aT,Nat.zero_add,Nat.mul_one]
   have:=z_rY (n:=64) (ws:=sched l i) (by omega) (wordAt l i)
   rw [hsl] at this
   rw [this,sched,if_pos hlt]
  rw [<-e1]
  exact hs
 ·obtain rfl:i=16:=by omega
  rw [maxLen_eq] at hm
  refine z_ag (ι:=Nat) 2 (fun i=>[(0,.c (.v (.slice A l.length c))),(2,.c (.p 0 0)),(3,.c (.p 1 0)),(5,.c (.v (.int .i64 i)))]) (fun i=>[⟨1,245,arr 64 (sched l i)⟩,⟨0,245,arr 64 []⟩]) (fun _=>[bsF A l])
   (fun i=>16<=i/\i<=64) (fun i=>64 - i) 16 ⟨by omega,by omega⟩ (Ent.same ⟨rfl,rfl,rfl,rfl,trivial⟩ rfl) g ?_
  rintro i ⟨hi1,hi2⟩
  refine BIf.dec (fun hlt=>?_) (fun hge=>?_)
  ·have hlt:i<64:=by omega
   have hsl:(sched l i).length=i:=z_gn l i
   have ld: ∀ {k:Nat},k<i->nth (arr 64 (sched l i)) (0+k*1)=some (sl32 ((sched l i).getD k 0)):=fun {k} hk=>by
    rw [z_aX,Nat.zero_add,Nat.mul_one];exact z_vb (by omega)
   refine z_af g z_ox (by kernel_rfl) _ _ Sub.refl ?_
   refine ⟨((i - 15:Nat):Int),by rw [wrap_i64 (by omega) (by omega)];omega,i - 15,rfl,by omega,?_⟩
   conv=>whnf
   generalize hn:nth _ _=o
   obtain rfl:o=some (sl32 ((sched l i).getD (i - 15) 0)):=hn.symm.trans (ld (by omega))
   clear hn
   refine ⟨((i - 2:Nat):Int),by rw [wrap_i64 (by omega) (by omega)];omega,i - 2,rfl,by omega,?_⟩
   conv=>whnf
   generalize hn:nth _ _=o
   obtain rfl:o=some (sl32 ((sched l i).getD (i - 2) 0)):=hn.symm.trans (ld (by omega))
   clear hn
   obtain ⟨xa,hxa⟩: ∃xa,(sched l i).getD (i - 15) 0=xa:=⟨_,rfl⟩
   obtain ⟨xb,hxb⟩: ∃xb,(sched l i).getD (i - 2) 0=xb:=⟨_,rfl⟩
   rw [hxa,hxb]
   refine z_ah (fun β w' hs=>z_k8 w' xa 7 (by omega) (by omega)) ?_
   refine z_ah (fun β w' hs=>z_k8 w' xa 18 (by omega) (by omega)) ?_
   refine ⟨_,xor32 _ _,by omega,_,shr32 xa 3 (by omega),_,xor32 _ _,?_⟩
   refine z_ah (fun β w' hs=>z_k8 w' xb 17 (by omega) (by omega)) ?_
   refine z_ah (fun β w' hs=>z_k8 w' xb 19 (by omega) (by omega)) ?_
   refine ⟨_,xor32 _ _,by omega,_,shr32 xb 10 (by omega),_,xor32 _ _,?_⟩
   refine z_af g z_oY (by kernel_rfl) _ _ Sub.refl ?_
   refine ⟨((i - 16:Nat):Int),by rw [wrap_i64 (by omega) (by omega)];omega,i - 16,rfl,by omega,?_⟩
   conv=>whnf
   generalize hn:nth _ _=o
   obtain rfl:o=some (sl32 ((sched l i).getD (i - 16) 0)):=hn.symm.trans (ld (by omega))
   clear hn
   refine ⟨_,add32 _ _,?_⟩
   refine ⟨((i - 7:Nat):Int),by rw [wrap_i64 (by omega) (by omega)];omega,i - 7,rfl,by omega,?_⟩
   conv=>whnf
   generalize hn:nth _ _=o
   obtain rfl:o=some (sl32 ((sched l i).getD (i - 7) 0)):=hn.symm.trans (ld (by omega))
   clear hn
   refine ⟨_,add32 _ _,_,add32 _ _,i,rfl,by omega,?_⟩
   refine z_xG (b:=Nat.ble (0+i*1+1) (arr 64 (sched l i)).length) (by rw [z_sn (by omega),Nat.ble_eq];omega) ?_
   refine ⟨((i+1:Nat):Int),by rw [wrap_i64 (by omega) (by omega)];rfl,?_⟩
   refine ⟨i+1,⟨by omega,by omega⟩,by omega,Ent.mk' ⟨rfl,rfl,rfl,rfl,trivial⟩ rfl (fun β w' hs=>?_)⟩
   have e1:putAll (arr 64 (sched l i)) (0+i*1) [sl32 ((sched l i).getD (i - 16) 0+s0 xa+(sched l i).getD (i - 7) 0+s1 xb)]=arr 64 (sched l (i+1)):=by
    rw [putAll,putAll,z_aT,Nat.zero_add,Nat.mul_one]
    have:=z_rY (n:=64) (ws:=sched l i) (by omega) ((sched l i).getD (i - 16) 0+s0 xa+(sched l i).getD (i - 7) 0+s1 xb)
    rw [hsl] at this
    rw [this,sched,if_neg (by omega),nxt,hxa,hxb]
   rw [<-e1]
   exact hs
  ·have hi64:i=64:=by omega
   have e2:arr 64 (sched l i)=ws.map sl32:=by
    rw [<-hws,hi64]
    exact z_s5 (z_gn l 64)
   clear hi64 hi1 hi2 hge
   rw [e2]
   conv=>whnf
   generalize hn:takeAt _ _ _=o
   obtain rfl:o=some (ws.map sl32):=hn.symm.trans (z_p5 (by rw [List.length_map,hwl];rfl))
   clear hn
   conv=>whnf
   generalize h1:Nat.beq _ _=b1
   generalize h2:allOne _=b2
   obtain rfl:b1=true:=h1.symm.trans (by rw [List.length_map,hwl];rfl)
   obtain rfl:b2=true:=h2.symm.trans (z_vC ws)
   clear h1 h2
   conv=>whnf
   generalize h1:Nat.ble _ _=b1
   obtain rfl:b1=true:=h1.symm.trans (by rw [List.length_map,hwl];rfl)
   clear h1
   conv=>whnf
   generalize hn:resOf _ _ _ _=o
   obtain rfl:o=some [.agg (ws.map sl32)]:=hn.symm.trans (by
    have hp:putAll (arr 64 []) 0 (ws.map sl32)=ws.map sl32:=z_og (by rw [List.length_map,hwl];rfl)
    show (match takeAt (putAll (arr 64 []) 0 (ws.map sl32)) 0 64 with | some xs=>some [SV.agg xs] | none=>none)=_
    rw [hp,z_p5 (by rw [List.length_map,hwl])])
   clear hn
   intro β w' hs
   refine ⟨?_,hs.chg⟩
   show Value.agg ((ws.map sl32).map (SL.val β)).toArray=_
   rw [z_yT]
def oddF (g:Nat):Fact:=rdF 1 (some ⟨g,0,none⟩) 64 (K.map u32)
def stF (b ty:Nat) (s:S8):Fact:=bkF b ty (s.l.map u32)
theorem z_oK (s:S8) (w:List UInt32) (n:Nat):rounds s w (n+1)=(rounds s w n).round (K.getD n 0) (w.getD n 0):=rfl
theorem K_len:K.length=64:=rfl
theorem z_tr {g:Nat} {w:World} (h:(oddF g).p w) {i:Nat} (hi:i<64):w.cell? ((⟨g,0,none⟩:Addr).add (i*1))=some (u32 (K.getD i 0)):=by
 obtain ⟨_,h2⟩:=h
 obtain ⟨ad,q,hc⟩:=h2 (by omega)
 obtain rfl:=Option.some.inj q
 rw [Nat.mul_one]
 refine hc i _ ?_
 rw [List.getElem?_map,List.getElem?_eq_getElem (by rw [K_len];exact hi)]
 simp [List.getD,List.getElem?_eq_getElem (show i<K.length by rw [K_len];exact hi)]
def mix (s t:S8) (i:Nat):List SL:=((s.add t).l.take i++s.l.drop i).map sl32
theorem z_uz (s t:S8): ∀i,i<9->(mix s t i).length=8
 | 0,_=>rfl | 1,_=>rfl | 2,_=>rfl | 3,_=>rfl | 4,_=>rfl | 5,_=>rfl | 6,_=>rfl | 7,_=>rfl | 8,_=>rfl
 | n+9,h=>by omega
theorem z_uF (s t:S8): ∀i,i<8->nth (mix s t i) i=some (sl32 (s.l.getD i 0))
 | 0,_=>rfl | 1,_=>rfl | 2,_=>rfl | 3,_=>rfl | 4,_=>rfl | 5,_=>rfl | 6,_=>rfl | 7,_=>rfl
 | n+8,h=>by omega
theorem z_vm (s t:S8): ∀i,i<8->putAll (mix s t i) i [sl32 (s.l.getD i 0+t.l.getD i 0)]=mix s t (i+1)
 | 0,_=>rfl | 1,_=>rfl | 2,_=>rfl | 3,_=>rfl | 4,_=>rfl | 5,_=>rfl | 6,_=>rfl | 7,_=>rfl
 | n+8,h=>by omega
theorem l_get (t:S8): ∀i,i<8->(t.l.map sl32)[i]?=some (sl32 (t.l.getD i 0))
 | 0,_=>rfl | 1,_=>rfl | 2,_=>rfl | 3,_=>rfl | 4,_=>rfl | 5,_=>rfl | 6,_=>rfl | 7,_=>rfl
 | n+8,h=>by omega
theorem z_zj (w:World) (b ty:Nat) (s:S8) (A:Option Addr) (l:List UInt8) (c:Nat) (hm:Mem w [stF b ty s,bsF A l,oddF 3]) (hc:l.length<=c) (hl:64<=l.length) (hcm:c<=maxLen):
  Con Tryz.prog z_e2 #[.pointer (some ⟨b,0,none⟩),.slice A l.length c] w [stF b ty s] fun v Fs=>v= .tuple #[]/\Fs=[stF b ty (Sha.step s l)]:=by
 obtain ⟨ws,hws⟩: ∃ws,W l=ws:=⟨_,rfl⟩
 have hwl:ws.length=64:=by rw [<-hws];exact W_len l
 have g:=z_lh w (Un [stF b ty s]) (bs:=[b])
 have hs0:Sat (z_cM w (Un [stF b ty s]) [b]) (Va.of fun _=>b) 1 [] [stF b ty s,bsF A l,oddF 3] w:=
  hm.sat rfl (ownIn (Gs:=[stF b ty s]) (Rs:=[bsF A l,oddF 3]) (fun g hg=>by
   rcases List.mem_cons.1 hg with rfl | hg
   ·rfl
   ·obtain rfl:=List.mem_singleton.1 hg;rfl)) ⟨Nat.le_refl _,fun i hi=>by
    have hi1:i<1:=hi
    have hi0:i=0:=by omega
    rw [hi0];rfl⟩
 have hs1:=hs0.toBk 0 rfl 0 Nat.zero_lt_one rfl
 refine z_ac (cx:=z_cM w (Un [stF b ty s]) [b]) g z_nP rfl rfl (β:=Va.of fun _=>b) [.c (.p 0 0),.c (.v (.slice A l.length c))] 1 [⟨0,ty,s.l.map sl32⟩] [bsF A l,oddF 3] rfl rfl (by rw [List.map_map] at hs1;exact hs1) ?_
 refine z_ah (fun β w' hs=>z_wK w' A l c (hs.get 0 rfl) hc hl hcm) ?_
 rw [hws]
 have ea:ofValue (.agg (ws.map u32).toArray)= .agg (ws.map sl32):=by simp only [ofValue,List.map_map];rfl
 rw [ea]
 conv=>whnf
 generalize h1:Nat.beq _ _=b1
 generalize h2:allOne _=b2
 obtain rfl:b1=true:=h1.symm.trans (by rw [List.length_map,hwl];rfl)
 obtain rfl:b2=true:=h2.symm.trans (z_vC ws)
 clear h1 h2
 conv=>whnf
 generalize h1:Nat.ble _ _=b1
 obtain rfl:b1=true:=h1.symm.trans (by rw [List.length_map,hwl];rfl)
 clear h1
 refine z_af g z_l4 (by kernel_rfl) _ _ Sub.refl ?_
 refine ⟨0,rfl,by decide,?_⟩
 refine ⟨1,rfl,by decide,?_⟩
 refine ⟨2,rfl,by decide,?_⟩
 refine ⟨3,rfl,by decide,?_⟩
 refine ⟨4,rfl,by decide,?_⟩
 refine ⟨5,rfl,by decide,?_⟩
 refine ⟨6,rfl,by decide,?_⟩
 refine ⟨7,rfl,by decide,?_⟩
 have hp:putAll (ti245.zero.map SL.v) 0 (ws.map sl32)=ws.map sl32:=z_og (by rw [List.length_map,hwl];rfl)
 refine z_ag (ι:=Nat) 2 (fun i=>[(0,.c (.p 0 0)),(4,.c (.p 1 0)),(5,.c (sl32 (rounds s ws i).a)),(6,.c (sl32 (rounds s ws i).b)),(7,.c (sl32 (rounds s ws i).c)),(8,.c (sl32 (rounds s ws i).d)),(9,.c (sl32 (rounds s ws i).e)),(10,.c (sl32 (rounds s ws i).f)),(11,.c (sl32 (rounds s ws i).g)),(12,.c (sl32 (rounds s ws i).h)),(55,.c (.v (.int .i64 i)))])
  (fun _=>[⟨1,245,ws.map sl32⟩,⟨0,ty,s.l.map sl32⟩]) (fun _=>[bsF A l,oddF 3])
  (fun i=>i<=64) (fun i=>64 - i) 0 (Nat.zero_le _) (Ent.mk' ⟨rfl,rfl,rfl,rfl,rfl,rfl,rfl,rfl,rfl,rfl,rfl,trivial⟩ rfl (fun β w' hs=>by rw [<-hp];exact hs)) g ?_
 intro i hi
 obtain ⟨r,hr⟩: ∃r,rounds s ws i=r:=⟨_,rfl⟩
 rw [hr]
 obtain ⟨xa,xb,xc,xd,xe,xf,xg,xh⟩:=r
 refine BIf.dec (fun hlt=>?_) (fun hge=>?_)
 ·have hlt:i<64:=by omega
  refine z_ah (fun β w' hs=>z_k8 w' xe 6 (by omega) (by omega)) ?_
  refine z_ah (fun β w' hs=>z_k8 w' xe 11 (by omega) (by omega)) ?_
  refine ⟨_,xor32 _ _,?_⟩
  refine z_ah (fun β w' hs=>z_k8 w' xe 25 (by omega) (by omega)) ?_
  refine ⟨_,xor32 _ _,?_⟩
  refine ⟨_,and32 _ _,_,not32 _,_,and32 _ _,_,xor32 _ _,?_⟩
  refine z_af g z_mj (by kernel_rfl) _ _ Sub.refl ?_
  refine ⟨_,add32 _ _,_,add32 _ _,i,rfl,hlt,u32 (K.getD i 0),fun β w' hs=>z_tr (hs.get 1 rfl) hlt,_,add32 _ _,i,rfl,hlt,?_⟩
  conv=>whnf
  generalize hn:nth _ _=o
  obtain rfl:o=some (sl32 (ws.getD i 0)):=hn.symm.trans (by
   show nth (ws.map sl32) (0+i*1)=_
   rw [z_aX,Nat.zero_add,Nat.mul_one,List.getElem?_map,List.getElem?_eq_getElem (by omega)]
   simp [List.getD,List.getElem?_eq_getElem (show i<ws.length by omega)])
  clear hn
  refine ⟨_,add32 _ _,?_⟩
  refine z_ah (fun β w' hs=>z_k8 w' xa 2 (by omega) (by omega)) ?_
  refine z_ah (fun β w' hs=>z_k8 w' xa 13 (by omega) (by omega)) ?_
  refine ⟨_,xor32 _ _,?_⟩
  refine z_ah (fun β w' hs=>z_k8 w' xa 22 (by omega) (by omega)) ?_
  refine ⟨_,xor32 _ _,?_⟩
  refine ⟨_,and32 _ _,_,and32 _ _,_,xor32 _ _,_,and32 _ _,_,xor32 _ _,?_⟩
  refine ⟨_,add32 _ _,_,add32 _ _,_,add32 _ _,?_⟩
  refine ⟨((i+1:Nat):Int),by rw [wrap_i64 (by omega) (by omega)];rfl,?_⟩
  refine ⟨i+1,by omega,by omega,Ent.same ?_ rfl⟩
  rw [z_oK,hr]
  exact ⟨rfl,rfl,rfl,rfl,rfl,rfl,rfl,rfl,rfl,rfl,rfl,trivial⟩
 ·obtain ⟨t,ht⟩: ∃t,(⟨xa,xb,xc,xd,xe,xf,xg,xh⟩:S8)=t:=⟨_,rfl⟩
  have hst:Sha.step s l=s.add t:=by
   have:i=64:=by omega
   rw [Sha.step,hws,<-ht,<-hr,this]
  rw [hst]
  refine z_ag (ι:=Nat) 2 (fun i=>[(0,.c (.p 0 0)),(129,.agg [sl32 xa,sl32 xb,sl32 xc,sl32 xd,sl32 xe,sl32 xf,sl32 xg,sl32 xh]),(130,.c (.v (.int .i64 i)))])
   (fun i=>[⟨1,245,ws.map sl32⟩,⟨0,ty,mix s t i⟩]) (fun _=>[bsF A l,oddF 3])
   (fun i=>i<=8) (fun i=>8 - i) 0 (Nat.zero_le _) (Ent.same ⟨rfl,rfl,rfl,trivial⟩ rfl) g ?_
  intro j hj
  refine BIf.dec (fun hlt=>?_) (fun hge=>?_)
  ·have hlt:j<8:=by omega
   refine ⟨j,sl32 (t.l.getD j 0),rfl,hlt,by rw [<-ht];show ((⟨xa,xb,xc,xd,xe,xf,xg,xh⟩:S8).l.map sl32)[j*1]?=_;rw [Nat.mul_one];exact l_get _ j hlt,?_⟩
   refine z_af g z_lg (by kernel_rfl) [] [bsF A l,oddF 3] (Sub.of (List.nil_sublist _) (List.Sublist.refl _)) ?_
   refine ⟨j,rfl,hlt,?_⟩
   conv=>whnf
   generalize hn:nth _ _=o
   obtain rfl:o=some (sl32 (s.l.getD j 0)):=hn.symm.trans (by
    show nth (mix s t j) (0+j*1)=_
    rw [Nat.zero_add,Nat.mul_one]
    exact z_uF s t j hlt)
   clear hn
   refine ⟨Sub.of (List.nil_sublist _) (List.Sublist.refl _),_,add32 _ _,j,rfl,hlt,?_⟩
   conv=>whnf
   generalize h1:Nat.ble _ _=b1
   obtain rfl:b1=true:=h1.symm.trans (by
    show Nat.ble (0+j*1+1) (mix s t j).length=true
    rw [z_uz s t j (by omega),Nat.ble_eq];omega)
   clear h1
   refine ⟨Sub.of (List.nil_sublist _) (List.Sublist.refl _),?_⟩
   refine ⟨((j+1:Nat):Int),by rw [wrap_i64 (by omega) (by omega)];rfl,?_⟩
   refine ⟨j+1,by omega,by omega,Ent.mk' ⟨rfl,rfl,rfl,trivial⟩ rfl (fun β w' hs=>?_)⟩
   have e1:=z_vm s t j hlt
   rw [<-e1]
   have e3:0+j*1=j:=by omega
   have hs2:Sat (z_cM w (Un [stF b ty s]) [b]) β 2 [⟨1,245,ws.map sl32⟩,⟨0,ty,putAll (mix s t j) (0+j*1) [sl32 (s.l.getD j 0+t.l.getD j 0)]⟩] [bsF A l,oddF 3] w':=hs
   rw [e3] at hs2
   exact hs2
  ·obtain rfl:j=8:=by omega
   intro β w' hs
   have h1:=hs.weaken (List.sublist_cons_self _ _) (List.Sublist.refl _)
   have h2:=h1.ofBk
   have hb:β 0=b:=h2.fix.2 0 (Nat.zero_lt_one)
   refine h2.fin [0] ⟨rfl,?_⟩
   show [bkF (β 0) ty ((mix s t 8).map (SL.val β))]=[stF b ty (s.add t)]
   rw [hb]
   rfl
theorem z_qc (x:UInt32):IntKind.u8.wrap (x.toNat:Int)=(x.toUInt8.toNat:Int):=by
 rw [show IntKind.u8.wrap (x.toNat:Int)=(x.toNat:Int)%256 by simp [IntKind.wrap,IntKind.bits,IntKind.signed],UInt32.toNat_toUInt8]
 omega
def outN (s:S8) (i:Nat):List UInt8:=(s.l.take i).flatMap b4
theorem z_qL (s:S8): ∀i,i<8->outN s i++b4 (s.l.getD i 0)=outN s (i+1)
 | 0,_=>rfl | 1,_=>rfl | 2,_=>rfl | 3,_=>rfl | 4,_=>rfl | 5,_=>rfl | 6,_=>rfl | 7,_=>rfl
 | n+8,h=>by omega
theorem z_qQ (w:World) (b ty:Nat) (s:S8) (hm:Mem w [stF b ty s]):
  Con Tryz.prog z_hR #[.pointer (some ⟨b,0,none⟩)] w [stF b ty s] fun v Fs=> ∃A c,v= .slice A 32 c/\32<=c/\c<=maxLen/\Fs=[stF b ty s,browF z_ab A (out s) c]:=by
 have g:=z_kW w (Un [stF b ty s]) (bs:=[b])
 have hs0:Sat (z_dH w (Un [stF b ty s]) [b]) (Va.of fun _=>b) 1 [] [stF b ty s] w:=
  hm.sat rfl (ownIn (Gs:=[stF b ty s]) (Rs:=[]) (fun g hg=>by cases hg)) ⟨Nat.le_refl _,fun i hi=>by
    have hi1:i<1:=hi
    have hi0:i=0:=by omega
    rw [hi0];rfl⟩
 have hs1:=hs0.toBk 0 rfl 0 Nat.zero_lt_one rfl
 rw [List.map_map] at hs1
 refine z_ac (cx:=z_dH w (Un [stF b ty s]) [b]) g z_m9 rfl rfl (β:=Va.of fun _=>b) [.c (.p 0 0)] 1 [⟨0,ty,s.l.map sl32⟩] [browF z_ab none [] 0] rfl rfl (hs1.nilRow _ _) ?_
 refine z_ag (ι:=Nat×Option Addr×Nat) 1 (fun i=>[(6,.c (.p 0 0)),(7,.c (.v (.int .i64 i.1))),(3,.c (.v (.slice i.2.1 (4*i.1) i.2.2)))]) (fun _=>[⟨0,ty,s.l.map sl32⟩])
  (fun i=>[rowF z_ab 1 (.slice i.2.1 (4*i.1) i.2.2) (4*i.1) ((outN s i.1).map byte)])
  (fun i=>i.1<=8/\4*i.1<=i.2.2/\i.2.2<=maxLen) (fun i=>8 - i.1) (0,none,0) ⟨Nat.zero_le _,Nat.zero_le _,Nat.zero_le _⟩ (Ent.same ⟨rfl,rfl,rfl,trivial⟩ rfl) g ?_
 rintro ⟨i,A,c⟩ ⟨hi,hc,hcm⟩
 simp only at hi hc hcm
 refine BIf.dec (fun hlt=>?_) (fun hge=>?_)
 ·have hlt:i<8:=by omega
  obtain ⟨x,hx⟩: ∃x,s.l.getD i 0=x:=⟨_,rfl⟩
  refine ⟨i,rfl,hlt,?_⟩
  conv=>whnf
  generalize hn:nth _ _=o
  obtain rfl:o=some (sl32 x):=hn.symm.trans (by
   show nth (s.l.map sl32) (0+i*1)=_
   rw [Nat.zero_add,Nat.mul_one,<-hx,z_aX]
   exact l_get s i hlt)
  clear hn
  refine ⟨by omega,_,shr32 x 24 (by omega),_,z_qc _,by omega,_,shr32 x 16 (by omega),_,z_qc _,by omega,_,shr32 x 8 (by omega),_,z_qc _,_,z_qc _,?_⟩
  intro b2
  refine ⟨1,4*i,4*(i+1),(outN s i).map byte,(b4 x).map byte,_,rfl,fun β w hs=>z_aj (hs.get 0 rfl),z_as _,by omega,rfl,by rw [maxLen_eq];omega,by show 4*(i+1)*1<=_;omega,?_⟩
  intro A' c' h1 h2 _
  refine ⟨((i+1:Nat):Int),by rw [wrap_i64 (by omega) (by omega)];rfl,?_⟩
  refine ⟨(i+1,A',c'),⟨by show i+1<=8;omega,h1,h2⟩,by show 8 - (i+1)<8 - i;omega,Ent.mk' ⟨rfl,rfl,rfl,trivial⟩ rfl (fun β w' hs=>?_)⟩
  have e1:=z_qL s i hlt
  rw [hx] at e1
  have h3:=hs.weaken (List.Sublist.refl _) (List.sublist_cons_self _ _)
  show Sat _ _ _ _ [rowF z_ab 1 (.slice A' (4*(i+1)) c') (4*(i+1)) ((outN s (i+1)).map byte)] _
  rw [<-e1,List.map_append]
  exact h3
 ·obtain rfl:i=8:=by omega
  intro β w' hs
  have h2:=hs.ofBk
  have hb:β 0=b:=h2.fix.2 0 (Nat.zero_lt_one)
  refine h2.fin [0,1] ⟨A,c,rfl,hc,hcm,?_⟩
  show [bkF (β 0) ty ((s.l.map sl32).map (SL.val β)),_]=[stF b ty s,_]
  rw [hb]
  rfl
theorem z_mm (x:Nat):IntKind.u8.wrap (x:Int)=((UInt8.ofNat x).toNat:Int):=by
 rw [show IntKind.u8.wrap (x:Int)=(x:Int)%256 by simp [IntKind.wrap,IntKind.bits,IntKind.signed],UInt8.toNat_ofNat']
 omega
theorem z_aD (x:Int):IntKind.u64.wrap x=x%18446744073709551616:=by simp [IntKind.wrap,IntKind.bits,IntKind.signed]
theorem z_tM (n:Nat): ∀i,i<8->(Sha.long n).take i++[UInt8.ofNat (n/2^(8*(7 - i)))]=(Sha.long n).take (i+1)
 | 0,_=>rfl | 1,_=>rfl | 2,_=>rfl | 3,_=>rfl | 4,_=>rfl | 5,_=>rfl | 6,_=>rfl | 7,_=>rfl
 | n+8,h=>by omega
theorem z_y8 (w:World) (n:Nat):
  Con Tryz.prog z_pE #[.int .u64 n] w [] fun v Fs=> ∃A c,v= .slice A 8 c/\8<=c/\c<=maxLen/\Fs=[browF z_ab A (Sha.long n) c]:=by
 have g:=z_qD w (Un [])
 refine z_ac (cx:=z_os w (Un [])) g z_ul rfl rfl (β:=Va.z) [.c (.v (.int .u64 n))] 0 [] [browF z_ab none [] 0] rfl rfl ((Sat.start rfl).nilRow _ _) ?_
 refine z_ag (ι:=Nat×Option Addr×Nat) 0 (fun i=>[(0,.c (.v (.int .u64 n))),(5,.c (.v (.int .i64 i.1))),(3,.c (.v (.slice i.2.1 i.1 i.2.2)))]) (fun _=>[])
  (fun i=>[rowF z_ab 1 (.slice i.2.1 i.1 i.2.2) i.1 (((Sha.long n).take i.1).map byte)])
  (fun i=>i.1<=8/\i.1<=i.2.2/\i.2.2<=maxLen) (fun i=>8 - i.1) (0,none,0) ⟨Nat.zero_le _,Nat.zero_le _,Nat.zero_le _⟩ (Ent.same ⟨rfl,rfl,rfl,trivial⟩ rfl) g ?_
 rintro ⟨i,A,c⟩ ⟨hi,hc,hcm⟩
 simp only at hi hc hcm
 refine BIf.dec (fun hlt=>?_) (fun hge=>?_)
 ·have hlt:i<8:=by omega
  refine ⟨((7 - i:Nat):Int),by rw [wrap_i64 (by omega) (by omega)];omega,((8*(7 - i):Nat):Int),by rw [wrap_i64 (by omega) (by omega)];omega,?_⟩
  refine ⟨by omega,((n/2^(8*(7 - i)):Nat):Int),?_,_,z_mm _,?_⟩
  ·have h1:min ((8*(7 - i):Nat):Int).toNat IntKind.u64.bits=8*(7 - i):=by show min (8*(7 - i)) 64=_;omega
   rw [h1]
   have:(2^(8*(7 - i)):Int)=((2^(8*(7 - i)):Nat):Int):=by push_cast;rfl
   rw [this,Int.fdiv_eq_ediv_of_nonneg _ (Int.natCast_nonneg _)]
   exact (Int.natCast_ediv _ _).symm
  intro b2
  refine ⟨1,i,i+1,((Sha.long n).take i).map byte,[UInt8.ofNat (n/2^(8*(7 - i)))].map byte,_,rfl,fun β w hs=>z_aj (hs.get 0 rfl),z_as _,rfl,rfl,by rw [maxLen_eq];omega,by show (i+1)*1<=_;omega,?_⟩
  intro A' c' h1 h2 _
  refine ⟨((i+1:Nat):Int),by rw [wrap_i64 (by omega) (by omega)];rfl,?_⟩
  refine ⟨(i+1,A',c'),⟨by show i+1<=8;omega,h1,h2⟩,by show 8 - (i+1)<8 - i;omega,Ent.mk' ⟨rfl,rfl,rfl,trivial⟩ rfl (fun β w' hs=>?_)⟩
  have h3:=hs.weaken (List.Sublist.refl _) (List.sublist_cons_self _ _)
  show Sat _ _ _ _ [rowF z_ab 1 (.slice A' (i+1) c') (i+1) (((Sha.long n).take (i+1)).map byte)] _
  rw [<-z_tM n i hlt,List.map_append]
  exact h3
 ·obtain rfl:i=8:=by omega
  intro β w' hs
  exact hs.fin [0] ⟨A,c,rfl,hc,hcm,rfl⟩
theorem z_y6 (w:World) (n:Nat) (hn:n<=140737488355328):
  Con Tryz.prog z_p1 #[.int .u64 n] w [] fun v Fs=> ∃A c,v= .slice A (Sha.ends n).length c/\(Sha.ends n).length<=c/\c<=maxLen/\Fs=[browF z_ab A (Sha.ends n) c]:=by
 have g:=z_qf w (Un [])
 have hz:zeros n<64:=by unfold zeros;omega
 refine z_ac (cx:=z_oZ w (Un [])) g z_t6 rfl rfl (β:=Va.z) [.c (.v (.int .u64 n))] 0 [] [] rfl rfl (Sat.start rfl) ?_
 intro b0
 refine z_ag (ι:=Nat×Option Addr×Nat) 0 (fun i=>[(0,.c (.v (.int .u64 n))),(3,.c (.v (.slice i.2.1 (i.1+1) i.2.2)))]) (fun _=>[])
  (fun i=>[rowF z_ab 1 (.slice i.2.1 (i.1+1) i.2.2) (i.1+1) (((0x80:UInt8)::List.replicate i.1 0).map byte)])
  (fun i=>i.1<=zeros n/\i.1+1<=i.2.2/\i.2.2<=maxLen) (fun i=>zeros n - i.1) (0,some ⟨b0,0,none⟩,1) ⟨Nat.zero_le _,Nat.le_refl _,by show 1<=maxLen;decide⟩ (Ent.same ⟨rfl,rfl,trivial⟩ rfl) g ?_
 rintro ⟨i,A,c⟩ ⟨hi,hc,hcm⟩
 simp only at hi hc hcm
 obtain ⟨r,hr⟩: ∃r:Nat,(n+(i+1)+8)%64=r:=⟨_,rfl⟩
 refine ⟨((i+1:Nat):Int),by rw [z_aD];omega,((n+(i+1):Nat):Int),by rw [z_aD];omega,((n+(i+1)+8:Nat):Int),by rw [z_aD];omega,by omega,(r:Int),by rw [Int.tmod_eq_emod_of_nonneg (by omega)];omega,?_⟩
 refine BIf.not (BIf.dec (fun h0=>?_) (fun h0=>?_))
 ·have hiz:i=zeros n:=by unfold zeros at *;omega
  refine ⟨((8*n:Nat):Int),by rw [z_aD];omega,?_⟩
  refine z_aa [] (fun β w' hs=>z_y8 w' (8*n)) ?_
  rintro v Fs ⟨A2,c2,rfl,h1,h2,rfl⟩
  have hl:(Sha.ends n).length=i+1+8:=by rw [Sha.ends_len,hiz];omega
  refine ⟨1,i+1,(Sha.ends n).length,_,(Sha.long (8*n)).map byte,(Sha.ends n).map byte,rfl,fun β w hs=>z_aj (hs.get 0 rfl),z_as _,hl.symm,by rw [<-List.map_append,hiz];rfl,by rw [maxLen_eq,hl];omega,by show (Sha.ends n).length*1<=_;omega,?_⟩
  intro A' c' h3 h4 _
  intro β w' hs
  exact hs.fin [1] ⟨A',c',rfl,h3,h4,rfl⟩
 ·have hiz:i<zeros n:=by
   rcases Nat.lt_or_ge i (zeros n) with h | h
   ·exact h
   ·exfalso
    apply h0
    have:i=zeros n:=by omega
    subst this
    unfold zeros at hr
    omega
  intro b2
  refine ⟨1,i+1,i+1+1,((0x80:UInt8)::List.replicate i 0).map byte,[(0:UInt8)].map byte,_,rfl,fun β w hs=>z_aj (hs.get 0 rfl),z_as _,rfl,rfl,by rw [maxLen_eq];omega,by show (i+1+1)*1<=_;omega,?_⟩
  intro A' c' h1 h2 _
  refine ⟨(i+1,A',c'),⟨hiz,h1,h2⟩,by show zeros n - (i+1)<zeros n - i;omega,Ent.mk' ⟨rfl,rfl,trivial⟩ rfl (fun β w' hs=>?_)⟩
  have h3:=hs.weaken (List.Sublist.refl _) (List.sublist_cons_self _ _)
  show Sat _ _ _ _ [rowF z_ab 1 (.slice A' (i+1+1) c') (i+1+1) (((0x80:UInt8)::List.replicate (i+1) 0).map byte)] _
  rw [List.replicate_succ',<-List.cons_append,List.map_append]
  exact h3
theorem z_lP (w:World) (A:Option Addr) (l:List UInt8) (c:Nat) (hr:Bs w A l) (hn:l.length<=140737488355328):
  Con Tryz.prog z_mD #[.slice A l.length c] w [] fun v Fs=> ∃A' c',v= .slice A' l.length c'/\l.length<=c'/\c'<=maxLen/\Fs=[browF z_ab A' l c']:=by
 refine z_ac (cx:=z_k6 w (Un [])) (z_nS w (Un [])) z_qF rfl rfl (β:=Va.z) [.c (.v (.slice A l.length c))] 0 [] [bsF A l] rfl rfl ((Sat.start rfl).rd (fun _ h=>by cases h) hr) ?_
 refine BIf.mk (fun h=>?_) (fun h=>?_)
 ·intro β w' hs
  have hA:A=none:=by simpa using h
  subst hA
  have hl:l=[]:=by
   cases l with
   | nil=>rfl
   | cons x r=>obtain ⟨ad,q⟩:=Bs.addr hr (by simp);cases q
  subst hl
  exact (hs.nilRow z_ab 1).fin [0] ⟨none,0,rfl,Nat.le_refl _,Nat.zero_le _,rfl⟩
 intro b
 refine ⟨0,0,l.length,[],l.map byte,_,rfl,fun β w hs=>hs.get 1 rfl,z_as l,Nat.zero_add _,rfl,by rw [maxLen_eq];omega,by show l.length*1<=_;omega,?_⟩
 intro A' c' h1 h2 h3 β w' hs
 exact hs.fin [0] ⟨A',c',rfl,h1,h2,rfl⟩
def blk (q:List UInt8) (i:Nat):List UInt8:=(q.drop (64*i)).take 64
def blks (q:List UInt8) (n:Nat):List (List UInt8):=(List.range n).map (blk q)
theorem z_rS (q:List UInt8) (n:Nat):blks q (n+1)=blks q n++[blk q n]:=by simp [blks,List.range_succ]
theorem go_eq: ∀(n:Nat) (s:S8) (q:List UInt8),go n s q=(blks q n).foldl Sha.step s
 | 0,s,q=>rfl
 | n+1,s,q=>by
  rw [go,go_eq n]
  have:blks q (n+1)=q.take 64::blks (q.drop 64) n:=by
   simp only [blks,List.range_succ_eq_map,List.map_cons,List.map_map]
   congr 1
   refine List.map_congr_left fun i _=>?_
   simp only [Function.comp,blk,List.drop_drop]
   rw [show 64*(i+1)=64+64*i by omega]
  rw [this,List.foldl_cons]
def insB (x:List UInt8) (args:Array Value) (X:Fact):Prop:=x.length=64/\ ∃B,args= #[.slice B 64 64]/\X=bsF B x
theorem z_rl (l:Nat) (w:World) (bx:Nat) (A:Option Addr) (p:List UInt8) (c:Nat) (f0 R:Fact) (J Jx:List (List UInt8)->Fact->Prop) (hJ0:J [] f0) (hJo: ∀pre f,J pre f->f.own=true) (hRo:R.own=false) (hY:Yc Tryz.prog l J Jx R (fun _=>insB))
  (hp:p.length<=70368744177664) (hm:Mem w (f0::R::[bkF bx z_al [.slice A p.length c],bsF A p])):
  Con Tryz.prog z_hd #[.func (.yield l) #[] #[],.pointer (some ⟨bx,0,none⟩)] w [f0,bkF bx z_al [.slice A p.length c]]
   (fun _ Fs=> ∃f Fs',Fs=f::Fs'/\((∃xs,J xs f/\xs=blks (p++ends p.length) ((p++ends p.length).length/64)/\Fs'=[])\/(∃pre,Jx pre f/\Fs'=[]))):=by
 have g:=z_na w (Un [f0,bkF bx z_al [.slice A p.length c]]) [bx]
 have hs0:Sat (z_f5 w (Un [f0,bkF bx z_al [.slice A p.length c]]) [bx]) (Va.of fun _=>bx) 1 [] (f0::R::[bkF bx z_al [.slice A p.length c],bsF A p]) w:=by
  refine hm.sat rfl (fun f hf ho k hk=>?_) ⟨Nat.le_refl 1,fun i hi=>by obtain rfl:i=0:=Nat.lt_one_iff.1 hi;rfl⟩
  simp only [List.mem_cons,List.not_mem_nil,or_false] at hf
  rcases hf with rfl | rfl | rfl | rfl
  ·exact ⟨_,by simp,hk⟩
  ·rw [hRo] at ho;cases ho
  ·exact ⟨_,by simp,hk⟩
  ·cases ho
 have hs1:=hs0.toBk 2 rfl 0 Nat.zero_lt_one rfl
 have hf0:=hJo _ _ hJ0
 refine z_ac (cx:=z_f5 w (Un [f0,bkF bx z_al [.slice A p.length c]]) [bx]) g z_pA rfl rfl (β:=Va.of fun _=>bx) [.c (.v (.func (.yield l) #[] #[])),.c (.p 0 0)] 1 [⟨0,z_al,[.v (.slice A p.length c)]⟩] [f0,R,bsF A p] rfl rfl hs1 ?_
 refine z_af g z_nZ (by kernel_rfl) [⟨0,z_al,[.v (.slice A p.length c)]⟩] [f0,R,bsF A p] Sub.refl ?_
 refine ⟨((p.length:Nat):Int),by rw [z_aD];omega,?_⟩
 refine z_aa [] (fun β w' hs=>z_lP w' A p c (hs.get 2 rfl) (by omega)) ?_
 rintro v Fs ⟨A1,c1,rfl,h1,h2,rfl⟩
 refine ⟨Sub.dropF 1 rfl,?_⟩
 refine z_aa [] (fun β w' hs=>z_y6 w' p.length (by omega)) ?_
 rintro v Fs ⟨A2,c2,rfl,h3,h4,rfl⟩
 refine ⟨Sub.dropF 2 rfl,?_⟩
 obtain ⟨q,hq⟩: ∃q,p++ends p.length=q:=⟨_,rfl⟩
 have hql:q.length=p.length+(ends p.length).length:=by rw [<-hq,List.length_append]
 have hel:(ends p.length).length<73:=by rw [Sha.ends_len];unfold zeros;omega
 have hqm:q.length%64=0:=by rw [<-hq];exact Sha.pad_mod p
 rw [hq]
 refine ⟨1,p.length,q.length,_,(ends p.length).map byte,q.map byte,rfl,fun β w hs=>z_aj (hs.get 0 rfl),z_as _,hql.symm,by rw [<-hq,List.map_append],by rw [maxLen_eq];omega,by show q.length*1<=_;omega,?_⟩
 intro A3 c3 h5 h6 _
 refine ⟨Sub.dropF 2 rfl,?_⟩
 refine z_ag (ι:=Nat×Option Addr×Nat×Fact) 1 (fun i=>[(0,.c (.v (.func (.yield l) #[] #[]))),(3,.c (.v (.slice i.2.1 (q.length - 64*i.1) i.2.2.1)))]) (fun _=>[⟨0,z_al,[.v (.slice A p.length c)]⟩])
  (fun i=>[browF z_ab A3 q c3,i.2.2.2,R])
  (fun i=>64*i.1<=q.length/\q.length - 64*i.1<=i.2.2.1/\i.2.2.1<=maxLen/\J (blks q i.1) i.2.2.2/\(∀w,Bs w A3 q->Bs w i.2.1 (q.drop (64*i.1)))/\(∀ad,i.2.1=some ad-> ∃ad3,A3=some ad3/\ad.block=ad3.block)) (fun i=>q.length - 64*i.1) (0,A3,c3,f0)
  ⟨Nat.zero_le _,h5,h6,hJ0,fun w h=>h,fun ad h=>⟨ad,h,rfl⟩⟩ (Ent.mk' ⟨rfl,rfl,trivial⟩ rfl (fun β w' hs=>hs.weaken (List.Sublist.refl _) (List.Sublist.cons _ (List.Sublist.cons_cons _ (List.Sublist.cons_cons _ (List.Sublist.cons_cons _ (List.nil_sublist _))))))) g ?_
 rintro ⟨i,B,cap,f⟩ ⟨hi,hcap,hcm,hJ,hB,hBD⟩
 simp only at hi hcap hcm hJ hB hBD
 have hfo:=hJo _ _ hJ
 obtain ⟨m,hm⟩: ∃m,q.length - 64*i=m:=⟨_,rfl⟩
 have hmc:m<=cap:=by omega
 rw [hm]
 have hdl:(q.drop (64*i)).length=m:=by rw [List.length_drop];omega
 refine BIf.dec (fun h0=>?_) (fun h0=>?_)
 ·have hm64:64<=m:=by omega
  have hbl:(blk q i).length=64:=by unfold blk;rw [List.length_take,hdl];omega
  refine ⟨64,64,0,64,64,_,rfl,rfl,rfl,by show 64<=cap;omega,by omega,by omega,rfl,rfl,rfl,?_⟩
  have hcutD: ∀k,(bsF (cutA B 64 0 1) (blk q i)).D k->(browF z_ab A3 q c3).D k:=by
   rintro k ⟨_,ad,had,rfl⟩
   simp only [cutA] at had
   rw [if_neg (by decide)] at had
   cases B with
   | none=>cases had
   | some ad0=>
    obtain rfl:ad0.add (0*1)=ad:=by simpa using had
    obtain ⟨ad3,h7,h8⟩:=hBD ad0 rfl
    subst h7
    have:(ad0.add (0*1)).block=ad0.block:=by unfold Addr.add;split<;>rfl
    show some ad3.block=some (ad0.add (0*1)).block
    rw [this,h8]
  refine z_dF (x:=blk q i) (X:=bsF (cutA B 64 0 1) (blk q i)) hY 1 2 rfl hJ hfo rfl hRo (by decide) (fun β=>⟨hbl,_,rfl,rfl⟩) rfl (fun β w' hs=>⟨?_,fun k hk=>hs.getLt 0 rfl k (hcutD k hk),fun k hk hk'=>?_⟩) ?_ ?_
  ·have h7:=Bs.cut (hB w' (z_aj (hs.get 0 rfl))) (c:=cap) (m:=64) (i:=0) (j:=64) (by omega) (.inr (Nat.le_refl _)) (by omega) (by omega) (by omega)
   have h8:Rd 1 (cutA B 64 0 1) (blk q i).length ((blk q i).map byte) w':=by rw [hbl];exact h7
   exact h8
  ·exact hs.apart (i:=1) (j:=0) rfl rfl (by decide) (.inr rfl) k hk (hcutD k hk')
  ·intro f2 hfo2 hJ2
   refine ⟨cap,m,64,m - 64,cap - 64,_,rfl,rfl,rfl,Nat.le_refl _,hmc,hm64,rfl,rfl,rfl,?_⟩
   refine ⟨(i+1,cutA B cap 64 1,cap - 64,f2),⟨by show 64*(i+1)<=_;omega,by show q.length - 64*(i+1)<=cap - 64;omega,by show cap - 64<=_;omega,by show J (blks q (i+1)) f2;rw [z_rS];exact hJ2,fun w' h=>?_,fun ad had=>?_⟩,by show q.length - 64*(i+1)<m;omega,Ent.mk' ⟨rfl,?_,trivial⟩ rfl (fun β w' hs=>?_)⟩
   ·have h7:=Bs.cutB (hB w' h) (c:=cap) (i:=64) (j:=m) (m:=q.drop (64*(i+1))) (by omega) hm64 (by omega) (by
     rw [List.drop_drop,show 64*i+64=64*(i+1) by omega,List.take_of_length_le]
     rw [List.length_drop];omega)
    exact h7
   ·have had':cutA B cap 64 1=some ad:=had
    unfold cutA at had'
    split at had'
    ·exact hBD ad had'
    ·cases B with
     | none=>cases had'
     | some ad0=>
      obtain rfl:ad0.add (64*1)=ad:=by simpa using had'
      obtain ⟨ad3,h7,h8⟩:=hBD ad0 rfl
      refine ⟨ad3,h7,?_⟩
      rw [<-h8]
      unfold Addr.add;split<;>rfl
   ·show _=some (SV.c (.v (.slice _ (q.length - 64*(i+1)) _)))
    rw [show q.length - 64*(i+1)=m - 64 by omega]
    rfl
   ·exact (hs.keepB (List.Sublist.refl _)).perm [1,0,2]
  ·intro f2 hfo2 hJ2 β w' hs
   exact hs.fin [0] ⟨f2,[],rfl,.inr ⟨_,hJ2,rfl⟩⟩ rfl rfl rfl ⟨hfo2,trivial⟩
 ·have hi2:i=q.length/64:=by omega
  intro β w' hs
  exact hs.fin [1] ⟨f,[],rfl,.inl ⟨_,hJ,by rw [hi2],rfl⟩⟩ rfl rfl rfl ⟨hfo,trivial⟩
theorem z_ky {e size k n c:Nat} {A:Option Addr} {xs ys:List Value}: ∀g,(rdF size A k xs).D g->(rowF e size (.slice A n c) n ys).D g:=by
 rintro g ⟨_,ad,rfl,rfl⟩
 rfl
theorem Mem.lastRd {w:World} {f R X:Fact} {e c:Nat} {A:Option Addr} {l:List UInt8} (h:Mem w [f,R,X,browF e A l c]):Mem w [f,R,X,bsF A l]:=by
 have hp:Bs w A l:=z_aj (h.fact (browF e A l c) (by simp))
 refine ⟨fun g hg=>?_,fun g hg k hk=>?_,?_⟩
 ·simp only [List.mem_cons,List.not_mem_nil,or_false] at hg
  rcases hg with rfl | rfl | rfl | rfl
  ·exact h.fact _ (by simp)
  ·exact h.fact _ (by simp)
  ·exact h.fact _ (by simp)
  ·exact hp
 ·simp only [List.mem_cons,List.not_mem_nil,or_false] at hg
  rcases hg with rfl | rfl | rfl | rfl
  ·exact h.flt g (by simp) k hk
  ·exact h.flt g (by simp) k hk
  ·exact h.flt g (by simp) k hk
  ·exact h.flt (browF e A l c) (by simp) k (z_ky k hk)
 ·obtain ⟨h1,h2⟩:=List.pairwise_cons.1 h.sepf
  obtain ⟨h3,h4⟩:=List.pairwise_cons.1 h2
  obtain ⟨h5,_⟩:=List.pairwise_cons.1 h4
  refine List.pairwise_cons.2 ⟨fun g hg ho=>?_,List.pairwise_cons.2 ⟨fun g hg ho=>?_,List.pairwise_cons.2 ⟨fun g hg ho=>?_,List.pairwise_singleton _ _⟩⟩⟩
  ·simp only [List.mem_cons,List.not_mem_nil,or_false] at hg
   rcases hg with rfl | rfl | rfl
   ·exact h1 _ (by simp) ho
   ·exact h1 _ (by simp) ho
   ·exact fun k hk q=>h1 (browF e A l c) (by simp) (.inr rfl) k hk (z_ky k q)
  ·simp only [List.mem_cons,List.not_mem_nil,or_false] at hg
   rcases hg with rfl | rfl
   ·exact h3 _ (by simp) ho
   ·exact fun k hk q=>h3 (browF e A l c) (by simp) (.inr rfl) k hk (z_ky k q)
  ·obtain rfl:=List.mem_singleton.1 hg
   exact fun k hk q=>h5 (browF e A l c) (by simp) (.inr rfl) k hk (z_ky k q)
theorem z_sI (w:World) (A:Option Addr) (n c:Nat):Con Tryz.prog z_nF #[.slice A n c] w [] (fun v Fs=> ∃bx,v= .func (.func z_hd) #[] #[.pointer (some ⟨bx,0,none⟩)]/\Fs=[bkF bx z_al [.slice A n c]]):=by
 refine z_ac (cx:=z_ma w (Un [])) (z_of w (Un [])) z_rK rfl rfl (β:=Va.z) [.c (.v (.slice A n c))] 0 [] [] rfl rfl (Sat.start rfl) ?_
 intro β w' hs
 exact hs.ofBk.fin [0] ⟨β 0,rfl,rfl⟩
theorem z_vJ (w:World) (P A:Option Addr) (cP c:Nat) (l:List UInt8) (hP:Rd 1 P 1 [.slice A l.length c] w) (hr:Bs w A l) (hn:l.length<=140737488355328):
  Con Tryz.prog z_bV #[.slice P 1 cP,.slice none 0 0] w [] fun v Fs=> ∃A' c',v= .slice A' l.length c'/\l.length<=c'/\c'<=maxLen/\Fs=[browF z_ab A' l c']:=by
 have hs0:Sat (z_ia w (Un [])) Va.z 0 [] [oldF w] w:=z_aS rfl
 refine z_ac (cx:=z_ia w (Un [])) (z_oG w (Un [])) z_rq rfl rfl (β:=Va.z) [.c (.v (.slice P 1 cP)),.c (.v (.slice none 0 0))] 0 [] [browF z_ab none [] 0,oldF w] rfl rfl (hs0.nilRow _ _) ?_
 obtain ⟨ad,rfl,hc⟩:=hP.2 (by decide)
 refine ⟨ad,0,rfl,rfl,by decide,.slice A l.length c,fun β w' hs=>?_,?_⟩
 ·have h1:Rd 1 (some ad) 1 [.slice A l.length c] w':=hP.old (hs.get 1 rfl)
  obtain ⟨ad',h2,h3⟩:=h1.2 (by decide)
  obtain rfl:=Option.some.inj h2
  exact h3 0 _ rfl
 refine ⟨0,0,l.length,[],l.map byte,_,rfl,fun β w' hs=>hr.old (hs.get 1 rfl),z_as l,Nat.zero_add _,rfl,by rw [maxLen_eq];omega,by show l.length*1<=_;omega,?_⟩
 intro A' c' h1 h2 h3 β w' hs
 exact hs.fin [0] ⟨A',c',rfl,h1,h2,rfl⟩
theorem z_ti (w:World) (b ty:Nat) (s:S8) (A:Option Addr) (x:List UInt8) (hx:x.length=64) (hm:Mem w [stF b ty s,bsF A x,oddF 3]):
  Con Tryz.prog z_e2 #[.pointer (some ⟨b,0,none⟩),.slice A 64 64] w [stF b ty s] fun v Fs=>v= .tuple #[]/\Fs=[stF b ty (Sha.step s x)]:=by
 have:=z_zj w b ty s A x 64 hm (by omega) (by omega) (by decide)
 rw [hx] at this
 exact this
def firstF (g:Nat):Fact:=rdF 1 (some ⟨g,0,none⟩) 8 (Sha.first.l.map u32)
theorem z_zK (w:World) (P A:Option Addr) (cP c:Nat) (l:List UInt8) (hP:Rd 1 P 1 [.slice A l.length c] w) (hr:Bs w A l) (hn:l.length<=70368744177664) (h1:(oddF 3).p w) (h0:(firstF 1).p w):
  Con Tryz.prog z_op #[.slice P 1 cP] w [] fun v Fs=> ∃A' c',v= .slice A' 32 c'/\32<=c'/\c'<=maxLen/\Fs=[browF z_ab A' (Sha.sum l) c']:=by
 have g:=z_nN w (Un [])
 have hs0:Sat (z_eh w (Un [])) Va.z 0 [] [oldF w] w:=z_aS rfl
 have hs1:Sat (z_eh w (Un [])) Va.z 0 [] [oddF 3,oldF w] w:=hs0.sub 0 rfl rfl _ rfl h1 (rd_lt h1)
 refine z_ac (cx:=z_eh w (Un [])) g z_rr rfl rfl (β:=Va.z) [.c (.v (.slice P 1 cP))] 0 [] [oddF 3,oldF w] rfl rfl hs1 ?_
 refine ⟨Sha.first.l.map u32,rfl,fun β w' hs j u hu=>?_,?_⟩
 ·have h2:Rd 1 (some ⟨1,0,none⟩) 8 (Sha.first.l.map u32) w':=Rd.old h0 (hs.get 1 rfl)
  obtain ⟨ad,h3,h4⟩:=h2.2 (by decide)
  obtain rfl:=Option.some.inj h3
  exact h4 j u hu
 refine z_aa [] (fun β w' hs=>z_vJ w' P A cP c l (hP.old (hs.get 1 rfl)) (hr.old (hs.get 1 rfl)) (by omega)) ?_
 rintro v Fs ⟨A1,c1,rfl,h2,h3,rfl⟩
 refine z_aa [] (fun β w' hs=>z_sI w' A1 l.length c1) ?_
 rintro v Fs ⟨bx,rfl,rfl⟩
 refine z_hT g 0 (fun _=>Sha.first.l.map u32) rfl rfl (fun _=>rfl) (fun sb=>?_)
 obtain ⟨q,hq⟩: ∃q,l++ends l.length=q:=⟨_,rfl⟩
 have hsum:Sha.sum l=out ((blks q (q.length/64)).foldl Sha.step Sha.first):=by rw [<-go_eq,<-hq];rfl
 rw [hsum]
 refine z_ca (α:=List UInt8) (ι:=S8) (κ:=S8) g rfl (cv:=[.pointer (some ⟨bx,0,none⟩)]) rfl (by kernel_rfl) 1 (Nat.le_refl 1)
  (fun pre s=>s=pre.foldl Sha.step Sha.first) (fun _=>[]) (fun s=>[stF sb 222 s]) (fun _=>⟨rfl,trivial⟩)
  (fun _ _ _=>False) (fun _=>[]) (fun _=>[]) (fun _=>trivial)
  [bkF bx z_al [.slice A1 l.length c1]] [browF z_ab A1 l c1] [oddF 3] ⟨rfl,trivial⟩ (fun g hg=>by obtain rfl:=List.mem_singleton.1 hg;rfl)
  Sha.first rfl (fun β w' hs=>⟨β,Agr.refl _ _,hs.perm [1,2,0,3]⟩) (fun _=>insB)
  (fun xs Fs'=>xs=blks q (q.length/64)/\Fs'=[]) (fun _ Fs'=>Fs'=[])
  (fun l' w' f0 R J Jx hJ0 hJo hRo hY hm=>(z_rl l' w' bx A1 l c1 f0 R J Jx hJ0 hJo hRo hY hn hm.lastRd).mono fun _ Fs h=>by rw [hq] at h;exact h) ?_ ?_ ?_
 ·rintro s pre x args X W S l' bs pn pn' hbs hpre ⟨hx,B,rfl,rfl⟩
  refine ⟨_,rfl,?_⟩
  refine z_aa [1] (fun β w' hs=>z_ti w' sb 222 s B x hx (hs.mem.take (js:=[1,0,2]) rfl)) ?_
  rintro v Fs ⟨rfl,rfl⟩
  refine ⟨Sha.step s x,by show Sha.step s x=(pre++[x]).foldl Sha.step Sha.first;rw [List.foldl_append,hpre];rfl,Ent.mk' trivial rfl (fun β w' hs=>?_)⟩
  exact hs.weaken (List.Sublist.refl _) (List.Sublist.cons_cons _ (List.nil_sublist _))
 ·rintro xs s Fs hpre ⟨rfl,rfl⟩
  refine z_aa [0] (fun β w' hs=>z_qQ w' sb 222 s (hs.mem.take (js:=[0]) rfl)) ?_
  rintro v Fs ⟨A3,c3,rfl,h5,h6,rfl⟩
  intro β w' hs
  refine hs.fin [1] ⟨A3,c3,rfl,h5,h6,?_⟩
  rw [<-hpre]
  rfl
 ·rintro e pre s Fs h _
  exact h.elim
def stV (s:S8):Value:= .agg (s.l.map u32).toArray
theorem be4 (x:UInt32):be 4 x.toNat=b4 x:=by
 have hx:=x.toNat_lt
 simp only [be,b4,List.nil_append,List.cons_append]
 have e: ∀n,n<256-> ∀y:UInt8,y.toNat=n->UInt8.ofNat n=y:=fun n _ y h=>by rw [<-h,UInt8.ofNat_toNat]
 have h1: ∀k:Nat,k<32->(x>>>UInt32.ofNat k).toNat=x.toNat/2^k:=fun k hk=>by
  rw [UInt32.toNat_shiftRight,UInt32.toNat_ofNat',Nat.mod_eq_of_lt (show k<2^32 by omega),Nat.mod_eq_of_lt hk,Nat.shiftRight_eq_div_pow]
 congr 1
 ·exact e _ (by omega) _ (by rw [UInt32.toNat_toUInt8,show (24:UInt32)=UInt32.ofNat 24 from rfl,h1 24 (by omega)]<;>omega)
 congr 1
 ·exact e _ (by omega) _ (by rw [UInt32.toNat_toUInt8,show (16:UInt32)=UInt32.ofNat 16 from rfl,h1 16 (by omega)]<;>omega)
 congr 1
 ·exact e _ (by omega) _ (by rw [UInt32.toNat_toUInt8,show (8:UInt32)=UInt32.ofNat 8 from rfl,h1 8 (by omega)]<;>omega)
 congr 1
 exact e _ (by omega) _ (by rw [UInt32.toNat_toUInt8])
theorem z_vP (n:Nat):UInt8.ofNat (n%256)=UInt8.ofNat n:=by
 apply UInt8.toNat_inj.1
 rw [UInt8.toNat_ofNat',UInt8.toNat_ofNat']
 omega
theorem be8 (n:Nat):be 8 n=Sha.long n:=by
 simp only [be,Sha.long,List.nil_append,List.cons_append,z_vP,List.map_cons,List.map_nil,Nat.div_div_eq_div_mul]
 simp
theorem z_x5 (w:World):Pu Tryz.prog z_ft #[] w (stV Sha.first):=by
 refine pu_of (z_bh (cx:=z_eI w None_) (z_it w None_) z_kX rfl rfl (β:=Va.z) [] 0 [] [] rfl rfl (Sat.start rfl) ?_)
 intro β w' hs
 exact ⟨rfl,hs.chg⟩
theorem z_nE (w:World) (n k:Nat) (hn:n<18446744073709551616) (hk:k<=4096):
  Con Tryz.prog z_cR #[.int .u64 n,.int .i64 k] w [] fun v Fs=> ∃A c,v= .slice A (be k n).length c/\(be k n).length<=c/\c<=maxLen/\Fs=[browF z_ab A (be k n) c]:=z_u9 (z_x0 w n k hn hk)
theorem z_zF (w:World) (n:Nat) (hn:n<=140737488355328):
  Con Tryz.prog z_fK #[.int .u64 n] w [] fun v Fs=> ∃A c,v= .slice A (Sha.ends n).length c/\(Sha.ends n).length<=c/\c<=maxLen/\Fs=[browF z_ab A (Sha.ends n) c]:=by
 have g:=z_iJ w (Un [])
 have hz:zeros n<64:=by unfold zeros;omega
 refine z_ac (cx:=z_fb w (Un [])) g z_lz rfl rfl (β:=Va.z) [.c (.v (.int .u64 n))] 0 [] [] rfl rfl (Sat.start rfl) ?_
 intro b0
 refine ⟨by decide,((n%64:Nat):Int),by rw [Int.tmod_eq_emod_of_nonneg (by omega)];omega,((n%64+1:Nat):Int),by rw [z_aD];omega,?_⟩
 refine z_ag (ι:=Nat×Option Addr×Nat) 0 (fun i=>[(0,.c (.v (.int .u64 n))),(4,.c (.v (.int .u64 ((n%64+1+i.1:Nat):Int)))),(3,.c (.v (.slice i.2.1 (i.1+1) i.2.2)))]) (fun _=>[])
  (fun i=>[rowF z_ab 1 (.slice i.2.1 (i.1+1) i.2.2) (i.1+1) (((0x80:UInt8)::List.replicate i.1 0).map byte)])
  (fun i=>i.1<=zeros n/\i.1+1<=i.2.2/\i.2.2<=maxLen) (fun i=>zeros n - i.1) (0,some ⟨b0,0,none⟩,1) ⟨Nat.zero_le _,Nat.le_refl _,by show 1<=maxLen;decide⟩ (Ent.same ⟨rfl,rfl,rfl,trivial⟩ rfl) g ?_
 rintro ⟨i,A,c⟩ ⟨hi,hc,hcm⟩
 simp only at hi hc hcm
 obtain ⟨r,hr⟩: ∃r:Nat,(n%64+1+i)%64=r:=⟨_,rfl⟩
 refine ⟨by decide,(r:Int),by dsimp only;rw [Int.tmod_eq_emod_of_nonneg (by omega)];omega,?_⟩
 refine BIf.not (BIf.dec (fun h0=>?_) (fun h0=>?_))
 ·have hiz:i=zeros n:=by unfold zeros at *;omega
  refine ⟨((8*n:Nat):Int),by rw [z_aD];omega,?_⟩
  refine z_aa [] (fun β w' hs=>z_nE w' (8*n) 8 (by omega) (by omega)) ?_
  rintro v Fs ⟨A2,c2,rfl,h1,h2,rfl⟩
  have hl:(Sha.ends n).length=i+1+8:=by rw [Sha.ends_len,hiz];omega
  refine ⟨1,i+1,(Sha.ends n).length,_,(be 8 (8*n)).map byte,(Sha.ends n).map byte,rfl,fun β w hs=>z_aj (hs.get 0 rfl),z_as _,by rw [z_ay];exact hl.symm,by rw [<-List.map_append,be8,hiz];rfl,by rw [maxLen_eq,hl];omega,by show (Sha.ends n).length*1<=_;omega,?_⟩
  intro A' c' h3 h4 _
  intro β w' hs
  exact hs.fin [1] ⟨A',c',rfl,h3,h4,rfl⟩
 ·have hiz:i<zeros n:=by
   rcases Nat.lt_or_ge i (zeros n) with h | h
   ·exact h
   ·exfalso
    apply h0
    have:i=zeros n:=by omega
    subst this
    unfold zeros at hr
    omega
  intro b2
  refine ⟨1,i+1,i+1+1,((0x80:UInt8)::List.replicate i 0).map byte,[(0:UInt8)].map byte,_,rfl,fun β w hs=>z_aj (hs.get 0 rfl),z_as _,rfl,rfl,by rw [maxLen_eq];omega,by show (i+1+1)*1<=_;omega,?_⟩
  intro A' c' h1 h2 _
  refine ⟨((n%64+1+(i+1):Nat):Int),by dsimp only;rw [z_aD];omega,?_⟩
  refine ⟨(i+1,A',c'),⟨hiz,h1,h2⟩,by show zeros n - (i+1)<zeros n - i;omega,Ent.mk' ⟨rfl,rfl,rfl,trivial⟩ rfl (fun β w' hs=>?_)⟩
  have h3:=hs.weaken (List.Sublist.refl _) (List.sublist_cons_self _ _)
  show Sat _ _ _ _ [rowF z_ab 1 (.slice A' (i+1+1) c') (i+1+1) (((0x80:UInt8)::List.replicate (i+1) 0).map byte)] _
  rw [List.replicate_succ',<-List.cons_append,List.map_append]
  exact h3
theorem out_c (w:World) (s:S8):
  Con Tryz.prog z_gz #[stV s] w [] fun v Fs=> ∃A c,v= .slice A 32 c/\32<=c/\c<=maxLen/\Fs=[browF z_ab A (out s) c]:=by
 have g:=z_kc w (Un [])
 refine z_ac (cx:=z_f3 w (Un [])) g z_lU rfl rfl (β:=Va.z) [.agg (s.l.map sl32)] 0 [] [browF z_ab none [] 0] rfl rfl ((Sat.start rfl).nilRow _ _) ?_
 refine z_ag (ι:=Nat×Option Addr×Nat) 1 (fun i=>[(6,.agg (s.l.map sl32)),(7,.c (.v (.int .i64 i.1))),(3,.c (.v (.slice i.2.1 (4*i.1) i.2.2)))]) (fun _=>[⟨0,249,s.l.map sl32⟩])
  (fun i=>[rowF z_ab 1 (.slice i.2.1 (4*i.1) i.2.2) (4*i.1) ((outN s i.1).map byte)])
  (fun i=>i.1<=8/\4*i.1<=i.2.2/\i.2.2<=maxLen) (fun i=>8 - i.1) (0,none,0) ⟨Nat.zero_le _,Nat.zero_le _,Nat.zero_le _⟩ (Ent.same ⟨rfl,rfl,rfl,trivial⟩ rfl) g ?_
 rintro ⟨i,A,c⟩ ⟨hi,hc,hcm⟩
 simp only at hi hc hcm
 refine BIf.dec (fun hlt=>?_) (fun hge=>?_)
 ·have hlt:i<8:=by omega
  obtain ⟨x,hx⟩: ∃x,s.l.getD i 0=x:=⟨_,rfl⟩
  have hxl:=x.toNat_lt
  refine ⟨i,sl32 x,rfl,hlt,by show (s.l.map sl32)[i*1]?=_;rw [Nat.mul_one,<-hx];exact l_get s i hlt,?_⟩
  refine ⟨(x.toNat:Int),by rw [z_aD];omega,?_⟩
  refine z_aa [] (fun β w' hs=>z_nE w' x.toNat 4 (by omega) (by omega)) ?_
  rintro v Fs ⟨A2,c2,rfl,h1,h2,rfl⟩
  refine ⟨1,4*i,4*(i+1),(outN s i).map byte,(b4 x).map byte,_,rfl,fun β w hs=>by rw [<-be4];exact z_aj (hs.get 0 rfl),z_as _,by rw [z_ay];omega,rfl,by rw [maxLen_eq];omega,by show 4*(i+1)*1<=_;omega,?_⟩
  intro A' c' h3 h4 _
  refine ⟨((i+1:Nat):Int),by rw [wrap_i64 (by omega) (by omega)];rfl,?_⟩
  refine ⟨(i+1,A',c'),⟨by show i+1<=8;omega,h3,h4⟩,by show 8 - (i+1)<8 - i;omega,Ent.mk' ⟨rfl,rfl,rfl,trivial⟩ rfl (fun β w' hs=>?_)⟩
  have e1:=z_qL s i hlt
  rw [hx] at e1
  have h5:=hs.weaken (List.Sublist.refl _) (List.sublist_cons_self _ _)
  show Sat _ _ _ _ [rowF z_ab 1 (.slice A' (4*(i+1)) c') (4*(i+1)) ((outN s (i+1)).map byte)] _
  rw [<-e1,List.map_append]
  exact h5
 ·obtain rfl:i=8:=by omega
  intro β w' hs
  exact (hs.keepB (List.nil_sublist _)).fin [0] ⟨A,c,rfl,hc,hcm,rfl⟩
theorem take4 (l:List UInt8) (k:Nat) (h:k+4<=l.length):(l.drop k).take 4=[l.getD k 0,l.getD (k+1) 0,l.getD (k+2) 0,l.getD (k+3) 0]:=by
 refine List.ext_getElem? fun j=>?_
 rw [List.getElem?_take]
 have g: ∀j,j<4->(l.drop k)[j]?=some (l.getD (k+j) 0):=fun j hj=>z_j8 l k j (by omega)
 match j with
 | 0=>simpa using g 0 (by omega)
 | 1=>simpa using g 1 (by omega)
 | 2=>simpa using g 2 (by omega)
 | 3=>simpa using g 3 (by omega)
 | n+4=>simp;omega
theorem numB4 (a b c d:UInt8):IntKind.u32.wrap (numB [a,b,c,d]:Int)=((word a b c d).toNat:Int):=by
 have h1:=a.toNat_lt
 have h2:=b.toNat_lt
 have h3:=c.toNat_lt
 have h4:=d.toNat_lt
 have:numB [a,b,c,d]=a.toNat *16777216+b.toNat *65536+c.toNat *256+d.toNat:=by
  simp only [numB,List.foldl_cons,List.foldl_nil]
  omega
 rw [this,z_pL]
 rfl
theorem z_zJ (a b c d:UInt32):((d+c)+b)+a=a+b+c+d:=by ac_rfl
theorem z_va {g:Nat} {w:World} (h:(oddF g).p w) {i:Nat} (hi:i<64):w.cell? ((⟨g,0,none⟩:Addr).add (i*1))=some (u32 (K.getD i 0)):=z_tr h hi
theorem z_yV (w:World) (s:S8) (A:Option Addr) (l:List UInt8) (c:Nat) (hr:Bs w A l) (hk:(oddF 10).p w) (hc:l.length<=c) (hl:64<=l.length) (hm:c<=maxLen):
  Pu Tryz.prog z_dj #[stV s,.slice A l.length c] w (stV (Sha.step s l)):=by
 have g:=z_iL w (Un [])
 obtain ⟨ws,hws⟩: ∃ws,W l=ws:=⟨_,rfl⟩
 have hwl:ws.length=64:=by rw [<-hws];exact W_len l
 have hst0:Sha.step s l=s.add (rounds s ws 64):=by rw [Sha.step,hws]
 rw [hst0]
 have hs0:Sat (z_bj w (Un [])) Va.z 0 [] [oldF w] w:=z_aS rfl
 have hs1:Sat (z_bj w (Un [])) Va.z 0 [] [bsF A l,oddF 10,oldF w] w:=(hs0.sub 0 rfl rfl (oddF 10) rfl hk (rd_lt hk)).sub 1 rfl rfl (bsF A l) rfl hr (rd_lt hr)
 rw [maxLen_eq] at hm
 refine z_ac (cx:=z_bj w (Un [])) g z_lJ rfl rfl (β:=Va.z) [.agg (s.l.map sl32),.c (.v (.slice A l.length c))] 0 [] [bsF A l,oddF 10,oldF w] rfl rfl hs1 ?_
 have e0:arr 64 []=ti245.zero.map SL.v:=by simp only [arr,List.nil_append,List.length_nil,List.map_replicate];rfl
 refine z_ag (ι:=Nat) 3 (fun i=>[(1,.c (.v (.slice A l.length c))),(2,.c (.p 0 0)),(4,.c (.p 1 0)),(5,.c (.p 2 0)),(6,.c (.v (.int .i64 i)))]) (fun i=>[⟨2,245,arr 64 (sched l i)⟩,⟨1,249,ti249.zero.map SL.v⟩,⟨0,249,s.l.map sl32⟩]) (fun _=>[bsF A l,oddF 10,oldF w])
  (fun i=>i<=64) (fun i=>64 - i) 0 (Nat.zero_le _) (Ent.mk' ⟨rfl,rfl,rfl,rfl,rfl,trivial⟩ rfl (fun β w' hs=>by rw [show sched l 0=[] from rfl,e0];exact hs)) g ?_
 intro i hi
 refine BIf.dec (fun hlt=>?_) (fun hge=>?_)
 ·have hlt:i<64:=by omega
  have hsl:(sched l i).length=i:=z_gn l i
  have ld: ∀ {k:Nat},k<i->nth (arr 64 (sched l i)) (0+k*1)=some (sl32 ((sched l i).getD k 0)):=fun {k} hk=>by
   rw [z_aX,Nat.zero_add,Nat.mul_one];exact z_vb (by omega)
  have fin: ∀(x:UInt32),(if i<16 then wordAt l i else nxt (sched l i) i)=x->putAll (arr 64 (sched l i)) (0+i*1) [sl32 x]=arr 64 (sched l (i+1)):=fun x hx=>by
   rw [putAll,putAll,z_aT,Nat.zero_add,Nat.mul_one]
   have:=z_rY (n:=64) (ws:=sched l i) (by omega) x
   rw [hsl] at this
   rw [this,sched,hx]
  have ble:Nat.ble (0+i*1+1) (arr 64 (sched l i)).length=true:=by rw [z_sn (by omega),Nat.ble_eq];omega
  refine BIf.dec (fun h16=>?_) (fun h16=>?_)
  ·have h16:i<16:=by omega
   refine ⟨((4*i:Nat):Int),by rw [wrap_i64 (by omega) (by omega)];omega,((4*i:Nat):Int),by rw [wrap_i64 (by omega) (by omega)];omega,((4*i+4:Nat):Int),by rw [wrap_i64 (by omega) (by omega)];omega,?_⟩
   refine ⟨c,4*i+4,4*i,4,c - 4*i,_,rfl,rfl,rfl,Nat.le_refl _,by omega,by omega,by omega,rfl,rfl,?_⟩
   refine z_ah (fun β w' hs=>pu_of (num_c w' (cutA A c (4*i) 1) [l.getD (4*i) 0,l.getD (4*i+1) 0,l.getD (4*i+2) 0,l.getD (4*i+3) 0] (c - 4*i) ?_ (by show 4<=lim;decide))) ?_
   ·have h7:=Bs.cut (hs.get 0 rfl:Bs w' A l) (c:=c) (m:=c) (i:=4*i) (j:=4*i+4) hc (.inl rfl) (by omega) (by omega) (Nat.le_refl _)
    rw [show 4*i+4 - 4*i=4 by omega,take4 l (4*i) (by omega)] at h7
    exact h7
   refine ⟨_,numB4 _ _ _ _,i,rfl,by omega,?_⟩
   conv=>whnf
   generalize h1:Nat.ble _ _=b1
   obtain rfl:b1=true:=h1.symm.trans ble
   clear h1
   refine ⟨((i+1:Nat):Int),by rw [wrap_i64 (by omega) (by omega)];rfl,?_⟩
   refine ⟨i+1,by omega,by omega,Ent.mk' ⟨rfl,rfl,rfl,rfl,rfl,trivial⟩ rfl (fun β w' hs=>?_)⟩
   rw [<-fin _ (if_pos h16)]
   exact hs
  ·have h16: ¬i<16:=by omega
   obtain ⟨xa,hxa⟩: ∃xa,(sched l i).getD (i - 15) 0=xa:=⟨_,rfl⟩
   obtain ⟨xb,hxb⟩: ∃xb,(sched l i).getD (i - 2) 0=xb:=⟨_,rfl⟩
   refine z_af g z_ji (by kernel_rfl) _ _ Sub.refl ?_
   refine ⟨((i - 15:Nat):Int),by rw [wrap_i64 (by omega) (by omega)];omega,i - 15,rfl,by omega,?_⟩
   conv=>whnf
   generalize hn:nth _ _=o
   obtain rfl:o=some (sl32 xa):=hn.symm.trans (by rw [<-hxa];exact ld (by omega))
   clear hn
   refine ⟨((i - 15:Nat):Int),by rw [wrap_i64 (by omega) (by omega)];omega,i - 15,rfl,by omega,?_⟩
   conv=>whnf
   generalize hn:nth _ _=o
   obtain rfl:o=some (sl32 xa):=hn.symm.trans (by rw [<-hxa];exact ld (by omega))
   clear hn
   refine ⟨((i - 15:Nat):Int),by rw [wrap_i64 (by omega) (by omega)];omega,i - 15,rfl,by omega,?_⟩
   conv=>whnf
   generalize hn:nth _ _=o
   obtain rfl:o=some (sl32 xa):=hn.symm.trans (by rw [<-hxa];exact ld (by omega))
   clear hn
   refine ⟨by omega,_,shr32 xa 3 (by omega),?_⟩
   refine z_ah (fun β w' hs=>z_ld w' xa 7 (by omega) (by omega)) ?_
   refine ⟨Sub.refl,?_⟩
   refine z_ah (fun β w' hs=>z_ld w' xa 18 (by omega) (by omega)) ?_
   refine ⟨Sub.refl,_,xor32 _ _,_,xor32 _ _,?_⟩
   refine z_af g z_kq (by kernel_rfl) _ _ Sub.refl ?_
   refine ⟨((i - 2:Nat):Int),by rw [wrap_i64 (by omega) (by omega)];omega,i - 2,rfl,by omega,?_⟩
   conv=>whnf
   generalize hn:nth _ _=o
   obtain rfl:o=some (sl32 xb):=hn.symm.trans (by rw [<-hxb];exact ld (by omega))
   clear hn
   refine ⟨((i - 2:Nat):Int),by rw [wrap_i64 (by omega) (by omega)];omega,i - 2,rfl,by omega,?_⟩
   conv=>whnf
   generalize hn:nth _ _=o
   obtain rfl:o=some (sl32 xb):=hn.symm.trans (by rw [<-hxb];exact ld (by omega))
   clear hn
   refine ⟨((i - 2:Nat):Int),by rw [wrap_i64 (by omega) (by omega)];omega,i - 2,rfl,by omega,?_⟩
   conv=>whnf
   generalize hn:nth _ _=o
   obtain rfl:o=some (sl32 xb):=hn.symm.trans (by rw [<-hxb];exact ld (by omega))
   clear hn
   refine ⟨by omega,_,shr32 xb 10 (by omega),?_⟩
   refine z_ah (fun β w' hs=>z_ld w' xb 17 (by omega) (by omega)) ?_
   refine ⟨Sub.refl,?_⟩
   refine z_ah (fun β w' hs=>z_ld w' xb 19 (by omega) (by omega)) ?_
   refine ⟨Sub.refl,_,xor32 _ _,_,xor32 _ _,?_⟩
   refine z_af g z_jp (by kernel_rfl) _ _ Sub.refl ?_
   refine ⟨((i - 7:Nat):Int),by rw [wrap_i64 (by omega) (by omega)];omega,i - 7,rfl,by omega,?_⟩
   conv=>whnf
   generalize hn:nth _ _=o
   obtain rfl:o=some (sl32 ((sched l i).getD (i - 7) 0)):=hn.symm.trans (ld (by omega))
   clear hn
   refine ⟨_,add32 _ _,_,add32 _ _,?_⟩
   refine ⟨((i - 16:Nat):Int),by rw [wrap_i64 (by omega) (by omega)];omega,i - 16,rfl,by omega,?_⟩
   conv=>whnf
   generalize hn:nth _ _=o
   obtain rfl:o=some (sl32 ((sched l i).getD (i - 16) 0)):=hn.symm.trans (ld (by omega))
   clear hn
   refine ⟨_,add32 _ _,i,rfl,by omega,?_⟩
   conv=>whnf
   generalize h1:Nat.ble _ _=b1
   obtain rfl:b1=true:=h1.symm.trans ble
   clear h1
   refine ⟨((i+1:Nat):Int),by rw [wrap_i64 (by omega) (by omega)];rfl,?_⟩
   refine ⟨i+1,by omega,by omega,Ent.mk' ⟨rfl,rfl,rfl,rfl,rfl,trivial⟩ rfl (fun β w' hs=>?_)⟩
   rw [<-fin (((s1 xb+(sched l i).getD (i - 7) 0)+s0 xa)+(sched l i).getD (i - 16) 0) (by rw [if_neg h16,nxt,hxa,hxb,z_zJ])]
   exact hs
 ·have e2:arr 64 (sched l i)=ws.map sl32:=by
   have hi64:i=64:=by omega
   rw [<-hws,hi64]
   exact z_s5 (z_gn l 64)
  clear hge hi
  rw [e2]
  clear e2
  have ldw: ∀ {k:Nat},k<64->nth (ws.map sl32) (0+k*1)=some (sl32 (ws.getD k 0)):=fun {k} hk=>by
   rw [z_aX,Nat.zero_add,Nat.mul_one,List.getElem?_map,List.getElem?_eq_getElem (by omega)]
   simp [List.getD,List.getElem?_eq_getElem (show k<ws.length by omega)]
  refine z_ag (ι:=Nat) 4 (fun i=>[(2,.c (.p 0 0)),(4,.c (.p 1 0)),(5,.c (.p 2 0)),(9,.c (.p 3 0)),(10,.c (.v (.int .i64 i)))]) (fun i=>[⟨3,249,(rounds s ws i).l.map sl32⟩,⟨2,245,ws.map sl32⟩,⟨1,249,ti249.zero.map SL.v⟩,⟨0,249,s.l.map sl32⟩]) (fun _=>[bsF A l,oddF 10,oldF w])
   (fun i=>i<=64) (fun i=>64 - i) 0 (Nat.zero_le _) (Ent.same ⟨rfl,rfl,rfl,rfl,rfl,trivial⟩ rfl) g ?_
  intro j hj
  obtain ⟨r,hr⟩: ∃r,rounds s ws j=r:=⟨_,rfl⟩
  rw [hr]
  obtain ⟨xa,xb,xc,xd,xe,xf,xg,xh⟩:=r
  refine BIf.dec (fun hlt=>?_) (fun hge=>?_)
  ·have hlt:j<64:=by omega
   refine ⟨4,rfl,by decide,?_⟩
   refine z_af g z_i1 (by kernel_rfl) _ _ Sub.refl ?_
   refine ⟨7,rfl,by decide,5,rfl,by decide,_,and32 _ _,_,not32 _,6,rfl,by decide,_,and32 _ _,_,xor32 _ _,?_⟩
   refine ⟨j,rfl,hlt,u32 (K.getD j 0),fun β w' hs=>z_va (hs.get 1 rfl) hlt,j,rfl,hlt,?_⟩
   conv=>whnf
   generalize hn:nth _ _=o
   obtain rfl:o=some (sl32 (ws.getD j 0)):=hn.symm.trans (ldw hlt)
   clear hn
   refine z_ah (fun β w' hs=>z_ld w' xe 6 (by omega) (by omega)) ?_
   refine ⟨Sub.refl,?_⟩
   refine z_ah (fun β w' hs=>z_ld w' xe 11 (by omega) (by omega)) ?_
   refine ⟨Sub.refl,_,xor32 _ _,?_⟩
   refine z_ah (fun β w' hs=>z_ld w' xe 25 (by omega) (by omega)) ?_
   refine ⟨Sub.refl,_,xor32 _ _,_,add32 _ _,_,add32 _ _,_,add32 _ _,_,add32 _ _,?_⟩
   refine ⟨0,rfl,by decide,?_⟩
   refine z_af g z_i8 (by kernel_rfl) _ _ Sub.refl ?_
   refine ⟨1,rfl,by decide,_,and32 _ _,2,rfl,by decide,_,and32 _ _,_,xor32 _ _,1,rfl,by decide,2,rfl,by decide,_,and32 _ _,_,xor32 _ _,?_⟩
   refine z_ah (fun β w' hs=>z_ld w' xa 2 (by omega) (by omega)) ?_
   refine ⟨Sub.refl,?_⟩
   refine z_ah (fun β w' hs=>z_ld w' xa 13 (by omega) (by omega)) ?_
   refine ⟨Sub.refl,_,xor32 _ _,?_⟩
   refine z_ah (fun β w' hs=>z_ld w' xa 22 (by omega) (by omega)) ?_
   refine ⟨Sub.refl,_,xor32 _ _,_,add32 _ _,?_⟩
   refine ⟨_,add32 _ _,0,rfl,by decide,1,rfl,by decide,2,rfl,by decide,3,rfl,by decide,_,add32 _ _,4,rfl,by decide,5,rfl,by decide,6,rfl,by decide,?_⟩
   refine ⟨((j+1:Nat):Int),by rw [wrap_i64 (by omega) (by omega)];rfl,?_⟩
   refine ⟨j+1,by omega,by omega,Ent.mk' ⟨rfl,rfl,rfl,rfl,rfl,trivial⟩ rfl (fun β w' hs=>?_)⟩
   have e1:(rounds s ws (j+1)).l.map sl32=(⟨(⟨xa,xb,xc,xd,xe,xf,xg,xh⟩:S8).x (K.getD j 0) (ws.getD j 0)+((⟨xa,xb,xc,xd,xe,xf,xg,xh⟩:S8).y+(⟨xa,xb,xc,xd,xe,xf,xg,xh⟩:S8).z),xa,xb,xc,xd+(⟨xa,xb,xc,xd,xe,xf,xg,xh⟩:S8).x (K.getD j 0) (ws.getD j 0),xe,xf,xg⟩:S8).l.map sl32:=by
    rw [z_oK,hr,S8.round,UInt32.add_assoc]
   rw [e1]
   exact hs
  ·obtain ⟨t,ht⟩: ∃t,(⟨xa,xb,xc,xd,xe,xf,xg,xh⟩:S8)=t:=⟨_,rfl⟩
   have hst:rounds s ws 64=t:=by
    have:j=64:=by omega
    rw [<-ht,<-hr,this]
   rw [hst,ht]
   clear hst ht hr hge hj
   refine z_ag (ι:=Nat) 4 (fun i=>[(2,.c (.p 0 0)),(4,.c (.p 1 0)),(9,.c (.p 3 0)),(165,.c (.v (.int .i64 i)))]) (fun i=>[⟨3,249,t.l.map sl32⟩,⟨2,245,ws.map sl32⟩,⟨1,249,ti249.zero.map SL.v⟩,⟨0,249,mix s t i⟩]) (fun _=>[bsF A l,oddF 10,oldF w])
    (fun i=>i<=8) (fun i=>8 - i) 0 (Nat.zero_le _) (Ent.same ⟨rfl,rfl,rfl,rfl,trivial⟩ rfl) g ?_
   intro j hj
   refine BIf.dec (fun hlt=>?_) (fun hge=>?_)
   ·have hlt:j<8:=by omega
    refine z_af g z_i6 (by kernel_rfl) _ _ Sub.refl ?_
    refine ⟨j,rfl,hlt,?_⟩
    conv=>whnf
    generalize hn:nth _ _=o
    obtain rfl:o=some (sl32 (s.l.getD j 0)):=hn.symm.trans (by
     show nth (mix s t j) (0+j*1)=_
     rw [Nat.zero_add,Nat.mul_one]
     exact z_uF s t j hlt)
    clear hn
    refine ⟨j,rfl,hlt,?_⟩
    conv=>whnf
    generalize hn:nth _ _=o
    obtain rfl:o=some (sl32 (t.l.getD j 0)):=hn.symm.trans (by
     show nth (t.l.map sl32) (0+j*1)=_
     rw [Nat.zero_add,Nat.mul_one,z_aX]
     exact l_get t j hlt)
    clear hn
    refine ⟨_,add32 _ _,j,rfl,hlt,?_⟩
    conv=>whnf
    generalize h1:Nat.ble _ _=b1
    obtain rfl:b1=true:=h1.symm.trans (by
     show Nat.ble (0+j*1+1) (mix s t j).length=true
     rw [z_uz s t j (by omega),Nat.ble_eq];omega)
    clear h1
    refine ⟨((j+1:Nat):Int),by rw [wrap_i64 (by omega) (by omega)];rfl,?_⟩
    refine ⟨j+1,by omega,by omega,Ent.mk' ⟨rfl,rfl,rfl,rfl,trivial⟩ rfl (fun β w' hs=>?_)⟩
    have e3:0+j*1=j:=by omega
    rw [<-z_vm s t j hlt]
    have hs2:Sat (z_bj w (Un [])) β 4 [⟨3,249,t.l.map sl32⟩,⟨2,245,ws.map sl32⟩,⟨1,249,ti249.zero.map SL.v⟩,⟨0,249,putAll (mix s t j) (0+j*1) [sl32 (s.l.getD j 0+t.l.getD j 0)]⟩] [bsF A l,oddF 10,oldF w] w':=hs
    rw [e3] at hs2
    exact hs2
   ·obtain rfl:j=8:=by omega
    intro β w' hs
    exact hs.fin [] ⟨rfl,rfl⟩
theorem z_uT (w:World) (s:S8) (A:Option Addr) (x:List UInt8) (c:Nat) (hx:x.length=64) (hr:Bs w A x) (hk:(oddF 10).p w) (hc:64<=c) (hm:c<=maxLen):
  Pu Tryz.prog z_dj #[stV s,.slice A 64 c] w (stV (Sha.step s x)):=by
 have:=z_yV w s A x c hr hk (by omega) (by omega) hm
 rw [hx] at this
 exact this
theorem rgo_c (w:World) (s:S8) (A:Option Addr) (l:List UInt8) (c:Nat) (hr:Bs w A l) (hk:(oddF 10).p w) (hc:l.length<=c) (hm:c<=maxLen):
  Con Tryz.prog z_hv #[stV s,.slice A l.length c] w [] fun v Fs=> ∃A' n' c',v= .tuple #[stV (go (l.length/64) s l),.slice A' n' c']/\Fs=[]:=by
 have g:=z_k1 w (Un [])
 rw [go_eq]
 have hs0:Sat (z_bx w (Un [])) Va.z 0 [] [oldF w] w:=z_aS rfl
 have hs1:Sat (z_bx w (Un [])) Va.z 0 [] [bsF A l,oddF 10,oldF w] w:=(hs0.sub 0 rfl rfl (oddF 10) rfl hk (rd_lt hk)).sub 1 rfl rfl (bsF A l) rfl hr (rd_lt hr)
 have hm':=hm
 rw [maxLen_eq] at hm'
 refine z_ac (cx:=z_bx w (Un [])) g z_no rfl rfl (β:=Va.z) [.agg (s.l.map sl32),.c (.v (.slice A l.length c))] 0 [] [bsF A l,oddF 10,oldF w] rfl rfl hs1 ?_
 refine z_ag (ι:=Nat×Option Addr×Nat) 2 (fun i=>[(1,.c (.v (.slice i.2.1 (l.length - 64*i.1) i.2.2))),(2,.c (.p 0 0)),(4,.c (.p 1 0))]) (fun i=>[⟨1,249,ti249.zero.map SL.v⟩,⟨0,249,((blks l i.1).foldl Sha.step s).l.map sl32⟩]) (fun _=>[bsF A l,oddF 10,oldF w])
  (fun i=>64*i.1<=l.length/\l.length - 64*i.1<=i.2.2/\i.2.2<=9223372036854775807/\(∀w,Bs w A l->Bs w i.2.1 (l.drop (64*i.1)))) (fun i=>l.length - 64*i.1) (0,A,c)
  ⟨Nat.zero_le _,hc,hm',fun w h=>h⟩ (Ent.same ⟨rfl,rfl,rfl,trivial⟩ rfl) g ?_
 rintro ⟨i,B,cap⟩ ⟨hi,hcap,hcm,hB⟩
 simp only at hi hcap hcm hB
 obtain ⟨m,hm2⟩: ∃m,l.length - 64*i=m:=⟨_,rfl⟩
 have hmc:m<=cap:=by omega
 rw [hm2]
 have hdl:(l.drop (64*i)).length=m:=by rw [List.length_drop];omega
 obtain ⟨st,hst⟩: ∃st,(blks l i).foldl Sha.step s=st:=⟨_,rfl⟩
 rw [hst]
 refine BIf.dec (fun h0=>?_) (fun h0=>?_)
 ·have hm64:64<=m:=by omega
  have hbl:(blk l i).length=64:=by unfold blk;rw [List.length_take,hdl];omega
  have hS: ∀ {H:List Bk} {n:Nat},Sub (z_bx w (Un [])) n H [bsF A l,oddF 10,oldF w] [] [bsF A l,oddF 10,oldF w]:=fun {H n}=>Sub.of (List.nil_sublist _) (List.Sublist.refl _)
  refine z_af g z_lQ (by kernel_rfl) [] [bsF A l,oddF 10,oldF w] hS ?_
  refine ⟨cap,64,0,64,cap,_,rfl,rfl,rfl,Nat.le_refl _,by show 64<=cap;omega,by omega,rfl,rfl,rfl,?_⟩
  refine ⟨cap,m,64,m - 64,cap - 64,_,rfl,rfl,rfl,Nat.le_refl _,hmc,hm64,rfl,rfl,rfl,?_⟩
  refine ⟨hS,?_⟩
  refine z_ah (fun β w' hs=>z_uT w' st (cutA B cap 0 1) (blk l i) cap hbl ?_ (hs.get 1 rfl) (by omega) (by rw [maxLen_eq];exact hcm)) ?_
  ·have h7:=Bs.cut (hB w' (hs.get 0 rfl)) (c:=cap) (m:=cap) (i:=0) (j:=64) (by omega) (.inl rfl) (by omega) (by omega) (by omega)
   have h8:Rd 1 (cutA B cap 0 1) (blk l i).length ((blk l i).map byte) w':=by rw [hbl];exact h7
   exact h8
  refine ⟨hS,?_⟩
  refine ⟨hS,?_⟩
  refine ⟨(i+1,cutA B cap 64 1,cap - 64),⟨by show 64*(i+1)<=_;omega,by show l.length - 64*(i+1)<=cap - 64;omega,by show cap - 64<=_;omega,fun w' h=>?_⟩,by show l.length - 64*(i+1)<m;omega,Ent.mk' ⟨?_,rfl,rfl,trivial⟩ rfl (fun β w' hs=>?_)⟩
  ·have h7:=Bs.cutB (hB w' h) (c:=cap) (i:=64) (j:=m) (m:=l.drop (64*(i+1))) (by omega) hm64 (by omega) (by
    rw [List.drop_drop,show 64*i+64=64*(i+1) by omega,List.take_of_length_le]
    rw [List.length_drop];omega)
   exact h7
  ·show _=some (SV.c (.v (.slice _ (l.length - 64*(i+1)) _)))
   rw [show l.length - 64*(i+1)=m - 64 by omega]
   rfl
  ·rw [z_rS,List.foldl_append,hst]
   exact hs
 ·have hi2:i=l.length/64:=by omega
  intro β w' hs
  rw [<-hi2,hst]
  exact hs.fin [] ⟨B,m,cap,rfl,rfl⟩
theorem z_uL (w:World) (A:Option Addr) (l:List UInt8) (c:Nat) (hr:Bs w A l) (hk:(oddF 10).p w) (hn:l.length<=70368744177664):
  Con Tryz.prog z_gM #[.slice A l.length c] w [] fun v Fs=> ∃A' c',v= .slice A' 32 c'/\32<=c'/\c'<=maxLen/\Fs=[browF z_ab A' (Sha.sum l) c']:=by
 have g:=z_ka w (Un [])
 have hs0:Sat (z_bX w (Un [])) Va.z 0 [] [oldF w] w:=z_aS rfl
 have hs1:Sat (z_bX w (Un [])) Va.z 0 [] [bsF A l,oddF 10,oldF w] w:=(hs0.sub 0 rfl rfl (oddF 10) rfl hk (rd_lt hk)).sub 1 rfl rfl (bsF A l) rfl hr (rd_lt hr)
 refine z_ac (cx:=z_bX w (Un [])) g z_l5 rfl rfl (β:=Va.z) [.c (.v (.slice A l.length c))] 0 [] [bsF A l,oddF 10,oldF w] rfl rfl hs1 ?_
 obtain ⟨q,hq⟩: ∃q,l++ends l.length=q:=⟨_,rfl⟩
 have hql:q.length=l.length+(ends l.length).length:=by rw [<-hq,List.length_append]
 have hel:(ends l.length).length<73:=by rw [Sha.ends_len];unfold zeros;omega
 have hsum:Sha.sum l=out (go (q.length/64) Sha.first q):=by rw [<-hq];rfl
 rw [hsum]
 refine z_ah (fun β w' hs=>z_x5 w') ?_
 intro b
 refine ⟨0,0,l.length,[],l.map byte,_,rfl,fun β w' hs=>hs.get 1 rfl,z_as l,Nat.zero_add _,rfl,by rw [maxLen_eq];omega,by show l.length*1<=_;omega,?_⟩
 intro A1 c1 h1 h2 _
 refine ⟨(l.length:Int),by rw [z_aD];omega,?_⟩
 refine z_aa [] (fun β w' hs=>z_zF w' l.length (by omega)) ?_
 rintro v Fs ⟨A2,c2,rfl,h3,h4,rfl⟩
 refine ⟨1,l.length,q.length,_,(ends l.length).map byte,q.map byte,rfl,fun β w hs=>z_aj (hs.get 0 rfl),z_as _,hql.symm,by rw [<-hq,List.map_append];rfl,by rw [maxLen_eq];omega,by show q.length*1<=_;omega,?_⟩
 intro A3 c3 h5 h6 _
 refine z_aa [] (fun β w' hs=>rgo_c w' Sha.first A3 q c3 (z_aj (hs.get 1 rfl)) (hs.get 3 rfl) h5 h6) ?_
 rintro v Fs ⟨A4,n4,c4,rfl,rfl⟩
 generalize go (q.length/64) Sha.first q=st
 refine z_aa [] (fun β w' hs=>out_c w' st) ?_
 rintro v Fs ⟨A5,c5,rfl,h7,h8,rfl⟩
 intro β w' hs
 exact (hs.keepB (List.nil_sublist _)).fin [0] ⟨A5,c5,rfl,h7,h8,rfl⟩
theorem ofInt8 (a:UInt8):BitVec.ofInt 8 (a.toNat:Int)=a.toBitVec:=by
 apply BitVec.eq_of_toNat_eq
 rw [BitVec.toNat_ofInt]
 have:=a.toNat_lt
 have e:a.toBitVec.toNat=a.toNat:=rfl
 rw [e]
 omega
theorem back8 (x:BitVec 8):IntKind.u8.wrap (x.toNat:Int)=((UInt8.ofBitVec x).toNat:Int):=by
 rw [wrap_u8]
 have:=x.isLt
 have e:(UInt8.ofBitVec x).toNat=x.toNat:=rfl
 rw [e]
 omega
theorem xor8 (a b:UInt8):bits .xor .u8 (a.toNat:Int) (b.toNat:Int)=((a^^^b).toNat:Int):=by
 show IntKind.u8.wrap (((BitVec.ofInt 8 (a.toNat:Int))^^^(BitVec.ofInt 8 (b.toNat:Int))).toNat:Int)=_
 rw [ofInt8,ofInt8,back8]
 rfl
theorem or8 (a b:UInt8):bits .or .u8 (a.toNat:Int) (b.toNat:Int)=((a ||| b).toNat:Int):=by
 show IntKind.u8.wrap (((BitVec.ofInt 8 (a.toNat:Int)) ||| (BitVec.ofInt 8 (b.toNat:Int))).toNat:Int)=_
 rw [ofInt8,ofInt8,back8]
 rfl
theorem z_yk (w:World) (A B:Option Addr) (l m:List UInt8) (c d:Nat) (hl:Bs w A l) (hm:Bs w B m) (hn:l.length<=70368744177664):Pu Tryz.prog z_nJ #[.slice A l.length c,.slice B m.length d] w (.bool (decide (l=m))):=by
 have g:=z_oT w None_
 refine pu_of (z_bh (cx:=z_mV w None_) g z_qU rfl rfl (β:=Va.z) [.c (.v (.slice A l.length c)),.c (.v (.slice B m.length d))] 0 [] [oldF w] rfl rfl (z_aS rfl) ?_)
 refine BIf.not (BIf.dec (fun h0=>?_) (fun h0=>?_))
 ·have hlen:m.length=l.length:=by omega
  refine z_ag (ι:=Nat×UInt8) 0 (fun i=>[(0,.c (.v (.slice A l.length c))),(1,.c (.v (.slice B m.length d))),(13,.c (.v (.int .i64 l.length))),(14,.c (.v (.int .i64 i.1))),(5,.c (.v (byte i.2)))]) (fun _=>[]) (fun _=>[oldF w])
   (fun i=>i.1<=l.length/\(i.2=0↔l.take i.1=m.take i.1)) (fun i=>l.length - i.1) (0,0) ⟨Nat.zero_le _,by simp⟩ (Ent.same ⟨rfl,rfl,rfl,rfl,rfl,trivial⟩ rfl) g ?_
  rintro ⟨i,acc⟩ ⟨hi,hacc⟩
  simp only at hi hacc
  refine BIf.dec (fun hlt=>?_) (fun hge=>?_)
  ·have hlt:i<l.length:=by omega
   have hlt2:i<m.length:=by omega
   obtain ⟨ad,hA⟩:=Bs.addr hl (by omega)
   obtain ⟨bd,hB⟩:=Bs.addr hm (by omega)
   refine z_af g z_px (by kernel_rfl) _ _ Sub.refl ?_
   refine ⟨ad,i,hA,rfl,hlt,byte l[i],fun β w' hs=>Bs.cell (Rd.old hl (hs.get 0 rfl)) hA hlt,?_⟩
   refine ⟨bd,i,hB,rfl,hlt2,byte m[i],fun β w' hs=>Bs.cell (Rd.old hm (hs.get 0 rfl)) hB hlt2,?_⟩
   refine ⟨_,xor8 _ _,_,or8 _ _,?_⟩
   refine ⟨((i+1:Nat):Int),by rw [wrap_i64 (by omega) (by omega)];rfl,?_⟩
   refine ⟨(i+1,acc ||| (l[i]^^^m[i])),⟨hlt,?_⟩,by show l.length - (i+1)<l.length - i;omega,Ent.same ⟨rfl,rfl,rfl,rfl,rfl,trivial⟩ rfl⟩
   show acc ||| (l[i]^^^m[i])=0↔l.take (i+1)=m.take (i+1)
   rw [z_ok l i hlt,z_ok m i hlt2,UInt8.or_eq_zero_iff,UInt8.xor_eq_zero_iff,hacc]
   constructor
   ·rintro ⟨h1,h2⟩;rw [h1,h2]
   ·intro h
    have:=List.append_inj' h rfl
    exact ⟨this.1,by simpa using this.2⟩
  ·have hi2:i=l.length:=by omega
   intro β w' hs
   refine ⟨?_,hs.chg⟩
   show Value.bool (decide ((acc.toNat:Int)=0))=_
   congr 1
   rw [hi2,List.take_length,List.take_of_length_le (by omega)] at hacc
   refine decide_eq_decide.2 ⟨fun h=>hacc.1 (UInt8.toNat_inj.1 (by show acc.toNat=0;omega)),fun h=>by rw [hacc.2 h];rfl⟩
 ·intro β w' hs
  refine ⟨?_,hs.chg⟩
  show Value.bool false=_
  congr 1
  exact (decide_eq_false (fun h=>h0 (by rw [h]))).symm
end Go.Proofs.YtfomhhkoamapmaaGreatDoor.Sx
namespace Go.Proofs.YtfomhhkoamapmaaGreatDoor.Sx
open Go
attribute [local irreducible] Calls
theorem and8 (a b:UInt8):bits .and .u8 (a.toNat:Int) (b.toNat:Int)=((a&&&b).toNat:Int):=by
 show IntKind.u8.wrap (((BitVec.ofInt 8 (a.toNat:Int))&&&(BitVec.ofInt 8 (b.toNat:Int))).toNat:Int)=_
 rw [ofInt8,ofInt8,back8]
 rfl
theorem andNot8 (a b:UInt8):bits .andNot .u8 (a.toNat:Int) (b.toNat:Int)=((a&&& ~~~b).toNat:Int):=by
 show IntKind.u8.wrap (((BitVec.ofInt 8 (a.toNat:Int))&&& ~~~(BitVec.ofInt 8 (b.toNat:Int))).toNat:Int)=_
 rw [ofInt8,ofInt8,back8]
 rfl
theorem z_mt {x:Int} (h1: -2147483648<=x) (h2:x<=2147483647):IntKind.i32.wrap x=x:=by
 simp only [IntKind.wrap,IntKind.bits,IntKind.signed]
 simp
 omega
theorem z_uG (b:UInt8):((b&&& ~~~63).toNat:Int)=128↔b.toNat/64=2:=by
 have h: ∀n:_root_.Fin 256,(((UInt8.ofNat n.1)&&& ~~~63).toNat=128↔(UInt8.ofNat n.1).toNat/64=2):=by decide+kernel
 have h2:(b&&& ~~~63).toNat=128↔b.toNat/64=2:=Nam.u8_all (p:=fun b=>(b&&& ~~~63).toNat=128↔b.toNat/64=2) h b
 omega
theorem z_zy (b:UInt8):(b&&&63).toNat=b.toNat%64:=by
 have h: ∀n:_root_.Fin 256,((UInt8.ofNat n.1)&&&63).toNat=(UInt8.ofNat n.1).toNat%64:=by decide+kernel
 exact Nam.u8_all (p:=fun b=>(b&&&63).toNat=b.toNat%64) h b
theorem z_wi {x:Nat} (hx:x<33554432):IntKind.i32.wrap ((x:Int)*2^(min (6:Int).toNat IntKind.i32.bits))=((x*64:Nat):Int):=by
 have h1:min (6:Int).toNat IntKind.i32.bits=6:=rfl
 rw [h1,z_mt (by omega) (by omega)]
 omega
theorem z_yN {x y:Nat} (hx:x<33554432) (hy:y<64):bits .or .i32 ((x*64:Nat):Int) (y:Int)=((x*64+y:Nat):Int):=by
 show IntKind.i32.wrap (((BitVec.ofInt 32 ((x*64:Nat):Int)) ||| (BitVec.ofInt 32 (y:Int))).toNat:Int)=_
 have h1:(BitVec.ofInt 32 ((x*64:Nat):Int)).toNat=x<<<6:=by
  rw [BitVec.toNat_ofInt,Nat.shiftLeft_eq]
  omega
 have h2:(BitVec.ofInt 32 (y:Int)).toNat=y:=by
  rw [BitVec.toNat_ofInt]
  omega
 rw [BitVec.toNat_or,h1,h2,<-Nat.shiftLeft_add_eq_or_of_lt (by omega) x,Nat.shiftLeft_eq,z_mt (by omega) (by omega)]
theorem z_xF (w:World) (z:Int) (r:Nat) (hz:z=(r:Int)):Pu Tryz.prog z_oq #[.int .i32 z] w (.bool (Nam.sign r)):=by
 refine z_ac (cx:=z_j0 w (Un [])) (z_py w (Un [])) z_su rfl rfl (β:=Va.z) [.c (.v (.int .i32 z))] 0 [] [] rfl rfl (Sat.start rfl) ?_
 have fin: ∀(b:Bool),b=Nam.sign r-> ∀ {n:Nat} {H:List Bk} {F:List Fact} (β:Va) (w':World),Sat (z_j0 w (Un [])) β n H F w'->Fin w [] (fun u Fs=>u= .bool (Nam.sign r)/\Fs=[]) (.bool b) w':=by
  rintro b rfl n H F β w' hs
  exact (hs.keepB (List.nil_sublist _)).fin [] ⟨rfl,rfl⟩
 refine BIf.dec (fun h0=>?_) (fun h0=>?_)
 ·refine BIf.dec (fun h1=>?_) (fun h1=>?_)
  ·have h1':z<=1114111:=h1
   refine BIf.dec (fun h2=>?_) (fun h2=>?_)
   ·have h2':z<55296:=h2
    refine fin true ?_
    unfold Nam.sign
    rw [decide_eq_true (by omega:r<=1114111),decide_eq_true (by omega:r<55296)];rfl
   ·have h2': ¬z<55296:=h2
    refine fin (decide ((57343:Int)<z)) ?_
    unfold Nam.sign
    rw [decide_eq_true (by omega:r<=1114111),decide_eq_false (by omega: ¬r<55296),Bool.true_and,Bool.false_or]
    exact decide_eq_decide.2 (by omega)
  ·have h1': ¬z<=1114111:=h1
   refine fin false ?_
   unfold Nam.sign
   rw [decide_eq_false (by omega: ¬r<=1114111)];rfl
 ·have h0': ¬(0:Int)<=z:=h0
  omega
def formV (f:Nam.Fm):List Value:=[.int .i64 (f.size:Int),byte f.mask,byte f.lead,.int .i32 (f.least:Int)]
def formCells:List Value:=Nam.fms.flatMap formV
def Forms (g:Nat) (w:World):Prop:=Rd 16 (some ⟨g,0,none⟩) 1 formCells w
theorem Forms.old {g:Nat} {W w:World} (h:Forms g W) (ho:(oldF W).p w):Forms g w:=Rd.old h ho
def runeI:Option Nat->Int
 | some r=>(r:Int)
 | none=> -1
theorem z_vI: ∀ {i:Nat} {f:Nam.Fm},Nam.fms[i]?=some f->((formCells.map SL.v).drop (i*4)).take 4=(formV f).map SL.v
 | 0,f,h=>by cases h;rfl
 | 1,f,h=>by cases h;rfl
 | 2,f,h=>by cases h;rfl
 | 3,f,h=>by cases h;rfl
 | n+4,f,h=>by simp [Nam.fms] at h
theorem z_m1 (b:UInt8): ∀(l:List UInt8) (r:Nat),Nam.tailR (l++[b]) r=match Nam.tailR l r with
  | some q=>if b.toNat/64=2 then some (q*64+b.toNat%64) else none
  | none=>none
 | [],r=>rfl
 | x::t,r=>by
  simp only [List.cons_append,Nam.tailR]
  split
  ·exact z_m1 b t _
  ·rfl
theorem z_oh {f:Nam.Fm} (h:f∈Nam.fms):1<=f.size/\f.size<=4/\f.least<=65536:=by
 simp only [Nam.fms,List.mem_cons,List.not_mem_nil,or_false] at h
 rcases h with rfl | rfl | rfl | rfl<;>decide
theorem z_wS (w:World) (s:ByteArray) (b0:UInt8) (t:List UInt8) (hs0:s.data.toList=b0::t) (hsz:s.size<=maxLen) (hf:Forms 9 w):
  Pu Tryz.prog z_mH #[.string s] w (.tuple #[.int .i32 (runeI (Nam.decL (b0::t)).1),.int .i64 ((Nam.decL (b0::t)).2:Int)]):=by
 have g:=z_nV w (Un [])
 have hlen:s.size=(b0::t).length:=by rw [<-hs0];rfl
 have hml:=maxLen_eq
 refine z_ac (cx:=z_ew w (Un [])) g z_qA rfl rfl (β:=Va.z) [.c (.v (.string s))] 0 [] [oldF w] rfl rfl (z_aS rfl) ?_
 refine ⟨formCells,rfl,fun β w' hs=>?_,?_⟩
 ·intro j u hu
  obtain ⟨ad,q,hc⟩:=(Forms.old hf (hs.get 0 rfl)).2 (by decide)
  cases q
  exact hc j u hu
 have bad:Nam.decL (b0::t)=(none,1)-> ∀ {n:Nat} {H:List Bk} {F:List Fact} (β:Va) (w':World),Sat (z_ew w (Un [])) β n H F w'->Fin w [] (fun u Fs=>u= .tuple #[.int .i32 (runeI (Nam.decL (b0::t)).1),.int .i64 ((Nam.decL (b0::t)).2:Int)]/\Fs=[]) (.tuple #[.int .i32 (-1),.int .i64 1]) w':=by
  intro h n H F β w' hs
  rw [h]
  exact (hs.keepB (List.nil_sublist _)).fin [] ⟨rfl,rfl⟩
 refine z_ag 0 (fun i:Nat=>[(0,.c (.v (.string s))),(8,.agg (formCells.map SL.v)),(9,.c (.v (.int .i64 (i:Int))))]) (fun _=>[]) (fun _=>[oldF w])
  (fun i=>i<=4/\ ∀f∈Nam.fms.take i,Nam.fits f (b0::t)=false) (fun i=>4 - i) 0 ⟨Nat.zero_le _,fun f h=>by cases h⟩ (Ent.same ⟨rfl,rfl,rfl,trivial⟩ rfl) g ?_
 rintro i ⟨hi,hno⟩
 have next: ∀ {f:Nam.Fm},Nam.fms[i]?=some f->Nam.fits f (b0::t)=false-> ∀f∈Nam.fms.take (i+1),Nam.fits f (b0::t)=false:=by
  intro f hfi hff f' hf'
  rw [List.take_add_one,hfi] at hf'
  rcases List.mem_append.1 hf' with q | q
  ·exact hno f' q
  ·obtain rfl:f'=f:=by simpa using q
   exact hff
 refine BIf.dec (fun hlt=>?_) (fun hge=>?_)
 ·have hlt0:(i:Int)<4:=hlt
  have hi4:i<Nam.fms.length:=by show i<4;omega
  obtain ⟨f,hfi,hfm⟩:=at_lt hi4
  have hfs:=z_oh hfm
  refine ⟨i,(formV f).map SL.v,rfl,by omega,z_vI hfi,?_⟩
  have hS: ∀ {n:Nat} {F:List Fact},Sub (z_ew w (Un [])) n [⟨0,z_bQ,(formV f).map SL.v⟩] F [⟨0,z_bQ,(formV f).map SL.v⟩] []:=fun {n F}=>Sub.of (List.Sublist.refl _) (List.nil_sublist _)
  have hb0:s.data.toList[0]?=some b0:=by rw [hs0];rfl
  refine z_af g z_oX (by kernel_rfl) [⟨0,z_bQ,(formV f).map SL.v⟩] [] hS ?_
  refine ⟨0,b0,rfl,hb0,?_⟩
  refine ⟨_,and8 b0 f.mask,?_⟩
  refine BIf.not (BIf.dec (fun hm=>?_) (fun hm=>?_))
  ·have hm1:((b0&&&f.mask).toNat:Int)=(f.lead.toNat:Int):=hm
   have hm2:b0&&&f.mask=f.lead:=UInt8.toNat_inj.1 (by omega)
   refine BIf.dec (fun hsh=>?_) (fun hsh=>?_)
   ·have hsh1:(s.size:Int)<(f.size:Int):=hsh
    have hff:Nam.fits f (b0::t)=false:=by
     simp only [Nam.fits,hm2,decide_true,Bool.true_and]
     exact decide_eq_false (by omega)
    refine ⟨((i+1:Nat):Int),by rw [wrap_i64 (by omega) (by omega)];rfl,?_⟩
    exact ⟨i+1,⟨by omega,next hfi hff⟩,by omega,Ent.mk' ⟨rfl,rfl,rfl,trivial⟩ rfl (fun β w hs=>(hs.keepB (List.nil_sublist _)).lower)⟩
   ·have hsh1: ¬(s.size:Int)<(f.size:Int):=hsh
    have hfl:f.size<=(b0::t).length:=by omega
    have hdec:Nam.decL (b0::t)=match Nam.tryF f (b0::t) with | some r=>(some r,f.size) | none=>(none,1):=by
     unfold Nam.decL
     rw [Nam.find_form hfm hm2,if_pos hfl]
     try rfl
    refine z_af g z_or (by kernel_rfl) [⟨0,z_bQ,(formV f).map SL.v⟩] [] hS ?_
    refine ⟨0,b0,rfl,hb0,?_⟩
    refine ⟨_,andNot8 b0 f.mask,?_⟩
    obtain ⟨r0,hr0⟩: ∃r0,(b0&&& ~~~f.mask).toNat=r0:=⟨_,rfl⟩
    have hr0l:r0<256:=by rw [<-hr0];exact UInt8.toNat_lt _
    refine ⟨(r0:Int),by rw [hr0];exact z_mt (by omega) (by omega),?_⟩
    have hbad:Nam.tryF f (b0::t)=none->Nam.decL (b0::t)=(none,1):=fun h=>by rw [hdec,h]
    refine z_ag (ι:=Nat×Nat) 1 (fun q=>[(0,.c (.v (.string s))),(5,.c (.p 0 0)),(6,.c (.v (.int .i32 (q.2:Int)))),(7,.c (.v (.int .i64 (q.1:Int))))]) (fun _=>[⟨0,z_bQ,(formV f).map SL.v⟩]) (fun _=>[oldF w])
     (fun q=>1<=q.1/\q.1<=f.size/\Nam.tailR (t.take (q.1 - 1)) r0=some q.2/\q.2<256*64^(q.1 - 1)) (fun q=>f.size - q.1) (1,r0) ⟨Nat.le_refl _,hfs.1,rfl,by simpa using hr0l⟩ (Ent.same ⟨rfl,rfl,rfl,rfl,trivial⟩ rfl) g ?_
    rintro ⟨k,r⟩ ⟨hk1,hk2,htl,hrb⟩
    simp only at hk1 hk2 htl hrb
    simp only
    refine BIf.dec (fun hks=>?_) (fun hks=>?_)
    ·have hks1:(k:Int)<(f.size:Int):=hks
     have hkt:k - 1<t.length:=by simp only [List.length_cons] at hfl;omega
     obtain ⟨c,hc,_⟩:=at_lt hkt
     have hcs:s.data.toList[k]?=some c:=by
      rw [hs0]
      obtain ⟨k',rfl⟩: ∃k',k=k'+1:=⟨k - 1,by omega⟩
      simpa using hc
     have hsn:t.take k=t.take (k - 1)++[c]:=by
      have:=List.take_add_one (l:=t) (i:=k - 1)
      rw [hc,Nat.sub_add_cancel hk1] at this
      exact this
     have hrb2:r<33554432:=by
      have:64^(k - 1)<=64^2:=Nat.pow_le_pow_right (by decide) (by omega)
      omega
     refine ⟨k,c,rfl,hcs,?_⟩
     refine ⟨_,andNot8 c 63,?_⟩
     refine BIf.not (BIf.dec (fun hct=>?_) (fun hct=>?_))
     ·have hcc:c.toNat/64=2:=(z_uG c).1 hct
      refine ⟨by decide,_,z_wi hrb2,?_⟩
      refine ⟨k,c,rfl,hcs,?_⟩
      refine ⟨_,and8 c 63,?_⟩
      refine ⟨((c.toNat%64:Nat):Int),by rw [z_zy];exact z_mt (by omega) (by omega),?_⟩
      refine ⟨_,z_yN hrb2 (Nat.mod_lt _ (by decide)),?_⟩
      refine ⟨((k+1:Nat):Int),by rw [wrap_i64 (by omega) (by omega)];rfl,?_⟩
      refine ⟨(k+1,r*64+c.toNat%64),⟨by show 1<=k+1;omega,by show k+1<=f.size;omega,?_,?_⟩,by show f.size - (k+1)<f.size - k;omega,Ent.same ⟨rfl,rfl,rfl,rfl,trivial⟩ rfl⟩
      ·show Nam.tailR (t.take (k+1 - 1)) r0=some (r*64+c.toNat%64)
       rw [Nat.add_sub_cancel,hsn,z_m1,htl]
       simp only
       rw [if_pos hcc]
      ·show r*64+c.toNat%64<256*64^(k+1 - 1)
       obtain ⟨k',rfl⟩: ∃k',k=k'+1:=⟨k - 1,by omega⟩
       simp only [Nat.add_sub_cancel] at hrb ⊢
       rw [Nat.pow_succ]
       omega
     ·have hcc: ¬c.toNat/64=2:=fun q=>hct ((z_uG c).2 q)
      exact bad (hbad (by
       simp only [Nam.tryF]
       rw [Nam.tailR_none]
       refine ⟨c,?_,hcc⟩
       have h2:c∈t.take k:=by rw [hsn];simp
       exact List.take_subset_take_left t (by omega) h2))
    ·have hks1: ¬(k:Int)<(f.size:Int):=hks
     obtain rfl:k=f.size:=by omega
     have hmid:Nam.tryF f (b0::t)=if f.least<=r/\Nam.sign r=true then some r else none:=by
      simp only [Nam.tryF,hr0,htl]
     refine BIf.dec (fun hls=>?_) (fun hls=>?_)
     ·have hls1:(f.least:Int)<=(r:Int):=hls
      refine z_ah (fun β w' hs=>z_xF w' (r:Int) r rfl) ?_
      cases hsg:Nam.sign r with
      | true=>
       rw [if_pos ⟨by omega,hsg⟩] at hmid
       rw [hmid] at hdec
       refine z_af g z_nU (by kernel_rfl) [⟨0,z_bQ,(formV f).map SL.v⟩] [] hS ?_
       intro β w' hs
       rw [hdec]
       exact (hs.keepB (List.nil_sublist _)).fin [] ⟨rfl,rfl⟩
      | false=>exact bad (hbad (by rw [hmid,if_neg (fun q=>by rw [hsg] at q;cases q.2)]))
     ·have hls1: ¬(f.least:Int)<=(r:Int):=hls
      exact bad (hbad (by rw [hmid,if_neg (fun q=>hls1 (by have:=q.1;omega))]))
  ·have hm1: ¬((b0&&&f.mask).toNat:Int)=(f.lead.toNat:Int):=hm
   have hff:Nam.fits f (b0::t)=false:=by
    simp only [Nam.fits]
    rw [decide_eq_false (fun q=>hm1 (by rw [q]))]
    rfl
   refine ⟨((i+1:Nat):Int),by rw [wrap_i64 (by omega) (by omega)];rfl,?_⟩
   exact ⟨i+1,⟨by omega,next hfi hff⟩,by omega,Ent.mk' ⟨rfl,rfl,rfl,trivial⟩ rfl (fun β w hs=>(hs.keepB (List.nil_sublist _)).lower)⟩
 ·have hge0: ¬(i:Int)<4:=hge
  have hi4:i=4:=by omega
  subst hi4
  refine bad ?_
  unfold Nam.decL
  rw [List.find?_eq_none.2 (fun f hf q=>by rw [hno f hf] at q;cases q)]
abbrev Sp:=Int×Int
def spanV (x:Sp):List Value:=[.int .i32 x.1,.int .i32 x.2]
def inSp (z:Int) (l:List Sp):Bool:=l.any fun p=>decide (p.1<=z)&&decide (z<=p.2)
theorem z_qb (w:World) (z:Int) (A:Option Addr) (l:List Sp) (c:Nat) (hr:Rd 2 A l.length (l.flatMap spanV) w) (hn:l.length<=1000):
  Pu Tryz.prog z_l0 #[.int .i32 z,.slice A l.length c] w (.bool (inSp z l)):=by
 have g:=z_n2 w (Un [])
 refine z_ac (cx:=z_hm w (Un [])) g z_qh rfl rfl (β:=Va.z) [.c (.v (.int .i32 z)),.c (.v (.slice A l.length c))] 0 [] [oldF w] rfl rfl (z_aS rfl) ?_
 refine z_ag 0 (fun k:Nat=>[(0,.c (.v (.int .i32 z))),(7,.c (.v (.slice A l.length c))),(8,.c (.v (.int .i64 l.length))),(9,.c (.v (.int .i64 (k:Int))))]) (fun _=>[]) (fun _=>[oldF w])
  (fun k=>k<=l.length/\inSp z (l.take k)=false) (fun k=>l.length - k) 0 ⟨Nat.zero_le _,rfl⟩ (Ent.same ⟨rfl,rfl,rfl,rfl,trivial⟩ rfl) g ?_
 rintro k ⟨hk,hno⟩
 refine BIf.dec (fun hlt=>?_) (fun hge=>?_)
 ·have hlt0:(k:Int)<l.length:=hlt
  have hkl:k<l.length:=by omega
  obtain ⟨x,hx,hxm⟩:=at_lt hkl
  obtain ⟨ad,hA,_⟩:=hr.2 (by omega)
  have hsn:inSp z (l.take (k+1))=(decide (x.1<=z)&&decide (z<=x.2)):=by
   rw [List.take_add_one,hx]
   unfold inSp at hno ⊢
   rw [List.any_append,hno]
   simp
  have next:inSp z (l.take (k+1))=false->Ent (z_hm w (Un [])) 1 [(0,.c (.v (.int .i32 z))),(7,.c (.v (.slice A l.length c))),(8,.c (.v (.int .i64 l.length))),(9,.c (.v (.int .i64 ((k+1:Nat):Int))))] [] [oldF w] 0 [(0,.c (.v (.int .i32 z))),(7,.c (.v (.slice A l.length c))),(8,.c (.v (.int .i64 l.length))),(9,.c (.v (.int .i64 ((k+1:Nat):Int))))] [] [oldF w]:=fun _=>Ent.mk' ⟨rfl,rfl,rfl,rfl,trivial⟩ rfl (fun β w hs=>hs.lower)
  refine ⟨ad,k,hA,rfl,hkl,spanV x,rfl,fun β w' hs=>?_,?_⟩
  ·have h:=Rd.old hr (hs.get 0 rfl)
   obtain ⟨hil,hie⟩:=List.getElem?_eq_some_iff.1 hx
   have h2:=Rd.elem (f:=spanV) (fun _=>rfl) h hA hil
   rw [hie] at h2
   exact h2
  ·refine BIf.dec (fun h1=>?_) (fun h1=>?_)
   ·have h1':x.1<=z:=h1
    refine BIf.dec (fun h2=>?_) (fun h2=>?_)
    ·have h2':z<=x.2:=h2
     intro β w' hs
     refine (hs.keepB (List.nil_sublist _)).fin [] ⟨?_,rfl⟩
     show Value.bool true=_
     congr 1
     refine (List.any_eq_true.2 ⟨x,hxm,?_⟩).symm
     rw [decide_eq_true h1',decide_eq_true h2']
     rfl
    ·have h2': ¬z<=x.2:=h2
     refine ⟨((k+1:Nat):Int),by rw [wrap_i64 (by omega) (by omega)];rfl,?_⟩
     exact ⟨k+1,⟨hkl,by rw [hsn,decide_eq_false h2',Bool.and_false]⟩,by omega,Ent.mk' ⟨rfl,rfl,rfl,rfl,trivial⟩ rfl (fun β w hs=>(hs.keepB (List.nil_sublist _)).lower)⟩
   ·have h1': ¬x.1<=z:=h1
    refine ⟨((k+1:Nat):Int),by rw [wrap_i64 (by omega) (by omega)];rfl,?_⟩
    exact ⟨k+1,⟨hkl,by rw [hsn,decide_eq_false h1',Bool.false_and]⟩,by omega,Ent.mk' ⟨rfl,rfl,rfl,rfl,trivial⟩ rfl (fun β w hs=>(hs.keepB (List.nil_sublist _)).lower)⟩
 ·have hge0: ¬(k:Int)<l.length:=hge
  obtain rfl:k=l.length:=by omega
  rw [List.take_length] at hno
  intro β w' hs
  refine hs.fin [] ⟨?_,rfl⟩
  rw [hno]
  rfl
abbrev Rn:=Nat×Int
def runesAt (l:List UInt8) (i:Nat):List Rn:=if h:i<l.length then (i,runeI (Nam.decL (l.drop i)).1)::runesAt l (i+max 1 (Nam.decL (l.drop i)).2) else []
termination_by l.length - i
decreasing_by omega
theorem z_ep {l:List UInt8} {i:Nat} (h: ¬i<l.length):runesAt l i=[]:=by rw [runesAt,dif_neg h]
theorem z_jP {l:List UInt8} {i:Nat} (h:i<l.length):l.drop i≠[]:=fun q=>by
 have:=congrArg List.length q
 rw [List.length_drop] at this
 simp at this
 omega
theorem z_gL {l:List UInt8} {i:Nat} (h:i<l.length):runesAt l i=(i,runeI (Nam.decL (l.drop i)).1)::runesAt l (i+(Nam.decL (l.drop i)).2):=by
 have h1:=Nam.decL_size (z_jP h)
 rw [runesAt,dif_pos h,Nat.max_eq_right h1.1]
theorem z_gS (l:List UInt8): ∀(k i:Nat),l.length - i<=k->(runesAt l i).map (·.2)=(Nam.runes (l.drop i)).map runeI:=by
 intro k
 induction k with
 | zero=>
  intro i h
  rw [z_ep (by omega),List.drop_eq_nil_of_le (by omega),Nam.runes_nil]
  rfl
 | succ k ih=>
  intro i h
  by_cases hi:i<l.length
  ·have h1:=Nam.decL_size (z_jP hi)
   rw [z_gL hi,Nam.runes_cons (z_jP hi),List.map_cons,List.map_cons,ih _ (by omega),List.drop_drop]
  ·rw [z_ep hi,List.drop_eq_nil_of_le (by omega),Nam.runes_nil]
   rfl
def insR (t:List UInt8) (pre:List Rn) (x:Rn) (args:Array Value) (X:Fact):Prop:=args= #[.int .i64 (x.1:Int),.int .i32 x.2]/\X=noF/\ ∃r,runesAt t 0=pre++x::r
def runesEnd (l:List UInt8) (J Jx:List Rn->Fact->Prop) (Fs:List Fact):Prop:=
 ∃f Fs',Fs=f::Fs'/\((∃xs,J xs f/\xs=runesAt l 0/\Fs'=[])\/(∃pre,Jx pre f/\(∃r,runesAt l 0=pre++r)/\Fs'=[]))
def formF:Fact:=rdF 16 (some ⟨9,0,none⟩) 1 formCells
theorem z_ny (s:ByteArray) (i:Nat):(s.extract i s.size).data.toList=s.data.toList.drop i:=by
 rw [ByteArray.data_extract,Array.toList_extract,List.extract_eq_take_drop]
 rw [List.take_of_length_le]
 rw [List.length_drop]
 exact Nat.le_refl _
theorem z_th (l:Nat) (w:World) (bx:Nat) (s:ByteArray) (f0 R:Fact) (J Jx:List Rn->Fact->Prop) (hJ0:J [] f0) (hJo: ∀pre f,J pre f->f.own=true) (hRo:R.own=false) (hY:Yc Tryz.prog l J Jx R (insR s.data.toList))
  (hl:s.size<=1000000) (hm:Mem w (f0::R::[bkF bx z_ak [.string s],formF])):
  Con Tryz.prog z_hb #[.func (.yield l) #[] #[],.pointer (some ⟨bx,0,none⟩)] w [f0,bkF bx z_ak [.string s]] (fun _ Fs=>runesEnd s.data.toList J Jx Fs):=by
 have g:=z_m0 w (Un [f0,bkF bx z_ak [.string s]]) [bx]
 have hs0:Sat (z_fM w (Un [f0,bkF bx z_ak [.string s]]) [bx]) (Va.of fun _=>bx) 1 [] (f0::R::[bkF bx z_ak [.string s],formF]) w:=by
  refine hm.sat rfl (fun f hf ho k hk=>?_) ⟨Nat.le_refl 1,fun i hi=>by obtain rfl:i=0:=Nat.lt_one_iff.1 hi;rfl⟩
  simp only [List.mem_cons,List.not_mem_nil,or_false] at hf
  rcases hf with rfl | rfl | rfl | rfl
  ·exact ⟨_,by simp,hk⟩
  ·rw [hRo] at ho;cases ho
  ·exact ⟨_,by simp,hk⟩
  ·cases ho
 have hs1:=hs0.toBk 2 rfl 0 Nat.zero_lt_one rfl
 have hlen:s.data.toList.length=s.size:=rfl
 have hml:=maxLen_eq
 refine z_ac (cx:=z_fM w (Un [f0,bkF bx z_ak [.string s]]) [bx]) g z_pu rfl rfl (β:=Va.of fun _=>bx) [.c (.v (.func (.yield l) #[] #[])),.c (.p 0 0)] 1 _ _ rfl rfl hs1 ?_
 refine z_ag (ι:=List Rn×Nat×Fact) 1 (fun i=>[(0,.c (.v (.func (.yield l) #[] #[]))),(1,.c (.p 0 0)),(3,.c (.v (.int .i64 (i.2.1:Int))))]) (fun _=>[⟨0,z_ak,[.v (.string s)]⟩]) (fun i=>[i.2.2,R,formF])
  (fun i=>J i.1 i.2.2/\runesAt s.data.toList 0=i.1++runesAt s.data.toList i.2.1/\i.2.1<=s.size) (fun i=>s.size - i.2.1) ([],0,f0) ⟨hJ0,rfl,Nat.zero_le _⟩ (Ent.same ⟨rfl,rfl,rfl,trivial⟩ rfl) g ?_
 rintro ⟨pre,i,f⟩ ⟨hJ,hsc,hi⟩
 simp only at hJ hsc hi
 have hfo:=hJo _ _ hJ
 simp only
 refine BIf.dec (fun hlt=>?_) (fun hge=>?_)
 ·have hlt0:(i:Int)<s.size:=hlt
  have hil:i<s.data.toList.length:=by omega
  refine ⟨s.size,i,rfl,rfl,Nat.le_refl _,hi,?_⟩
  have hd:=Nam.decL_size (z_jP hil)
  rw [List.length_drop] at hd
  rw [z_gL hil] at hsc
  obtain ⟨b0,t,hbt⟩: ∃b0 t,s.data.toList.drop i=b0::t:=by
   cases h:s.data.toList.drop i with
   | nil=>exact absurd h (z_jP hil)
   | cons b t=>exact ⟨b,t,rfl⟩
  obtain ⟨o,n,hon⟩: ∃o n,Nam.decL (s.data.toList.drop i)=(o,n):=⟨_,_,rfl⟩
  rw [hon] at hd hsc
  simp only at hd hsc
  refine z_ah (v:= .tuple #[.int .i32 (runeI o),.int .i64 (n:Int)]) (fun β w' hs=>by
   have h:=z_wS w' (s.extract i s.size) b0 t (by rw [z_ny,hbt]) (by rw [ByteArray.size_extract];omega) (hs.get 2 rfl)
   rw [<-hbt,hon] at h
   exact h) ?_
  refine z_dF (X:=noF) (x:=(i,runeI o)) hY 0 1 rfl hJ hfo rfl hRo (by decide) (fun β=>⟨rfl,rfl,_,hsc⟩) rfl (fun β w _=>⟨trivial,fun k hk=>hk.elim,fun k _ h=>h.elim⟩) ?_ ?_
  ·intro f2 hfo2 hJ2
   refine ⟨((i+n:Nat):Int),by rw [wrap_i64 (by omega) (by omega)];rfl,?_⟩
   exact ⟨(pre++[(i,runeI o)],i+n,f2),⟨hJ2,by show runesAt s.data.toList 0=pre++[(i,runeI o)]++runesAt s.data.toList (i+n);rw [hsc];simp,by show i+n<=s.size;omega⟩,by show s.size - (i+n)<s.size - i;omega,Ent.same ⟨rfl,rfl,rfl,trivial⟩ rfl⟩
  ·intro f2 hfo2 hJ2 β w' hs
   exact (hs.keepB (List.nil_sublist _)).fin [0] ⟨f2,[],rfl,.inr ⟨_,hJ2,⟨runesAt s.data.toList (i+n),by rw [hsc];simp⟩,rfl⟩⟩ rfl rfl rfl ⟨hfo2,trivial⟩
 ·have hge0: ¬(i:Int)<s.size:=hge
  rw [z_ep (l:=s.data.toList) (i:=i) (by omega),List.append_nil] at hsc
  intro β w' hs
  exact (hs.keepB (List.nil_sublist _)).fin [0] ⟨f,[],rfl,.inl ⟨pre,hJ,hsc.symm,rfl⟩⟩ rfl rfl rfl ⟨hfo,trivial⟩
theorem z_uM (w:World) (s:ByteArray):Con Tryz.prog z_nw #[.string s] w [] (fun v Fs=> ∃bx,v= .func (.func z_hb) #[] #[.pointer (some ⟨bx,0,none⟩)]/\Fs=[bkF bx z_ak [.string s]]):=by
 refine z_ac (cx:=z_mp w (Un [])) (z_pd w (Un [])) z_qK rfl rfl (β:=Va.z) [.c (.v (.string s))] 0 [] [] rfl rfl (Sat.start rfl) ?_
 intro β w' hs
 exact hs.ofBk.fin [0] ⟨β 0,rfl,rfl⟩
def validB (l:List UInt8):Bool:=(Nam.runes l).all Option.isSome
theorem runeI_none {o:Option Nat}:runeI o= -1↔o=none:=by
 cases o with
 | none=>simp [runeI]
 | some r=>
  simp only [runeI]
  constructor
  ·intro h;omega
  ·intro h;cases h
theorem z_oB (l:List UInt8):validB l=true↔ ∀x∈runesAt l 0,x.2≠ -1:=by
 have h:=z_gS l _ 0 (Nat.le_refl _)
 rw [List.drop_zero] at h
 unfold validB
 rw [List.all_eq_true]
 constructor
 ·intro hv x hx q
  have:x.2∈(runesAt l 0).map (·.2):=List.mem_map.2 ⟨x,hx,rfl⟩
  rw [h] at this
  obtain ⟨o,ho,hq⟩:=List.mem_map.1 this
  have h2:=hv o ho
  rw [q] at hq
  rw [runeI_none.1 hq] at h2
  cases h2
 ·intro hv o ho
  cases o with
  | some r=>rfl
  | none=>
   have:runeI none∈(Nam.runes l).map runeI:=List.mem_map.2 ⟨none,ho,rfl⟩
   rw [<-h] at this
   obtain ⟨x,hx,hq⟩:=List.mem_map.1 this
   exact absurd hq (hv x hx)
theorem z_yi (w0:World) (s:ByteArray) (hl:s.size<=1000000) (hf:Forms 9 w0):Pu Tryz.prog z_nv #[.string s] w0 (.bool (validB s.data.toList)):=by
 have g:=z_oi w0 (Un [])
 refine z_ac (cx:=z_mL w0 (Un [])) g z_rx rfl rfl (β:=Va.z) [.c (.v (.string s))] 0 [] [formF] rfl rfl ((Sat.start rfl).rd (fun _ h=>by cases h) hf) ?_
 refine z_aa [] (fun β w hs=>z_uM w s) ?_
 rintro v Fs ⟨bx,rfl,rfl⟩
 refine z_ca (α:=Rn) (ι:=Unit) (κ:=Unit) g rfl (cv:=[.pointer (some ⟨bx,0,none⟩)]) rfl (by kernel_rfl) 1 (Nat.le_refl 1)
  (fun pre _=> ∀x∈pre,x.2≠ -1) (fun _=>[⟨0,z_lH,[.v (.bool false)]⟩]) (fun _=>[]) (fun _=>trivial)
  (fun e pre _=>e= .ret/\ ∃x∈pre,x.2= -1) (fun _=>[⟨0,z_lH,[.v (.bool false)]⟩]) (fun _=>[]) (fun _=>trivial)
  [bkF bx z_ak [.string s]] [formF] [] ⟨rfl,trivial⟩ (fun g h=>by cases h) () (fun x h=>by cases h) (fun β w hs=>⟨β,Agr.refl _ _,hs⟩) (insR s.data.toList)
  (fun xs Fs'=>xs=runesAt s.data.toList 0/\Fs'=[]) (fun pre Fs'=>(∃r,runesAt s.data.toList 0=pre++r)/\Fs'=[])
  (fun l w f0 R J Jx hJ0 hJo hRo hY hm=>(z_th l w bx s f0 R J Jx hJ0 hJo hRo hY hl hm).mono fun _ Fs h=>h) ?_ ?_ ?_
 ·rintro ⟨⟩ pre x args X W S l bs pn pn' hbs hpre ⟨rfl,rfl,_⟩
  refine ⟨_,rfl,?_⟩
  refine BIf.dec (fun h3=>?_) (fun h3=>?_)
  ·have h30:x.2= -1:=h3
   exact ⟨(),⟨rfl,x,by simp,h30⟩,Ent.mk' trivial rfl (fun β w hs=>(hs.perm []).lower (n':=1))⟩
  ·have h30: ¬x.2= -1:=h3
   refine ⟨(),?_,Ent.mk' trivial rfl (fun β w hs=>(hs.perm []).lower (n':=1))⟩
   intro y hy
   rcases List.mem_append.1 hy with hy | hy
   ·exact hpre y hy
   ·obtain rfl:=List.mem_singleton.1 hy;exact h30
 ·rintro xs ⟨⟩ Fs hpre ⟨rfl,rfl⟩
  intro β w' hs
  refine (hs.keepB (List.nil_sublist _)).fin [] ⟨?_,rfl⟩
  rw [(z_oB _).2 hpre]
  rfl
 ·rintro e pre ⟨⟩ Fs ⟨rfl,x,hx,hxe⟩ ⟨⟨r,hr⟩,rfl⟩
  intro β w' hs
  refine (hs.keepB (List.nil_sublist _)).fin [] ⟨?_,rfl⟩
  have:validB s.data.toList=false:=by
   cases h:validB s.data.toList with
   | false=>rfl
   | true=>exact absurd hxe ((z_oB _).1 h x (by rw [hr];exact List.mem_append.2 (.inl hx)))
  rw [this]
  rfl
def blanksL:List Sp:=[(0xa0,0xa0),(0x1680,0x1680),(0x2000,0x200a),(0x202f,0x202f),(0x205f,0x205f),(0x3000,0x3000)]
def nothingL:List Sp:=[(0xad,0xad),(0x200b,0x200d),(0x2060,0x2060),(0xfe00,0xfe0f),(0xfeff,0xfeff)]
def barredL:List Sp:=[(0,0x1f),(0x7f,0x9f),(0x2028,0x2029),(0x202a,0x202e),(0x2066,0x2069),(0xe000,0xf8ff),(0xf0000,0x10ffff),(0xfff9,0xfffd),(0xfdd0,0xfdef)]
def spansF (g:Nat) (l:List Sp):Fact:=rdF 2 (some ⟨g,0,none⟩) l.length (l.flatMap spanV)
def prep1 (z:Int):List Int:=if inSp z blanksL=true then [32] else if inSp z nothingL=true then [] else [z]
def prepAt (l:List Rn):List Int:=l.flatMap fun x=>prep1 x.2
def insPr (t:List UInt8) (pre:List Int) (z:Int) (args:Array Value) (X:Fact):Prop:=args= #[.int .i32 z]/\X=noF/\ ∃r,prepAt (runesAt t 0)=pre++z::r
def prepEnd (t:List UInt8) (J Jx:List Int->Fact->Prop) (Fs:List Fact):Prop:=
 ∃f Fs',Fs=f::Fs'/\((∃xs,J xs f/\xs=prepAt (runesAt t 0)/\Fs'=[])\/(∃pre,Jx pre f/\(∃r,prepAt (runesAt t 0)=pre++r)/\Fs'=[]))
abbrev OF:= {f:Fact//f.own=true}
theorem z_yp (l:Nat) (w:World) (bx:Nat) (s:ByteArray) (f0 R:Fact) (J Jx:List Int->Fact->Prop) (hJ0:J [] f0) (hJo: ∀pre f,J pre f->f.own=true) (hRo:R.own=false) (hY:Yc Tryz.prog l J Jx R (insPr s.data.toList))
  (hl:s.size<=1000000) (hm:Mem w (f0::R::[bkF bx z_ak [.string s],formF,spansF 7 blanksL,spansF 8 nothingL])):
  Con Tryz.prog z_eu #[.func (.yield l) #[] #[],.pointer (some ⟨bx,0,none⟩)] w [f0,bkF bx z_ak [.string s]] (fun _ Fs=>prepEnd s.data.toList J Jx Fs):=by
 have g:=z_kS w (Un [f0,bkF bx z_ak [.string s]]) [bx]
 have hf0:=hJo _ _ hJ0
 have hs0:Sat (z_dR w (Un [f0,bkF bx z_ak [.string s]]) [bx]) (Va.of fun _=>bx) 1 [] (f0::R::[bkF bx z_ak [.string s],formF,spansF 7 blanksL,spansF 8 nothingL]) w:=by
  refine hm.sat rfl (fun f hf ho k hk=>?_) ⟨Nat.le_refl 1,fun i hi=>by obtain rfl:i=0:=Nat.lt_one_iff.1 hi;rfl⟩
  simp only [List.mem_cons,List.not_mem_nil,or_false] at hf
  rcases hf with rfl | rfl | rfl | rfl | rfl | rfl
  ·exact ⟨_,by simp,hk⟩
  ·rw [hRo] at ho;cases ho
  ·exact ⟨_,by simp,hk⟩
  ·cases ho
  ·cases ho
  ·cases ho
 have hs1:=hs0.toBk 2 rfl 0 Nat.zero_lt_one rfl
 refine z_ac (cx:=z_dR w (Un [f0,bkF bx z_ak [.string s]]) [bx]) g z_nn rfl rfl (β:=Va.of fun _=>bx) [.c (.v (.func (.yield l) #[] #[])),.c (.p 0 0)] 1 _ _ rfl rfl hs1 ?_
 refine z_aa [] (fun β w hs=>z_uM w s) ?_
 rintro v Fs ⟨bx2,rfl,rfl⟩
 refine z_ca (α:=Rn) (ι:=OF) (κ:=OF) g rfl (cv:=[.pointer (some ⟨bx2,0,none⟩)]) rfl (by kernel_rfl) 2 (Nat.le_refl 2)
  (fun pre i=>J (prepAt pre) i.1) (fun _=>[⟨1,279,[.v (.func (.yield l) #[] #[])]⟩]) (fun i=>[i.1]) (fun i=>⟨i.2,trivial⟩)
  (fun e pre i=>e= .ret/\ ∃p,(∃r,prepAt pre=p++r)/\Jx p i.1) (fun _=>[⟨1,279,[.v (.func (.yield l) #[] #[])]⟩]) (fun i=>[i.1]) (fun i=>⟨i.2,trivial⟩)
  [bkF bx2 z_ak [.string s]] [formF] [R,spansF 7 blanksL,spansF 8 nothingL] ⟨rfl,trivial⟩ (fun g h=>by
   simp only [List.mem_cons,List.not_mem_nil,or_false] at h
   rcases h with rfl | rfl | rfl
   ·exact hRo
   ·rfl
   ·rfl) ⟨f0,hf0⟩ hJ0 (fun β w hs=>⟨β,Agr.refl _ _,?_⟩) (insR s.data.toList)
  (fun xs Fs'=>xs=runesAt s.data.toList 0/\Fs'=[]) (fun pre Fs'=>(∃r,runesAt s.data.toList 0=pre++r)/\Fs'=[])
  (fun l w f0 R J Jx hJ0 hJo hRo hY hm=>(z_th l w bx2 s f0 R J Jx hJ0 hJo hRo hY hl hm).mono fun _ Fs h=>h) ?_ ?_ ?_
 ·exact (hs.keepB (List.Sublist.cons_cons _ (List.nil_sublist _))).perm [0,3,1,2,4,5]
 ·rintro ⟨f,hfo⟩ pre x args X W S l' bs pn pn' hbs hJ ⟨rfl,rfl,r0,hxr⟩
  simp only at hJ
  refine ⟨_,rfl,?_⟩
  obtain ⟨b1,hb1⟩: ∃b1,inSp x.2 blanksL=b1:=⟨_,rfl⟩
  obtain ⟨b2,hb2⟩: ∃b2,inSp x.2 nothingL=b2:=⟨_,rfl⟩
  refine ⟨6,6,0,6,6,_,rfl,rfl,rfl,Nat.le_refl _,Nat.le_refl _,Nat.zero_le _,rfl,rfl,rfl,?_⟩
  refine z_ah (v:= .bool b1) (fun β w' hs=>by
   have h:=z_qb w' x.2 (some ⟨7,0,none⟩) blanksL 6 (hs.get 3 rfl) (by decide)
   rw [hb1] at h
   exact h) ?_
  have hsn:prepAt (pre++[x])=prepAt pre++prep1 x.2:=by simp [prepAt]
  cases b1 with
  | true=>
   have hz:prep1 x.2=[32]:=by unfold prep1;rw [if_pos hb1]
   refine z_dF (X:=noF) (x:=32) hY 1 2 rfl hJ hfo rfl hRo (by decide) (fun β=>⟨rfl,rfl,prepAt r0,by rw [hxr];simp [prepAt,hz]⟩) rfl (fun β w _=>⟨trivial,fun k hk=>hk.elim,fun k _ h=>h.elim⟩) ?_ ?_
   ·intro f2 hfo2 hJ2
    exact ⟨⟨f2,hfo2⟩,by show J (prepAt (pre++[x])) f2;rw [hsn,hz];exact hJ2,Ent.mk' trivial rfl (fun β w hs=>(hs.perm [0]).lower (n':=2))⟩
   ·intro f2 hfo2 hJ2
    exact ⟨⟨f2,hfo2⟩,⟨rfl,prepAt pre++[32],⟨[],by rw [hsn,hz];simp⟩,hJ2⟩,Ent.mk' trivial rfl (fun β w hs=>(hs.perm [0]).lower (n':=2))⟩
  | false=>
   refine ⟨5,5,0,5,5,_,rfl,rfl,rfl,Nat.le_refl _,Nat.le_refl _,Nat.zero_le _,rfl,rfl,rfl,?_⟩
   refine z_ah (v:= .bool b2) (fun β w' hs=>by
    have h:=z_qb w' x.2 (some ⟨8,0,none⟩) nothingL 5 (hs.get 4 rfl) (by decide)
    rw [hb2] at h
    exact h) ?_
   cases b2 with
   | true=>
    have hz:prep1 x.2=[]:=by unfold prep1;rw [if_neg (by rw [hb1];decide),if_pos hb2]
    exact ⟨⟨f,hfo⟩,by show J (prepAt (pre++[x])) f;rw [hsn,hz,List.append_nil];exact hJ,Ent.mk' trivial rfl (fun β w hs=>(hs.perm [1]).lower (n':=2))⟩
   | false=>
    have hz:prep1 x.2=[x.2]:=by unfold prep1;rw [if_neg (by rw [hb1];decide),if_neg (by rw [hb2];decide)]
    refine z_dF (X:=noF) (x:=x.2) hY 1 2 rfl hJ hfo rfl hRo (by decide) (fun β=>⟨rfl,rfl,prepAt r0,by rw [hxr];simp [prepAt,hz]⟩) rfl (fun β w _=>⟨trivial,fun k hk=>hk.elim,fun k _ h=>h.elim⟩) ?_ ?_
    ·intro f2 hfo2 hJ2
     exact ⟨⟨f2,hfo2⟩,by show J (prepAt (pre++[x])) f2;rw [hsn,hz];exact hJ2,Ent.mk' trivial rfl (fun β w hs=>(hs.perm [0]).lower (n':=2))⟩
    ·intro f2 hfo2 hJ2
     exact ⟨⟨f2,hfo2⟩,⟨rfl,prepAt pre++[x.2],⟨[],by rw [hsn,hz];simp⟩,hJ2⟩,Ent.mk' trivial rfl (fun β w hs=>(hs.perm [0]).lower (n':=2))⟩
 ·rintro xs ⟨f,hfo⟩ Fs hJ ⟨rfl,rfl⟩
  intro β w' hs
  exact (hs.keepB (List.nil_sublist _)).fin [0] ⟨f,[],rfl,.inl ⟨_,hJ,rfl,rfl⟩⟩ rfl rfl rfl ⟨hfo,trivial⟩
 ·rintro e pre ⟨f,hfo⟩ Fs ⟨rfl,p,⟨r,hp⟩,hJx⟩ ⟨⟨r2,hr⟩,rfl⟩
  intro β w' hs
  refine (hs.keepB (List.nil_sublist _)).fin [0] ⟨f,[],rfl,.inr ⟨p,hJx,⟨r++prepAt r2,?_⟩,rfl⟩⟩ rfl rfl rfl ⟨hfo,trivial⟩
  rw [hr,prepAt,List.flatMap_append,<-prepAt,hp,List.append_assoc]
  rfl
theorem z_ud (w:World) (s:ByteArray):Con Tryz.prog z_jT #[.string s] w [] (fun v Fs=> ∃bx,v= .func (.func z_eu) #[] #[.pointer (some ⟨bx,0,none⟩)]/\Fs=[bkF bx z_ak [.string s]]):=by
 refine z_ac (cx:=z_iB w (Un [])) (z_lT w (Un [])) z_o7 rfl rfl (β:=Va.z) [.c (.v (.string s))] 0 [] [] rfl rfl (Sat.start rfl) ?_
 intro β w' hs
 exact hs.ofBk.fin [0] ⟨β 0,rfl,rfl⟩
def form0:Nam.Fm:=⟨1,0x80,0,0⟩
def pickF (r:Nat) (f g:Nam.Fm):Nam.Fm:=if g.least<=r then g else f
def formOf (r:Nat):Nam.Fm:=Nam.fms.foldl (pickF r) form0
def encGo (f:Nam.Fm) (r:Nat):Nat->List UInt8
 | 0=>[]
 | k+1=>(if k=f.size - 1 then f.lead ||| UInt8.ofNat (r/2^(6*k)) else 128 ||| (UInt8.ofNat (r/2^(6*k))&&&63))::encGo f r k
def encL (r:Nat):List UInt8:=encGo (formOf r) r (formOf r).size
theorem z_rG (f:Nam.Fm) (r:Nat): ∀k,(encGo f r k).length=k
 | 0=>rfl
 | k+1=>by simp [encGo,z_rG f r k]
theorem z_qG (r:Nat): ∀(l:List Nam.Fm) (f:Nam.Fm),f∈Nam.fms->(∀g∈l,g∈Nam.fms)->l.foldl (pickF r) f∈Nam.fms
 | [],_,hf,_=>hf
 | g::l,f,hf,h=>by
  rw [List.foldl_cons]
  refine z_qG r l _ ?_ (fun x hx=>h x (List.mem_cons_of_mem _ hx))
  unfold pickF
  split
  ·exact h g List.mem_cons_self
  ·exact hf
theorem z_rQ:form0∈Nam.fms:=List.mem_cons_self
structure EnS where
 k:Nat
 acc:List UInt8
 A:Option Addr
 c:Nat
theorem z_wg (w:World) (A:Option Addr) (l:List UInt8) (c r:Nat) (z:Int) (hz:z=(r:Int)) (hr31:r<=1114111) (hsg:Nam.sign r=true) (hr:Bs w A l) (hn:l.length<=1000000000) (hf:Forms 9 w):
  Con Tryz.prog z_l7 #[.slice A l.length c,.int .i32 z] w [] fun v Fs=> ∃A' c',v= .slice A' (l++encL r).length c'/\(l++encL r).length<=c'/\c'<=maxLen/\Fs=[browF z_ab A' (l++encL r) c']:=by
 have g:=z_nQ w (Un [])
 have hml:=maxLen_eq
 refine z_ac (cx:=z_k4 w (Un [])) g z_qn rfl rfl (β:=Va.z) [.c (.v (.slice A l.length c)),.c (.v (.int .i32 z))] 0 [] [oldF w] rfl rfl (z_aS rfl) ?_
 refine z_ah (v:= .bool true) (fun β w' hs=>by
  have h:=z_xF w' z r hz
  rw [hsg] at h
  exact h) ?_
 refine z_aa [] (fun β w' hs=>z_lP w' A l c (Rd.old hr (hs.get 0 rfl)) (by omega)) ?_
 rintro v Fs ⟨A1,c1,rfl,h1,h1m,rfl⟩
 have hcell: ∀w',(oldF w).p w'-> ∀j u,formCells[j]?=some u->w'.cell? ((⟨9,0,none⟩:Addr).add j)=some u:=by
  intro w' ho j u hu
  obtain ⟨ad,q,hc⟩:=(Forms.old hf ho).2 (by decide)
  cases q
  exact hc j u hu
 refine ⟨0,rfl,by decide,?_⟩
 refine ⟨formV form0,rfl,fun β w' hs=>?_,?_⟩
 ·intro j u hu
  have hj:j<4:=(List.getElem?_eq_some_iff.1 hu).1
  refine hcell w' (hs.get 1 rfl) j u ?_
  have:formCells[j]?=(formV form0)[j]?:=by
   match j,hj with
   | 0,_=>rfl
   | 1,_=>rfl
   | 2,_=>rfl
   | 3,_=>rfl
  rw [this,hu]
 refine ⟨formCells,rfl,fun β w' hs=>hcell w' (hs.get 1 rfl),?_⟩
 refine z_ag (ι:=Nat) 1 (fun i=>[(1,.c (.v (.int .i32 z))),(5,.c (.v (.slice A1 l.length c1))),(6,.c (.p 0 0)),(18,.agg (formCells.map SL.v)),(19,.c (.v (.int .i64 (i:Int))))]) (fun i=>[⟨0,z_bQ,(formV ((Nam.fms.take i).foldl (pickF r) form0)).map SL.v⟩]) (fun _=>[browF z_ab A1 l c1,oldF w])
  (fun i=>i<=4) (fun i=>4 - i) 0 (Nat.zero_le _) (Ent.same ⟨rfl,rfl,rfl,rfl,rfl,trivial⟩ rfl) g ?_
 intro i hi
 refine BIf.dec (fun hlt=>?_) (fun hge=>?_)
 ·have hlt0:(i:Int)<4:=hlt
  have hi4:i<Nam.fms.length:=by show i<4;omega
  obtain ⟨f,hfi,hfm⟩:=at_lt hi4
  have hfold:(Nam.fms.take (i+1)).foldl (pickF r) form0=pickF r ((Nam.fms.take i).foldl (pickF r) form0) f:=by
   rw [List.take_add_one,hfi,List.foldl_append]
   rfl
  refine ⟨i,(formV f).map SL.v,rfl,by omega,z_vI hfi,?_⟩
  refine BIf.dec (fun hls=>?_) (fun hls=>?_)
  ·have hls1:(f.least:Int)<=z:=hls
   rw [pickF,if_pos (by omega)] at hfold
   refine ⟨((i+1:Nat):Int),by rw [wrap_i64 (by omega) (by omega)];rfl,?_⟩
   refine ⟨i+1,by omega,by omega,?_⟩
   rw [hfold]
   exact Ent.mk' ⟨rfl,rfl,rfl,rfl,rfl,trivial⟩ rfl (fun β w hs=>(hs.keepB (List.sublist_cons_self _ _)).lower)
  ·have hls1: ¬(f.least:Int)<=z:=hls
   rw [pickF,if_neg (by omega)] at hfold
   refine ⟨((i+1:Nat):Int),by rw [wrap_i64 (by omega) (by omega)];rfl,?_⟩
   refine ⟨i+1,by omega,by omega,?_⟩
   rw [hfold]
   exact Ent.mk' ⟨rfl,rfl,rfl,rfl,rfl,trivial⟩ rfl (fun β w hs=>(hs.keepB (List.sublist_cons_self _ _)).lower)
 ·have hge0: ¬(i:Int)<4:=hge
  obtain rfl:i=4:=by omega
  have hfe:(Nam.fms.take 4).foldl (pickF r) form0=formOf r:=rfl
  rw [hfe]
  have hfs:=z_oh (z_qG r Nam.fms form0 z_rQ (fun _ h=>h))
  change 1<=(formOf r).size/\(formOf r).size<=4/\_ at hfs
  unfold encL
  generalize formOf r=f at hfs ⊢
  refine ⟨(f.size:Int) - 1,wrap_i64 (by omega) (by omega),?_⟩
  refine z_ag (ι:=EnS) 1 (fun i=>[(1,.c (.v (.int .i32 z))),(5,.c (.v (.slice i.A i.acc.length i.c))),(6,.c (.p 0 0)),(9,.c (.v (.int .i64 ((i.k:Int) - 1))))]) (fun _=>[⟨0,z_bQ,(formV f).map SL.v⟩]) (fun i=>[browF z_ab i.A i.acc i.c,oldF w])
   (fun i=>i.acc++encGo f r i.k=l++encGo f r f.size/\i.k<=f.size/\i.acc.length<=i.c/\i.c<=maxLen/\i.acc.length+i.k=l.length+f.size) (fun i=>i.k) ⟨f.size,l,A1,c1⟩ ⟨rfl,Nat.le_refl _,h1,h1m,rfl⟩ (Ent.same ⟨rfl,rfl,rfl,rfl,trivial⟩ rfl) g ?_
  rintro ⟨k,acc,A2,c2⟩ ⟨hinv,hk,hac,hcm,hlen⟩
  simp only at hinv hk hac hcm hlen
  simp only
  refine BIf.dec (fun hp=>?_) (fun hp=>?_)
  ·have hp0:(0:Int)<=(k:Int) - 1:=hp
   obtain ⟨k',rfl⟩: ∃k',k=k'+1:=⟨k - 1,by omega⟩
   refine ⟨((6*k':Nat):Int),by rw [wrap_i64 (by omega) (by omega)];omega,?_⟩
   refine ⟨by omega,((r/2^(6*k'):Nat):Int),?_,?_⟩
   ·have hmin:min ((6*k':Nat):Int).toNat IntKind.i32.bits=6*k':=by show min (6*k') 32=_;omega
    rw [hmin,hz]
    exact z_o9 r (6*k')
   refine ⟨(f.size:Int) - 1,wrap_i64 (by omega) (by omega),?_⟩
   refine BIf.dec (fun he=>?_) (fun he=>?_)
   ·have he0:((k'+1:Nat):Int) - 1=(f.size:Int) - 1:=he
    have henc:encGo f r (k'+1)=(f.lead ||| UInt8.ofNat (r/2^(6*k')))::encGo f r k':=by rw [encGo,if_pos (by omega)]
    refine ⟨_,z_br _,?_⟩
    refine ⟨_,or8 f.lead (UInt8.ofNat (r/2^(6*k'))),?_⟩
    intro b0
    refine ⟨1,acc.length,acc.length+1,acc.map byte,[f.lead ||| UInt8.ofNat (r/2^(6*k'))].map byte,(acc++[f.lead ||| UInt8.ofNat (r/2^(6*k'))]).map byte,rfl,fun β w hs=>z_aj (hs.get 0 rfl),z_as _,rfl,List.map_append.symm,by rw [maxLen_eq];omega,by show (acc.length+1)*1<=_;omega,?_⟩
    intro A' c' q1 q2 _
    refine ⟨(k':Int) - 1,by rw [wrap_i64 (by omega) (by omega)];omega,?_⟩
    have hle:(acc++[f.lead ||| UInt8.ofNat (r/2^(6*k'))]).length=acc.length+1:=by simp
    refine ⟨⟨k',acc++[f.lead ||| UInt8.ofNat (r/2^(6*k'))],A',c'⟩,⟨by rw [<-hinv,henc];simp,by show k'<=f.size;omega,by show (acc++[f.lead ||| UInt8.ofNat (r/2^(6*k'))]).length<=c';omega,q2,by show (acc++[f.lead ||| UInt8.ofNat (r/2^(6*k'))]).length+k'=_;omega⟩,by show k'<k'+1;omega,?_⟩
    simp only [browF,hle]
    exact Ent.mk' ⟨rfl,rfl,rfl,rfl,trivial⟩ rfl (fun β w hs=>hs.weaken (List.Sublist.refl _) (List.sublist_cons_self _ _))
   ·have he0: ¬((k'+1:Nat):Int) - 1=(f.size:Int) - 1:=he
    have henc:encGo f r (k'+1)=(128 ||| (UInt8.ofNat (r/2^(6*k'))&&&63))::encGo f r k':=by rw [encGo,if_neg (by omega)]
    refine ⟨_,z_br _,?_⟩
    refine ⟨_,and8 (UInt8.ofNat (r/2^(6*k'))) 63,?_⟩
    refine ⟨_,or8 128 (UInt8.ofNat (r/2^(6*k'))&&&63),?_⟩
    intro b0
    refine ⟨1,acc.length,acc.length+1,acc.map byte,[128 ||| (UInt8.ofNat (r/2^(6*k'))&&&63)].map byte,(acc++[128 ||| (UInt8.ofNat (r/2^(6*k'))&&&63)]).map byte,rfl,fun β w hs=>z_aj (hs.get 0 rfl),z_as _,rfl,List.map_append.symm,by rw [maxLen_eq];omega,by show (acc.length+1)*1<=_;omega,?_⟩
    intro A' c' q1 q2 _
    refine ⟨(k':Int) - 1,by rw [wrap_i64 (by omega) (by omega)];omega,?_⟩
    have hle:(acc++[128 ||| (UInt8.ofNat (r/2^(6*k'))&&&63)]).length=acc.length+1:=by simp
    refine ⟨⟨k',acc++[128 ||| (UInt8.ofNat (r/2^(6*k'))&&&63)],A',c'⟩,⟨by rw [<-hinv,henc];simp,by show k'<=f.size;omega,by show (acc++[128 ||| (UInt8.ofNat (r/2^(6*k'))&&&63)]).length<=c';omega,q2,by show (acc++[128 ||| (UInt8.ofNat (r/2^(6*k'))&&&63)]).length+k'=_;omega⟩,by show k'<k'+1;omega,?_⟩
    simp only [browF,hle]
    exact Ent.mk' ⟨rfl,rfl,rfl,rfl,trivial⟩ rfl (fun β w hs=>hs.weaken (List.Sublist.refl _) (List.sublist_cons_self _ _))
  ·have hp0: ¬(0:Int)<=(k:Int) - 1:=hp
   obtain rfl:k=0:=by omega
   simp only [encGo,List.append_nil] at hinv
   intro β w' hs
   refine (hs.keepB (List.nil_sublist _)).fin [0] ⟨A2,c2,by rw [<-hinv];rfl,by rw [<-hinv];exact hac,hcm,by rw [<-hinv];rfl⟩
end Go.Proofs.YtfomhhkoamapmaaGreatDoor.Sx
namespace Go.Proofs.YtfomhhkoamapmaaGreatDoor.Sx
open Go
theorem z_vZ {s:List UInt8} {r:Nat} (h:(Nam.decL s).1=some r):Nam.sign r=true:=by
 unfold Nam.decL at h
 split at h
 ·rename_i f hf
  split at h
  ·rename_i q hq
   obtain rfl:=Option.some.inj h
   unfold Nam.tryF at hq
   split at hq
   ·cases hq
   ·split at hq
    ·split at hq
     ·rename_i hh
      obtain rfl:=Option.some.inj hq
      exact hh.2
     ·cases hq
    ·cases hq
  ·cases h
 ·cases h
theorem z_p2 {r:Nat}: ∀(k:Nat) (l:List UInt8),l.length<=k->some r∈Nam.runes l->Nam.sign r=true:=by
 intro k
 induction k with
 | zero=>
  intro l h hm
  obtain rfl:l=[]:=List.length_eq_zero_iff.1 (by omega)
  rw [Nam.runes_nil] at hm
  cases hm
 | succ k ih=>
  intro l h hm
  by_cases hl:l=[]
  ·subst hl
   rw [Nam.runes_nil] at hm
   cases hm
  ·have h1:=Nam.decL_size hl
   rw [Nam.runes_cons hl] at hm
   rcases List.mem_cons.1 hm with hm | hm
   ·exact z_vZ hm.symm
   ·exact ih _ (by rw [List.length_drop];omega) hm
def prepO (l:List (Option Nat)):List Int:=l.flatMap fun o=>prep1 (runeI o)
theorem z_rO (l:List UInt8):prepAt (runesAt l 0)=prepO (Nam.runes l):=by
 have h:=z_gS l _ 0 (Nat.le_refl _)
 rw [List.drop_zero] at h
 have e1:prepAt (runesAt l 0)=((runesAt l 0).map (·.2)).flatMap prep1:=by rw [prepAt,List.flatMap_map]
 rw [e1,h,List.flatMap_map]
 rfl
theorem z_u0 {r:Nat} (h:Nam.sign r=true):r<=1114111:=by
 unfold Nam.sign at h
 simp only [Bool.and_eq_true,decide_eq_true_eq] at h
 exact h.1
theorem z_vE {l:List UInt8} (hv:validB l=true) {z:Int} (hz:z∈prepAt (runesAt l 0)): ∃r:Nat,z=(r:Int)/\Nam.sign r=true/\r<=1114111:=by
 rw [z_rO] at hz
 obtain ⟨o,ho,hz⟩:=List.mem_flatMap.1 hz
 cases o with
 | none=>
  have:=List.all_eq_true.1 hv none ho
  cases this
 | some r=>
  have hs:=z_p2 l.length l (Nat.le_refl _) ho
  unfold prep1 at hz
  split at hz
  ·obtain rfl:=List.mem_singleton.1 hz
   exact ⟨32,rfl,by decide,by decide⟩
  ·split at hz
   ·cases hz
   ·obtain rfl:=List.mem_singleton.1 hz
    exact ⟨r,rfl,hs,z_u0 hs⟩
def badZ (z:Int):Bool:=inSp z barredL || decide (bits .and .i32 z 65534=65534)
def encZ (z:Int):List UInt8:=encL z.toNat
def prepF (l:List UInt8):List UInt8×Int:=
 if validB l=true then if (prepAt (runesAt l 0)).any badZ=true then ([],5) else ((prepAt (runesAt l 0)).flatMap encZ,0) else ([],4)
end Go.Proofs.YtfomhhkoamapmaaGreatDoor.Sx
namespace Go.Proofs.YtfomhhkoamapmaaGreatDoor.Sx
open Go
attribute [local irreducible] Calls
def mkS (l:List UInt8):ByteArray:=⟨l.toArray⟩
theorem z_w5 (z:Int):(encZ z).length<=4:=by
 unfold encZ encL
 rw [z_rG]
 have:=z_oh (z_qG z.toNat Nam.fms form0 z_rQ (fun _ h=>h))
 exact this.2.1
theorem z_vx (z:Int):(prep1 z).length<=1:=by
 unfold prep1
 split
 ·exact Nat.le_refl _
 ·split
  ·exact Nat.zero_le _
  ·exact Nat.le_refl _
theorem z_o2 (l:List UInt8): ∀(k i:Nat),l.length - i<=k->(runesAt l i).length<=l.length - i:=by
 intro k
 induction k with
 | zero=>intro i h;rw [z_ep (by omega)];exact Nat.zero_le _
 | succ k ih=>
  intro i h
  by_cases hi:i<l.length
  ·have h1:=Nam.decL_size (z_jP hi)
   rw [z_gL hi,List.length_cons]
   have:=ih (i+(Nam.decL (l.drop i)).2) (by omega)
   omega
  ·rw [z_ep hi];exact Nat.zero_le _
theorem z_sB {α β:Type} (f:α->List β) (n:Nat) (h: ∀x,(f x).length<=n): ∀l:List α,(l.flatMap f).length<=n*l.length
 | []=>by simp
 | x::r=>by
  rw [List.flatMap_cons,List.length_append,List.length_cons]
  have h1:=h x
  have h2:=z_sB f n h r
  rw [Nat.mul_succ]
  omega
theorem z_t0 (l:List UInt8):(prepAt (runesAt l 0)).length<=l.length:=by
 have h1:=z_sB (fun x:Rn=>prep1 x.2) 1 (fun x=>z_vx x.2) (runesAt l 0)
 have h2:=z_o2 l _ 0 (Nat.le_refl _)
 unfold prepAt
 omega
structure PrS8 where
 out:List UInt8
 A:Option Addr
 c:Nat
theorem z_vc (w0:World) (s:ByteArray) (hl:s.size<=100000) (hf:Forms 9 w0) (h5:(spansF 7 blanksL).p w0) (h6:(spansF 8 nothingL).p w0) (h4:(spansF 4 barredL).p w0):
  Pu Tryz.prog z_k9 #[.string s] w0 (.tuple #[.string (mkS (prepF s.data.toList).1),.int .i64 (prepF s.data.toList).2]):=by
 have g:=z_nc w0 (Un [])
 have hlen:s.data.toList.length=s.size:=rfl
 have own2: ∀ {f1 f2 f3 f4:Fact},f1.own=false->f2.own=false->f3.own=false->f4.own=false-> ∀g∈[f1,f2,f3,f4],g.own=false:=by
  intro f1 f2 f3 f4 e1 e2 e3 e4 g hg
  simp only [List.mem_cons,List.not_mem_nil,or_false] at hg
  rcases hg with rfl | rfl | rfl | rfl<;>assumption
 have st:Sat (z_bp w0 (Un [])) Va.z 0 [] [formF,formF,spansF 7 blanksL,spansF 8 nothingL,spansF 4 barredL] w0:=by
  have s1:Sat (z_bp w0 (Un [])) Va.z 0 [] [spansF 4 barredL] w0:=(Sat.start rfl).rd (fun _ h=>by cases h) h4
  have s2:Sat (z_bp w0 (Un [])) Va.z 0 [] [spansF 8 nothingL,spansF 4 barredL] w0:=s1.rd (fun g hg=>own2 (f1:=spansF 4 barredL) (f2:=noF) (f3:=noF) (f4:=noF) rfl rfl rfl rfl g (by obtain rfl:=List.mem_singleton.1 hg;simp)) h6
  have s3:Sat (z_bp w0 (Un [])) Va.z 0 [] [spansF 7 blanksL,spansF 8 nothingL,spansF 4 barredL] w0:=s2.rd (fun g hg=>own2 (f1:=spansF 8 nothingL) (f2:=spansF 4 barredL) (f3:=noF) (f4:=noF) rfl rfl rfl rfl g (by simp only [List.mem_cons,List.not_mem_nil,or_false] at hg ⊢;rcases hg with h | h<;>simp [h])) h5
  have s4:Sat (z_bp w0 (Un [])) Va.z 0 [] [formF,spansF 7 blanksL,spansF 8 nothingL,spansF 4 barredL] w0:=s3.rd (fun g hg=>own2 (f1:=spansF 7 blanksL) (f2:=spansF 8 nothingL) (f3:=spansF 4 barredL) (f4:=noF) rfl rfl rfl rfl g (by simp only [List.mem_cons,List.not_mem_nil,or_false] at hg ⊢;rcases hg with h | h | h<;>simp [h])) hf
  exact s4.rd (own2 rfl rfl rfl rfl) hf
 refine z_ac (cx:=z_bp w0 (Un [])) g z_pp rfl rfl (β:=Va.z) [.c (.v (.string s))] 0 [] _ rfl rfl st ?_
 obtain ⟨bv,hv⟩: ∃bv,validB s.data.toList=bv:=⟨_,rfl⟩
 refine z_ah (v:= .bool bv) (fun β w hs=>by
  have h:=z_yi w s (by omega) (hs.get 0 rfl)
  rw [hv] at h
  exact h) ?_
 cases bv with
 | false=>
  intro β w' hs
  refine (hs.keepB (List.nil_sublist _)).fin [] ⟨?_,rfl⟩
  unfold prepF
  rw [hv]
  rfl
 | true=>
  refine z_aa [] (fun β w hs=>z_ud w s) ?_
  rintro v Fs ⟨bx,rfl,rfl⟩
  obtain ⟨T,hT⟩: ∃T,prepAt (runesAt s.data.toList 0)=T:=⟨_,rfl⟩
  have hTl:T.length<=100000:=by
   have:=z_t0 s.data.toList
   rw [hT] at this
   omega
  have hpr:prepF s.data.toList=if T.any badZ=true then ([],5) else (T.flatMap encZ,0):=by unfold prepF;rw [if_pos hv,hT]
  refine z_ca (α:=Int) (ι:=PrS8) (κ:=Unit) g rfl (cv:=[.pointer (some ⟨bx,0,none⟩)]) rfl (by kernel_rfl) 3 (Nat.le_refl 3)
   (fun pre i=>pre.any badZ=false/\i.out=pre.flatMap encZ) (fun i=>[⟨2,z_al,[.v (.slice i.A i.out.length i.c)]⟩,⟨1,z_aZ,[.v (.int .i64 0)]⟩,⟨0,z_ak,[.v (.string (mkS []))]⟩]) (fun i=>[browF z_ab i.A i.out i.c]) (fun i=>⟨rfl,trivial⟩)
   (fun e pre _=>e= .ret/\pre.any badZ=true) (fun _=>[⟨1,z_aZ,[.v (.int .i64 5)]⟩,⟨0,z_ak,[.v (.string (mkS []))]⟩]) (fun _=>[]) (fun _=>trivial)
   [bkF bx z_ak [.string s]] [formF,spansF 7 blanksL,spansF 8 nothingL] [formF,spansF 4 barredL] ⟨rfl,trivial⟩ (fun g h=>by
    simp only [List.mem_cons,List.not_mem_nil,or_false] at h
    rcases h with rfl | rfl<;>rfl) ⟨[],none,0⟩ ⟨rfl,rfl⟩ (fun β w hs=>⟨β,Agr.refl _ _,?_⟩) (insPr s.data.toList)
   (fun xs Fs'=>xs=T/\Fs'=[]) (fun pre Fs'=>(∃r,T=pre++r)/\Fs'=[])
   (fun l w f0 R J Jx hJ0 hJo hRo hY hm=>(z_yp l w bx s f0 R J Jx hJ0 hJo hRo hY (by omega) hm).mono fun _ Fs h=>by rw [<-hT];exact h) ?_ ?_ ?_
  ·exact (hs.nilRow z_ab 1).perm [1,2,4,5,0,3,6]
  ·rintro ⟨out,A,c⟩ pre z args X W S l' bs pn pn' hbs ⟨hno,hout⟩ ⟨rfl,rfl,r0,hzr⟩
   simp only at hno hout
   rw [hT] at hzr
   refine ⟨_,rfl,?_⟩
   obtain ⟨b1,hb1⟩: ∃b1,inSp z barredL=b1:=⟨_,rfl⟩
   refine ⟨9,9,0,9,9,_,rfl,rfl,rfl,Nat.le_refl _,Nat.le_refl _,Nat.zero_le _,rfl,rfl,rfl,?_⟩
   refine z_ah (v:= .bool b1) (fun β w' hs=>by
    have h:=z_qb w' z (some ⟨4,0,none⟩) barredL 9 (hs.get 3 rfl) (by decide)
    rw [hb1] at h
    exact h) ?_
   cases b1 with
   | true=>
    have hbz:badZ z=true:=by unfold badZ;rw [hb1];rfl
    exact ⟨(),⟨rfl,by rw [List.any_append,List.any_cons,hbz];simp⟩,Ent.mk' trivial rfl (fun β w hs=>((hs.keepB (List.sublist_cons_self _ _)).perm []).lower (n':=3))⟩
   | false=>
    obtain ⟨y,hy⟩: ∃y,bits .and .i32 z 65534=y:=⟨_,rfl⟩
    refine ⟨y,hy,?_⟩
    refine BIf.dec (fun h3=>?_) (fun h3=>?_)
    ·have h30:y=65534:=h3
     have hbz:badZ z=true:=by unfold badZ;rw [hb1,hy,decide_eq_true h30];rfl
     exact ⟨(),⟨rfl,by rw [List.any_append,List.any_cons,hbz];simp⟩,Ent.mk' trivial rfl (fun β w hs=>((hs.keepB (List.sublist_cons_self _ _)).perm []).lower (n':=3))⟩
    ·have h30: ¬y=65534:=h3
     have hbz:badZ z=false:=by unfold badZ;rw [hb1,hy,decide_eq_false h30];rfl
     obtain ⟨r,hz,hsg,hr31⟩:=z_vE hv (z:=z) (by rw [hT,hzr];simp)
     have hol:out.length<=400000:=by
      have h8:=z_sB encZ 4 z_w5 pre
      have h9:pre.length<=T.length:=by rw [hzr,List.length_append];omega
      rw [hout]
      omega
     refine z_aa [] (fun β w' hs=>z_wg w' A out c r z hz hr31 hsg (z_aj (hs.get 1 rfl)) (by omega) (hs.get 2 rfl)) ?_
     rintro v Fs ⟨A',c',rfl,q1,q2,rfl⟩
     exact ⟨⟨out++encL r,A',c'⟩,⟨by rw [List.any_append,hno,List.any_cons,hbz];rfl,by rw [hout,List.flatMap_append];simp [encZ,hz]⟩,Ent.mk' trivial rfl (fun β w hs=>(hs.perm [0]).lower (n':=3))⟩
  ·rintro xs ⟨out,A,c⟩ Fs ⟨hno,hout⟩ ⟨rfl,rfl⟩
   simp only at hno hout
   rw [if_neg (by rw [hno];decide)] at hpr
   refine ⟨out,fun β w hs=>z_aj (hs.get 0 rfl),?_⟩
   intro β w' hs
   refine (hs.keepB (List.nil_sublist _)).fin [] ⟨?_,rfl⟩
   rw [hpr,<-hout]
   rfl
  ·rintro e pre ⟨⟩ Fs ⟨rfl,hbad⟩ ⟨⟨r,hr⟩,rfl⟩
   rw [if_pos (by rw [hr,List.any_append,hbad];rfl)] at hpr
   intro β w' hs
   refine (hs.keepB (List.nil_sublist _)).fin [] ⟨?_,rfl⟩
   rw [hpr]
   rfl
def sizF (l:List UInt8) (most:Nat):List UInt8×Int:=
 if (prepF l).2=0 then if (prepF l).1=[] then ([],2) else if most<(prepF l).1.length then ([],3) else ((prepF l).1,0) else ([],(prepF l).2)
theorem mkS_nil {p:List UInt8}:mkS p=mkS []↔p=[]:=by
 constructor
 ·intro h
  have:=congrArg (fun s:ByteArray=>s.data.toList) h
  simpa [mkS] using this
 ·rintro rfl;rfl
theorem z_yU (w:World) (s:ByteArray) (most:Nat) (hmost:most<=1000000) (hl:s.size<=100000) (hf:Forms 9 w) (h5:(spansF 7 blanksL).p w) (h6:(spansF 8 nothingL).p w) (h4:(spansF 4 barredL).p w):
  Pu Tryz.prog z_nC #[.string s,.int .i64 (most:Int)] w (.tuple #[.string (mkS (sizF s.data.toList most).1),.int .i64 (sizF s.data.toList most).2]):=by
 have g:=z_oD w (Un [])
 refine z_ac (cx:=z_ik w (Un [])) g z_rH rfl rfl (β:=Va.z) [.c (.v (.string s)),.c (.v (.int .i64 (most:Int)))] 0 [] [oldF w] rfl rfl (z_aS rfl) ?_
 obtain ⟨p,e,hpe⟩: ∃p e,prepF s.data.toList=(p,e):=⟨_,_,rfl⟩
 have hz:sizF s.data.toList most=if e=0 then if p=[] then ([],2) else if most<p.length then ([],3) else (p,0) else ([],e):=by unfold sizF;rw [hpe]
 refine z_ah (v:= .tuple #[.string (mkS p),.int .i64 e]) (fun β w' hs=>by
  have h:=z_vc w' s hl (Forms.old hf (hs.get 0 rfl)) (Rd.old h5 (hs.get 0 rfl)) (Rd.old h6 (hs.get 0 rfl)) (Rd.old h4 (hs.get 0 rfl))
  rw [hpe] at h
  exact h) ?_
 have fin: ∀(q:List UInt8) (d:Int),sizF s.data.toList most=(q,d)-> ∀ {n:Nat} {H:List Bk} {F:List Fact} (β:Va) (w':World),Sat (z_ik w (Un [])) β n H F w'->Fin w [] (fun u Fs=>u= .tuple #[.string (mkS (sizF s.data.toList most).1),.int .i64 (sizF s.data.toList most).2]/\Fs=[]) (.tuple #[.string (mkS q),.int .i64 d]) w':=by
  intro q d h n H F β w' hs
  rw [h]
  exact (hs.keepB (List.nil_sublist _)).fin [] ⟨rfl,rfl⟩
 refine BIf.not (BIf.dec (fun he=>?_) (fun he=>?_))
 ·have he0:e=0:=he
  rw [if_pos he0] at hz
  refine BIf.dec (p:=mkS p=mkS []) (fun hp=>?_) (fun hp=>?_)
  ·rw [if_pos (mkS_nil.1 hp)] at hz
   exact fin [] 2 hz
  ·rw [if_neg (fun q=>hp (mkS_nil.2 q))] at hz
   have hsz:(mkS p).size=p.length:=by simp [mkS,ByteArray.size]
   refine BIf.dec (fun hm=>?_) (fun hm=>?_)
   ·have hm0:(most:Int)<((mkS p).size:Int):=hm
    rw [hsz] at hm0
    rw [if_pos (by omega)] at hz
    exact fin [] 3 hz
   ·have hm0: ¬(most:Int)<((mkS p).size:Int):=hm
    rw [hsz] at hm0
    rw [if_neg (by omega)] at hz
    rw [he0]
    exact fin p 0 hz
 ·have he0: ¬e=0:=he
  rw [if_neg he0] at hz
  exact fin [] e hz
theorem z_zo (w:World) (s:ByteArray) (hl:s.size<=100000) (hf:Forms 9 w) (h5:(spansF 7 blanksL).p w) (h6:(spansF 8 nothingL).p w) (h4:(spansF 4 barredL).p w):
  Pu Tryz.prog z_lf #[.string s] w (.tuple #[.string (mkS (sizF s.data.toList 32).1),.int .i64 (sizF s.data.toList 32).2]):=by
 have g:=z_pq w (Un [])
 refine z_ac (cx:=z_nD w (Un [])) g z_sj rfl rfl (β:=Va.z) [.c (.v (.string s))] 0 [] [oldF w] rfl rfl (z_aS rfl) ?_
 refine z_ah (fun β w' hs=>z_yU w' s 32 (by decide) hl (Forms.old hf (hs.get 0 rfl)) (Rd.old h5 (hs.get 0 rfl)) (Rd.old h6 (hs.get 0 rfl)) (Rd.old h4 (hs.get 0 rfl))) ?_
 intro β w' hs
 exact hs.fin [] ⟨rfl,rfl⟩
def okc (x:UInt8):Bool:=decide ((97<=x.toNat/\x.toNat<=122)\/(48<=x.toNat/\x.toNat<=57)\/x.toNat=45\/x.toNat=95)
def plainF (l:List UInt8):Bool:=l.all okc&&(decide (l≠[])&&decide (l.length<=32))
set_option maxHeartbeats 1000000 in
theorem z_vr (w:World) (s:ByteArray) (hl:s.size<=100000):Pu Tryz.prog z_nq #[.string s] w (.bool (plainF s.data.toList)):=by
 have g:=z_om w (Un [])
 have hlen:s.data.toList.length=s.size:=rfl
 refine z_ac (cx:=z_h9 w (Un [])) g z_qO rfl rfl (β:=Va.z) [.c (.v (.string s))] 0 [] [] rfl rfl (Sat.start rfl) ?_
 intro b c hc _
 refine z_ag 0 (fun k:Nat=>[(0,.c (.v (.string s))),(6,.c (.v (.slice (some ⟨b,0,none⟩) s.size c))),(7,.c (.v (.int .i64 s.size))),(8,.c (.v (.int .i64 (k:Int))))]) (fun _=>[]) (fun _=>[rdoF 1 (some ⟨b,0,none⟩) s.size (s.data.toList.map byte)])
  (fun k=>k<=s.size/\(s.data.toList.take k).all okc=true) (fun k=>s.size - k) 0 ⟨Nat.zero_le _,rfl⟩ (Ent.same ⟨rfl,rfl,rfl,rfl,trivial⟩ rfl) g ?_
 rintro k ⟨hk,hall⟩
 refine BIf.dec (fun hlt=>?_) (fun hge=>?_)
 ·have hlt0:(k:Int)<s.size:=hlt
  have hkl:k<s.size:=by omega
  obtain ⟨x,hx,hxm⟩:=at_lt (l:=s.data.toList) (k:=k) (by omega)
  obtain ⟨z,hz⟩: ∃z:Int,(x.toNat:Int)=z:=⟨_,rfl⟩
  have hsn:okc x=true->(s.data.toList.take (k+1)).all okc=true:=fun h=>by rw [List.take_add_one,hx,List.all_append,hall];simp [h]
  have bad:okc x=false-> ∀ {n:Nat} {H:List Bk} {F:List Fact} (β:Va) (w':World),Sat (z_h9 w (Un [])) β n H F w'->Fin w [] (fun u Fs=>u= .bool (plainF s.data.toList)/\Fs=[]) (.bool false) w':=by
   intro h n H F β w' hs
   refine (hs.keepB (List.nil_sublist _)).fin [] ⟨?_,rfl⟩
   have:s.data.toList.all okc=false:=by
    rw [List.all_eq_false]
    exact ⟨x,hxm,by rw [h];decide⟩
   unfold plainF
   rw [this]
   rfl
  refine ⟨⟨b,0,none⟩,k,rfl,rfl,hkl,.int .u8 z,fun β w' hs=>by rw [<-hz];exact Rd.cell1 (u:=byte x) (hs.get 0 rfl) (by rw [List.getElem?_map,hx];rfl),?_⟩
  conv=>whnf
  generalize h1:decide ((97:Int)<=z)=b1
  cases b1 with
  | true=>
   conv=>whnf
   generalize h2:decide (z<=(122:Int))=b2
   cases b2 with
   | true=>
    refine ⟨((k+1:Nat):Int),by rw [wrap_i64 (by omega) (by omega)];rfl,?_⟩
    exact ⟨k+1,⟨hkl,hsn (by simp only [decide_eq_true_eq,decide_eq_false_iff_not] at *;simp only [okc,decide_eq_true_eq];omega)⟩,by omega,Ent.same ⟨rfl,rfl,rfl,rfl,trivial⟩ rfl⟩
   | false=>
    conv=>whnf
    generalize h3:decide ((48:Int)<=z)=b3
    cases b3 with
    | true=>
     conv=>whnf
     generalize h4:decide (z<=(57:Int))=b4
     cases b4 with
     | true=>
      refine ⟨((k+1:Nat):Int),by rw [wrap_i64 (by omega) (by omega)];rfl,?_⟩
      exact ⟨k+1,⟨hkl,hsn (by simp only [decide_eq_true_eq,decide_eq_false_iff_not] at *;simp only [okc,decide_eq_true_eq];omega)⟩,by omega,Ent.same ⟨rfl,rfl,rfl,rfl,trivial⟩ rfl⟩
     | false=>
      conv=>whnf
      generalize h5:decide (z=(45:Int))=b5
      cases b5 with
      | true=>
       refine ⟨((k+1:Nat):Int),by rw [wrap_i64 (by omega) (by omega)];rfl,?_⟩
       exact ⟨k+1,⟨hkl,hsn (by simp only [decide_eq_true_eq,decide_eq_false_iff_not] at *;simp only [okc,decide_eq_true_eq];omega)⟩,by omega,Ent.same ⟨rfl,rfl,rfl,rfl,trivial⟩ rfl⟩
      | false=>
       conv=>whnf
       generalize h6:decide (z=(95:Int))=b6
       cases b6 with
       | true=>
        refine ⟨((k+1:Nat):Int),by rw [wrap_i64 (by omega) (by omega)];rfl,?_⟩
        exact ⟨k+1,⟨hkl,hsn (by simp only [decide_eq_true_eq,decide_eq_false_iff_not] at *;simp only [okc,decide_eq_true_eq];omega)⟩,by omega,Ent.same ⟨rfl,rfl,rfl,rfl,trivial⟩ rfl⟩
       | false=>
        exact bad (by simp only [decide_eq_true_eq,decide_eq_false_iff_not] at *;simp only [okc,decide_eq_false_iff_not];omega)
    | false=>
     conv=>whnf
     generalize h5:decide (z=(45:Int))=b5
     cases b5 with
     | true=>
      refine ⟨((k+1:Nat):Int),by rw [wrap_i64 (by omega) (by omega)];rfl,?_⟩
      exact ⟨k+1,⟨hkl,hsn (by simp only [decide_eq_true_eq,decide_eq_false_iff_not] at *;simp only [okc,decide_eq_true_eq];omega)⟩,by omega,Ent.same ⟨rfl,rfl,rfl,rfl,trivial⟩ rfl⟩
     | false=>
      conv=>whnf
      generalize h6:decide (z=(95:Int))=b6
      cases b6 with
      | true=>
       refine ⟨((k+1:Nat):Int),by rw [wrap_i64 (by omega) (by omega)];rfl,?_⟩
       exact ⟨k+1,⟨hkl,hsn (by simp only [decide_eq_true_eq,decide_eq_false_iff_not] at *;simp only [okc,decide_eq_true_eq];omega)⟩,by omega,Ent.same ⟨rfl,rfl,rfl,rfl,trivial⟩ rfl⟩
      | false=>
       exact bad (by simp only [decide_eq_true_eq,decide_eq_false_iff_not] at *;simp only [okc,decide_eq_false_iff_not];omega)
  | false=>
   conv=>whnf
   generalize h3:decide ((48:Int)<=z)=b3
   cases b3 with
   | true=>
    conv=>whnf
    generalize h4:decide (z<=(57:Int))=b4
    cases b4 with
    | true=>
     refine ⟨((k+1:Nat):Int),by rw [wrap_i64 (by omega) (by omega)];rfl,?_⟩
     exact ⟨k+1,⟨hkl,hsn (by simp only [decide_eq_true_eq,decide_eq_false_iff_not] at *;simp only [okc,decide_eq_true_eq];omega)⟩,by omega,Ent.same ⟨rfl,rfl,rfl,rfl,trivial⟩ rfl⟩
    | false=>
     conv=>whnf
     generalize h5:decide (z=(45:Int))=b5
     cases b5 with
     | true=>
      refine ⟨((k+1:Nat):Int),by rw [wrap_i64 (by omega) (by omega)];rfl,?_⟩
      exact ⟨k+1,⟨hkl,hsn (by simp only [decide_eq_true_eq,decide_eq_false_iff_not] at *;simp only [okc,decide_eq_true_eq];omega)⟩,by omega,Ent.same ⟨rfl,rfl,rfl,rfl,trivial⟩ rfl⟩
     | false=>
      conv=>whnf
      generalize h6:decide (z=(95:Int))=b6
      cases b6 with
      | true=>
       refine ⟨((k+1:Nat):Int),by rw [wrap_i64 (by omega) (by omega)];rfl,?_⟩
       exact ⟨k+1,⟨hkl,hsn (by simp only [decide_eq_true_eq,decide_eq_false_iff_not] at *;simp only [okc,decide_eq_true_eq];omega)⟩,by omega,Ent.same ⟨rfl,rfl,rfl,rfl,trivial⟩ rfl⟩
      | false=>
       exact bad (by simp only [decide_eq_true_eq,decide_eq_false_iff_not] at *;simp only [okc,decide_eq_false_iff_not];omega)
   | false=>
    conv=>whnf
    generalize h5:decide (z=(45:Int))=b5
    cases b5 with
    | true=>
     refine ⟨((k+1:Nat):Int),by rw [wrap_i64 (by omega) (by omega)];rfl,?_⟩
     exact ⟨k+1,⟨hkl,hsn (by simp only [decide_eq_true_eq,decide_eq_false_iff_not] at *;simp only [okc,decide_eq_true_eq];omega)⟩,by omega,Ent.same ⟨rfl,rfl,rfl,rfl,trivial⟩ rfl⟩
    | false=>
     conv=>whnf
     generalize h6:decide (z=(95:Int))=b6
     cases b6 with
     | true=>
      refine ⟨((k+1:Nat):Int),by rw [wrap_i64 (by omega) (by omega)];rfl,?_⟩
      exact ⟨k+1,⟨hkl,hsn (by simp only [decide_eq_true_eq,decide_eq_false_iff_not] at *;simp only [okc,decide_eq_true_eq];omega)⟩,by omega,Ent.same ⟨rfl,rfl,rfl,rfl,trivial⟩ rfl⟩
     | false=>
      exact bad (by simp only [decide_eq_true_eq,decide_eq_false_iff_not] at *;simp only [okc,decide_eq_false_iff_not];omega)
 ·have hge0: ¬(k:Int)<s.size:=hge
  obtain rfl:k=s.size:=by omega
  rw [<-hlen,List.take_length] at hall
  have hpl:plainF s.data.toList=(decide (s.data.toList≠[])&&decide (s.data.toList.length<=32)):=by unfold plainF;rw [hall,Bool.true_and]
  refine BIf.not (BIf.dec (p:=s=mkS []) (fun he=>?_) (fun he=>?_))
  ·intro β w' hs
   refine (hs.keepB (List.nil_sublist _)).fin [] ⟨?_,rfl⟩
   rw [hpl,he]
   rfl
  ·have hne:s.data.toList≠[]:=fun q=>he (by
    have:s=mkS s.data.toList:=by cases s;rfl
    rw [this,q])
   intro β w' hs
   refine (hs.keepB (List.nil_sublist _)).fin [] ⟨?_,rfl⟩
   rw [hpl,decide_eq_true hne,Bool.true_and,hlen]
   show Value.bool (decide ((s.size:Int)<=32))=_
   congr 1
   exact decide_eq_decide.2 (by omega)
def nameA (s:ByteArray):ByteArray×Int:=(mkS (sizF s.data.toList 32).1,(sizF s.data.toList 32).2)
structure NamT (w:World):Prop where
 f:Forms 9 w
 s5:(spansF 7 blanksL).p w
 s6:(spansF 8 nothingL).p w
 s4:(spansF 4 barredL).p w
theorem NamT.old {W w:World} (h:NamT W) (ho:(oldF W).p w):NamT w:=⟨Forms.old h.f ho,Rd.old h.s5 ho,Rd.old h.s6 ho,Rd.old h.s4 ho⟩
theorem z_yL (w:World) (s:ByteArray) (hl:s.size<=100000) (hn:NamT w):Pu Tryz.prog z_lf #[.string s] w (.tuple #[.string (nameA s).1,.int .i64 (nameA s).2]):=
 z_zo w s hl hn.f hn.s5 hn.s6 hn.s4
def namF:Fact:=readF [formF,spansF 7 blanksL,spansF 8 nothingL,spansF 4 barredL]
theorem z_xD {w:World} (h:namF.p w):NamT w:=⟨h formF (by simp),h (spansF 7 blanksL) (by simp),h (spansF 8 nothingL) (by simp),h (spansF 4 barredL) (by simp)⟩
theorem z_yI (l:List UInt8) (k:Nat):(sizF l k).1.length<=k:=by
 unfold sizF
 split
 ·split
  ·exact Nat.zero_le _
  ·split
   ·exact Nat.zero_le _
   ·rename_i h;exact Nat.le_of_not_lt h
 ·exact Nat.zero_le _
structure Tk where
 epoch:Nat
 serial:Nat
 fro:Nat
 til:Nat
 gen:Nat
 ten:List UInt8
 usr:List UInt8
 rol:List UInt8
def tk0:Tk:=⟨0,0,0,0,0,[],[],[]⟩
def namedT (l:List UInt8):Bool:=decide ((sizF l 32).2=0)&&decide ((sizF l 32).1=l)
structure Tk.Right (t:Tk):Prop where
 usr:namedT t.usr=true
 ten:plainF t.ten=true
 rol:plainF t.rol=true
 e1:1<=t.epoch
 e2:t.epoch<=4294967295
 s1:1<=t.serial
 s2:t.serial<=9007199254740992
 g1:1<=t.gen
 g2:t.gen<=9007199254740992
 lt:t.fro<t.til
 le:t.til<=1099511627776
def txtL (l:List UInt8):List UInt8:=UInt8.ofNat l.length::l
def bodyL (t:Tk):List UInt8:=1::(be 4 t.epoch++(be 8 t.serial++(be 8 t.fro++(be 8 t.til++(be 8 t.gen++(txtL t.ten++(txtL t.usr++txtL t.rol)))))))
theorem z_eg {l:List UInt8} (h:namedT l=true):l.length<=32:=by
 unfold namedT at h
 rw [Bool.and_eq_true,decide_eq_true_iff,decide_eq_true_iff] at h
 rw [<-h.2]
 exact z_yI l 32
theorem z_bg {l:List UInt8} (h:plainF l=true):l.length<=32:=by
 unfold plainF at h
 simp only [Bool.and_eq_true,decide_eq_true_iff] at h
 exact h.2.2
theorem z_ln: ∀(k n:Nat),n<256^k->n<18446744073709551616->numB (be k n)=n
 | 0,n,h,_=>by
  have:n=0:=by simpa using h
  rw [this]
  rfl
 | k+1,n,h,h2=>by
  have h3:n/256<256^k:=by rw [Nat.pow_succ] at h;omega
  rw [be,z_jJ,z_ln k (n/256) h3 (by omega),ofNat_toNat _ (Nat.mod_lt _ (by decide))]
  omega
theorem z_vA {l:List UInt8} {k:Nat} (h:l.length=k+1): ∃m x,l=m++[x]/\m.length=k:=by
 have h0:l≠[]:=fun q=>by rw [q] at h;cases h
 refine ⟨l.dropLast,l.getLast h0,(List.dropLast_concat_getLast h0).symm,?_⟩
 rw [List.length_dropLast,h]
 rfl
theorem z_lm: ∀(k:Nat) (l:List UInt8),l.length=k->k<=8->numB l<256^k
 | 0,l,h,_=>by
  obtain rfl:=List.length_eq_zero_iff.1 h
  decide
 | k+1,l,h,hk=>by
  obtain ⟨m,x,rfl,hm⟩:=z_vA h
  have h2:=z_lm k m hm (by omega)
  have hx:=x.toNat_lt
  rw [z_jJ,Nat.pow_succ]
  exact Nat.lt_of_le_of_lt (Nat.mod_le _ _) (by omega)
theorem z_uB: ∀(k:Nat) (l:List UInt8),l.length=k->k<=8->be k (numB l)=l
 | 0,l,h,_=>by
  obtain rfl:=List.length_eq_zero_iff.1 h
  rfl
 | k+1,l,h,hk=>by
  obtain ⟨m,x,rfl,hm⟩:=z_vA h
  have h2:=z_lm k m hm (by omega)
  have h7:(256:Nat)^k<=256^7:=Nat.pow_le_pow_right (by decide) (by omega)
  have hx:x.toNat<256:=x.toNat_lt
  have hlt:numB m*256+x.toNat<18446744073709551616:=by
   have e:(256:Nat)^7=72057594037927936:=by decide
   omega
  rw [z_jJ,Nat.mod_eq_of_lt hlt]
  show be k ((numB m*256+x.toNat)/256)++[UInt8.ofNat ((numB m*256+x.toNat)%256)]=_
  rw [show (numB m*256+x.toNat)/256=numB m by omega,show (numB m*256+x.toNat)%256=x.toNat by omega,z_uB k m hm (by omega),UInt8.ofNat_toNat]
structure Rdr where
 p:List UInt8
 bad:Bool
def Rdr.take (r:Rdr) (n:Nat):List UInt8×Rdr:=if r.p.length<n then (List.replicate n 0,⟨[],true⟩) else (r.p.take n,⟨r.p.drop n,r.bad⟩)
def Rdr.num (r:Rdr) (n:Nat):Nat×Rdr:=(numB (r.take n).1,(r.take n).2)
def Rdr.txt (r:Rdr):List UInt8×Rdr:=((r.num 1).2).take (r.num 1).1
theorem z_fB (r:Rdr) (n:Nat):(r.take n).1.length=n:=by
 unfold Rdr.take
 split
 ·exact List.length_replicate
 ·simp only [List.length_take];omega
theorem z_oa {x p:List UInt8} {b:Bool} {n:Nat} (h:x.length=n):Rdr.take ⟨x++p,b⟩ n=(x,⟨p,b⟩):=by
 subst h
 unfold Rdr.take
 rw [if_neg (by rw [List.length_append];omega),List.take_left,List.drop_left]
theorem z_vh {r:Rdr} {n:Nat} (h:(r.take n).2.bad=false):r.bad=false/\r.p=(r.take n).1++(r.take n).2.p:=by
 unfold Rdr.take at h ⊢
 split at h
 ·cases h
 ·rename_i hn
  rw [if_neg hn]
  exact ⟨h,(List.take_append_drop n r.p).symm⟩
def rdAll (p:List UInt8):Nat×Tk×Rdr:=
 let a:=Rdr.num ⟨p,false⟩ 1
 let b:=a.2.num 4
 let c:=b.2.num 8
 let d:=c.2.num 8
 let e:=d.2.num 8
 let f:=e.2.num 8
 let g:=f.2.txt
 let h:=g.2.txt
 let i:=h.2.txt
 (a.1,⟨b.1,c.1,d.1,e.1,f.1,g.1,h.1,i.1⟩,i.2)
open Classical in
noncomputable def readT (p:List UInt8):Option Tk:=if (rdAll p).2.2.bad=false/\(rdAll p).2.2.p=[]/\(rdAll p).1=1/\(rdAll p).2.1.Right then some (rdAll p).2.1 else none
theorem z_o3 {n k:Nat} {p:List UInt8} {b:Bool} (h:n<256^k) (hk:k<=8) (h2:n<18446744073709551616):Rdr.num ⟨be k n++p,b⟩ k=(n,⟨p,b⟩):=by
 unfold Rdr.num
 rw [z_oa (z_ay k n),z_ln k n h h2]
theorem z_r9 {l p:List UInt8} {b:Bool} (h:l.length<256):Rdr.txt ⟨txtL l++p,b⟩=(l,⟨p,b⟩):=by
 have e:Rdr.num ⟨txtL l++p,b⟩ 1=(l.length,⟨l++p,b⟩):=by
  unfold Rdr.num
  rw [show txtL l++p=[UInt8.ofNat l.length]++(l++p) from rfl,z_oa (x:=[UInt8.ofNat l.length]) (n:=1) rfl]
  simp only [numB,List.foldl_cons,List.foldl_nil]
  rw [ofNat_toNat _ h]
  congr 1
  omega
 unfold Rdr.txt
 rw [e]
 exact z_oa rfl
theorem z_uO {t:Tk} (h:t.Right):rdAll (bodyL t)=(1,t,⟨[],false⟩):=by
 have l1:=z_bg h.ten
 have l2:=z_eg h.usr
 have l3:=z_bg h.rol
 have q1:=h.e2
 have q2:=h.s2
 have q3:=h.g2
 have q4:=h.lt
 have q5:=h.le
 have p8:(256:Nat)^8=18446744073709551616:=by decide
 have p4:(256:Nat)^4=4294967296:=by decide
 have e1:Rdr.num ⟨bodyL t,false⟩ 1=(1,⟨be 4 t.epoch++(be 8 t.serial++(be 8 t.fro++(be 8 t.til++(be 8 t.gen++(txtL t.ten++(txtL t.usr++txtL t.rol)))))),false⟩):=by
  unfold Rdr.num
  rw [show bodyL t=[1]++(be 4 t.epoch++(be 8 t.serial++(be 8 t.fro++(be 8 t.til++(be 8 t.gen++(txtL t.ten++(txtL t.usr++txtL t.rol))))))) from rfl,z_oa (x:=[1]) (n:=1) rfl]
  rfl
 unfold rdAll
 simp only
 rw [e1]
 simp only
 rw [z_o3 (by omega) (by decide) (by omega)]
 simp only
 rw [z_o3 (by omega) (by decide) (by omega)]
 simp only
 rw [z_o3 (by omega) (by decide) (by omega)]
 simp only
 rw [z_o3 (by omega) (by decide) (by omega)]
 simp only
 rw [z_o3 (by omega) (by decide) (by omega)]
 simp only
 rw [z_r9 (by omega)]
 simp only
 rw [z_r9 (by omega)]
 simp only
 rw [show txtL t.rol=txtL t.rol++[] from (List.append_nil _).symm,z_r9 (by omega)]
theorem z_oI {r:Rdr} {k:Nat} (hk:k<=8) (h:(r.num k).2.bad=false):r.bad=false/\r.p=be k (r.num k).1++(r.num k).2.p:=by
 obtain ⟨h1,h2⟩:=z_vh (r:=r) (n:=k) h
 refine ⟨h1,?_⟩
 have e:=z_uB k (r.take k).1 (z_fB r k) hk
 show r.p=be k (numB (r.take k).1)++(r.take k).2.p
 rw [e]
 exact h2
theorem z_vY {r:Rdr} (h:r.txt.2.bad=false):r.bad=false/\r.p=txtL r.txt.1++r.txt.2.p:=by
 obtain ⟨h1,h2⟩:=z_vh (r:=(r.num 1).2) (n:=(r.num 1).1) h
 obtain ⟨h3,h4⟩:=z_oI (by decide) h1
 refine ⟨h3,?_⟩
 rw [h4,h2]
 show be 1 (r.num 1).1++(r.txt.1++r.txt.2.p)=UInt8.ofNat r.txt.1.length::(r.txt.1++r.txt.2.p)
 have hl:r.txt.1.length=(r.num 1).1:=z_fB _ _
 have hlt:(r.num 1).1<256:=z_lm 1 _ (z_fB r 1) (by decide)
 rw [hl]
 simp only [be,List.nil_append,List.cons_append]
 rw [Nat.mod_eq_of_lt hlt]
theorem z_ve {p:List UInt8} (hb:(rdAll p).2.2.bad=false) (hp:(rdAll p).2.2.p=[]) (h1:(rdAll p).1=1):bodyL (rdAll p).2.1=p:=by
 unfold rdAll at hb hp h1 ⊢
 simp only at hb hp h1 ⊢
 have k1:= @z_oI ⟨p,false⟩ 1 (by decide)
 generalize Rdr.num ⟨p,false⟩ 1=a at hb hp h1 k1 ⊢
 have k2:= @z_oI a.2 4 (by decide)
 generalize a.2.num 4=b at hb hp k2 ⊢
 have k3:= @z_oI b.2 8 (by decide)
 generalize b.2.num 8=c at hb hp k3 ⊢
 have k4:= @z_oI c.2 8 (by decide)
 generalize c.2.num 8=d at hb hp k4 ⊢
 have k5:= @z_oI d.2 8 (by decide)
 generalize d.2.num 8=e at hb hp k5 ⊢
 have k6:= @z_oI e.2 8 (by decide)
 generalize e.2.num 8=f at hb hp k6 ⊢
 have k7:= @z_vY f.2
 generalize f.2.txt=g at hb hp k7 ⊢
 have k8:= @z_vY g.2
 generalize g.2.txt=h at hb hp k8 ⊢
 have k9:= @z_vY h.2
 generalize h.2.txt=i at hb hp k9 ⊢
 obtain ⟨b9,e9⟩:=k9 hb
 obtain ⟨b8,e8⟩:=k8 b9
 obtain ⟨b7,e7⟩:=k7 b8
 obtain ⟨b6,e6⟩:=k6 b7
 obtain ⟨b5,e5⟩:=k5 b6
 obtain ⟨b4,e4⟩:=k4 b5
 obtain ⟨b3,e3⟩:=k3 b4
 obtain ⟨b2,e2⟩:=k2 b3
 obtain ⟨_,e1⟩:=k1 b2
 rw [hp,List.append_nil] at e9
 rw [e2,e3,e4,e5,e6,e7,e8,e9,h1] at e1
 rw [show p=_ from e1]
 rfl
theorem read_iff {p:List UInt8} {t:Tk}:readT p=some t↔t.Right/\bodyL t=p:=by
 unfold readT
 constructor
 ·intro h
  split at h
  ·rename_i q
   obtain rfl:=Option.some.inj h
   exact ⟨q.2.2.2,z_ve q.1 q.2.1 q.2.2.1⟩
  ·cases h
 ·rintro ⟨h,rfl⟩
  rw [z_uO h,if_pos ⟨rfl,rfl,rfl,h⟩]
end Go.Proofs.YtfomhhkoamapmaaGreatDoor.Sx
namespace Go.Proofs.YtfomhhkoamapmaaGreatDoor.Sx
open Go
section
variable {cx:Cx} {n:Nat} {H:List Bk} {F:List Fact} {w:World}
theorem z_rP {f:FuncId} {fn:Func} {c:Code} {R:Value->World->Prop} (g:Good cx) (hf:cx.P.funcs[f]?=some fn) (hb:fn.body=some c) (hN:fn.ntmps=cx.N)
  {β:Va} (svs:List SV) (n:Nat) (H:List Bk) (F:List Fact) (hlen:Nat.ble svs.length cx.N=true) (hltB:allLt n svs=true) (hs:Sat cx β n H F w)
  (hw:Tri cx c (fnPost cx fn.results.toList R) n (pairs 0 svs) H F) (hr:cx.rnd=none:=by rfl) (hm:β.marks=[]:=by rfl) (hp0:cx.pn=[]:=by rfl):
  Calls cx.P f (svs.map (SV.val β)).toArray w fun e w'=> ∃v,e= .returned v/\R v w':=by
 have hfe:cx.fence=Fence.wide:=by unfold Cx.fence;rw [hr]
 refine (callsIn_wide (n:=0)).1 (callsIn_of_wp_marks hf hb trivial ?_)
 have hlt:=z_oL hltB
 have hlen':svs.length<=cx.N:=Nat.le_of_ble_eq_true hlen
 have hi:Inv cx β n (pairs 0 svs) H F {tmps:=(svs.map (SV.val β)).toArray++Array.replicate (fn.ntmps - (svs.map (SV.val β)).toArray.size) undef,defers:=[]} w:=by
  refine ⟨fun t s ht=>?_,?_,by rw [hm];rfl,fun t s ht=>?_,hs⟩
  ·obtain ⟨j,rfl,hj⟩:=z_jf svs 0 t s ht
   have hjl:j<svs.length:=(List.getElem?_eq_some_iff.1 hj).1
   rw [Array.getElem?_append_left (by simp;omega)]
   simp [hj]
  ·simp [hN];omega
  ·obtain ⟨j,rfl,hj⟩:=z_jf svs 0 t s ht
   exact hlt s (List.mem_of_getElem? hj)
 have h0:=hw.run β _ w hi
 rw [hfe] at h0
 refine wpIn_mono h0 fun e a' w' hq=>?_
 have key:After cx (RetWP cx fn.results.toList R) a' w'->LeavesInM Fence.wide 0 cx.P fn a'.tmps (fun e w'=> ∃v,e= .returned v/\R v w') a'.defers .returning w':=by
  rintro ⟨β',n',env',H',F',h',hp⟩
  rw [<-hfe]
  have hd:=h'.df
  obtain ⟨tmps,defers⟩:=a'
  simp only at hd
  subst hd
  exact z_oO g hr hp0 _ β' w' rfl h' hp
 cases e with
 | normal=>exact key hq
 | ret=>exact key hq
 | exit id=>obtain ⟨_,_,_,_,_,_,hq⟩:=hq;exact hq.elim
 | goto l=>obtain ⟨_,_,_,_,_,_,hq⟩:=hq;exact hq.elim
 | panic ch=>exact hq.elim
 | outgrown=>exact hq.elim
theorem z_ds {f:FuncId} {fn:Func} {c:Code} {Gs:List Fact} {R:Value->List Fact->Prop} (g:Good cx) (hf:cx.P.funcs[f]?=some fn) (hb:fn.body=some c) (hN:fn.ntmps=cx.N)
  {β:Va} (svs:List SV) (n:Nat) (H:List Bk) (F:List Fact) (hlen:Nat.ble svs.length cx.N=true) (hltB:allLt n svs=true) (hs:Sat cx β n H F w)
  (hw:Tri cx c (fnPost cx fn.results.toList (Fin w Gs R)) n (pairs 0 svs) H F) (hr:cx.rnd=none:=by rfl) (hm:β.marks=[]:=by rfl) (hp0:cx.pn=[]:=by rfl):
  Con cx.P f (svs.map (SV.val β)).toArray w Gs R:=z_rP g hf hb hN svs n H F hlen hltB hs hw hr hm hp0
theorem z_ae (g:Good cx) {c1 c2:Code} {Q:Exit->KT} {env:Env} (h:cwp cx c1 (andThen (fun n env H F=>Tri cx c2 Q n env H F) Q) n env H F):Tri cx (.seq c1 c2) Q n env H F:=by
 refine ⟨fun β a w hi=>wpIn_seq (wpIn_mono ((z_bv g c1 _ n env H F h).run β a w hi) fun e a w hq=>?_)⟩
 cases e with
 | normal=>
  obtain ⟨β',n',env',H',F',h',hq'⟩:=hq
  exact hq'.run β' a w h'
 | exit i=>exact hq
 | goto l=>exact hq
 | ret=>exact hq
 | panic c=>exact hq
 | outgrown=>exact hq
theorem z_aQ (g:Good cx) {c:Code} {Q:Exit->KT} {env:Env} (h:cwp cx c Q n env H F):Tri cx c Q n env H F:=z_bv g c Q n env H F h
end
theorem z_aM {cx:Cx} {n:Nat} {H:List Bk} {F:List Fact} {ι:Type} (g:Good cx) {c1 c2:Code} {Q:Exit->KT} {env:Env} (T:ι->Prop) (n':Nat) (E:ι->Env) (HH:ι->List Bk) (FF:ι->List Fact) (hkey: ∀i,T i->Tri cx c2 Q n' (E i) (HH i) (FF i))
  (h:cwp cx c1 (andThen (fun n env H F=>EntX cx n env H F T n' E HH FF) Q) n env H F):Tri cx (.seq c1 c2) Q n env H F:=by
 refine ⟨fun β a w hi=>wpIn_seq (wpIn_mono ((z_bv g c1 _ n env H F h).run β a w hi) fun e a w hq=>?_)⟩
 cases e with
 | normal=>
  obtain ⟨β',n',env',H',F',h',hq'⟩:=hq
  exact (z_gW T _ E HH FF hkey hq').run β' a w h'
 | exit i=>exact hq
 | goto l=>exact hq
 | ret=>exact hq
 | panic c=>exact hq
 | outgrown=>exact hq
end Go.Proofs.YtfomhhkoamapmaaGreatDoor.Sx
namespace Go.Proofs.YtfomhhkoamapmaaGreatDoor.Sx
open Go
section
variable {cx:Cx} {n:Nat} {H:List Bk} {F:List Fact} {env:Env}
theorem z_id {c1 c2:Code} {Q:Exit->KT} (h:Tri cx c1 (andThen (fun n env H F=>Tri cx c2 Q n env H F) Q) n env H F):Tri cx (.seq c1 c2) Q n env H F:=by
 refine ⟨fun β a w hi=>wpIn_seq (wpIn_mono (h.run β a w hi) fun e a w hq=>?_)⟩
 cases e with
 | normal=>
  obtain ⟨β',n',env',H',F',h',hq'⟩:=hq
  exact hq'.run β' a w h'
 | exit i=>exact hq
 | goto l=>exact hq
 | ret=>exact hq
 | panic c=>exact hq
 | outgrown=>exact hq
theorem z_b3 {id:Nat} {c:Code} {Q:Exit->KT} (h:Tri cx c (inBlock id Q) n env H F):Tri cx (.block id c) Q n env H F:=by
 refine ⟨fun β a w hi=>wpIn_block (wpIn_mono (h.run β a w hi) fun e a w hq=>?_)⟩
 cases e with
 | normal=>exact hq
 | exit i=>
  obtain ⟨β',n',env',H',F',h',hq'⟩:=hq
  simp only [inBlock] at hq'
  simp only [Exit.inBlock]
  cases hb:Nat.beq i id with
  | true=>rw [hb] at hq';rw [if_pos (Nat.eq_of_beq_eq_true hb)];exact ⟨β',n',env',H',F',h',hq'⟩
  | false=>
   rw [hb] at hq'
   rw [if_neg (fun q=>by subst q;rw [Nat.beq_refl] at hb;cases hb)]
   exact ⟨β',n',env',H',F',h',hq'⟩
 | goto l=>exact hq
 | ret=>exact hq
 | panic c=>exact hq
 | outgrown=>exact hq
theorem z_dq {c:Code} {Q:Exit->KT} {ι:Type} (n':Nat) (E:ι->Env) (HH:ι->List Bk) (FF:ι->List Fact) (pre:ι->Prop) (μ:ι->Nat) (i0:ι) (h0:pre i0) (he:Ent cx n env H F n' (E i0) (HH i0) (FF i0))
  (round: ∀i,pre i->Tri cx c (andThen (fun m env H F=> ∃j,pre j/\μ j<μ i/\Ent cx m env H F n' (E j) (HH j) (FF j)) Q) n' (E i) (HH i) (FF i)):Tri cx (.loop c) Q n env H F:=by
 refine ⟨fun β a w h=>?_⟩
 obtain ⟨β',_,_,h'⟩:=he.run β a w h
 intro b k cs hro hb hr
 have key: ∀(m:Nat) (i:ι),μ i=m->pre i-> ∀β a w,Inv cx β n' (E i) (HH i) (FF i) a w->
   ∃e a' w',Post cx Q e a' w'/\ArrivesIn (Machine.fenced cx.P cx.fence) cx.P (lone (b.atR a (.code c:: .inLoop c::k)) cs w) b k cs e a' w':=by
  intro m
  induction m using Nat.strongRecOn with
  | _ m ih=>
   intro i hm hpre β a w h
   have hr':=(round i hpre).run β a w h
   obtain ⟨e,a₁,w₁,hq,harr⟩:=hr' b (.inLoop c::k) cs hro hb hr
   cases e with
   | normal=>
    obtain ⟨β',n1,env1,H1,F1,h1,j,hpj,hlt,hent⟩:=hq
    obtain ⟨β2,_,_,h2⟩:=hent.run β' a₁ w₁ h1
    obtain ⟨e₂,a₂,w₂,hq₂,harr₂⟩:=ih (μ j) (hm▸hlt) j rfl hpj β2 a₁ w₁ h2
    exact ⟨e₂,a₂,w₂,hq₂,.of_steps (StepsIn.trans harr (.one (fenced_calm hb hr rfl) stepR_inLoop)) harr₂⟩
   | exit id=>exact ⟨.exit id,a₁,w₁,hq,.pass (x:= .inLoop c) rfl (fun _ _=> .inl (by simp)) harr⟩
   | goto l=>exact ⟨.goto l,a₁,w₁,hq,.pass (x:= .inLoop c) rfl (fun _ _=> .inl (by simp)) harr⟩
   | ret=>exact ⟨.ret,a₁,w₁,hq,.pass (x:= .inLoop c) rfl (fun _ _=> .inl (by simp)) harr⟩
   | panic ch=>exact hq.elim
   | outgrown=>exact hq.elim
 obtain ⟨e,a',w',hq,harr⟩:=key _ i0 rfl h0 β' a w h'
 exact ⟨e,a',w',hq,.of_steps (.one (fenced_calm hb hr rfl) stepR_loop) harr⟩
theorem z_mw {ι:Type} {c1 c2:Code} {Q:Exit->KT} (T:ι->Prop) (n':Nat) (E:ι->Env) (HH:ι->List Bk) (FF:ι->List Fact) (hkey: ∀i,T i->Tri cx c2 Q n' (E i) (HH i) (FF i))
  (h:Tri cx c1 (andThen (fun n env H F=>EntX cx n env H F T n' E HH FF) Q) n env H F):Tri cx (.seq c1 c2) Q n env H F:=by
 refine ⟨fun β a w hi=>wpIn_seq (wpIn_mono (h.run β a w hi) fun e a w hq=>?_)⟩
 cases e with
 | normal=>
  obtain ⟨β',n',env',H',F',h',hq'⟩:=hq
  exact (z_gW T _ E HH FF hkey hq').run β' a w h'
 | exit i=>exact hq
 | goto l=>exact hq
 | ret=>exact hq
 | panic c=>exact hq
 | outgrown=>exact hq
end
end Go.Proofs.YtfomhhkoamapmaaGreatDoor.Sx
namespace Go.Proofs.YtfomhhkoamapmaaGreatDoor.Sx
open Go
def Reads:List Fact->Prop
 | []=>True
 | f::r=>f.own=false/\Reads r
theorem Reads.mem: ∀ {l:List Fact},Reads l-> ∀f∈l,f.own=false
 | f::r,h,g,hg=>by
  rcases List.mem_cons.1 hg with rfl | hg
  ·exact h.1
  ·exact h.2.mem g hg
section
variable {cx:Cx} {w:World}
theorem z_xr {Gs Rs:List Fact} (hm:Mem w (Gs++Rs)) (hR:Reads Rs) (hW:cx.W0=w) (hS:cx.S=Un Gs) (hbs:cx.bs=[]) (hr:cx.rnd=none) (hpn:cx.pn=[]):Sat cx Va.z 0 [] (Gs++Rs) w:=
 hm.sat0 hW (by rw [hS];exact ownIn hR.mem) hbs rfl rfl hr hpn
theorem z_dN {f:FuncId} {fn:Func} {c:Code} {Gs:List Fact} {R:Value->List Fact->Prop} (g:Good cx) (hf:cx.P.funcs[f]?=some fn) (svs:List SV) (Rs:List Fact) (hm:Mem w (Gs++Rs))
  (hw:cwp cx c (fnPost cx fn.results.toList (Fin w Gs R)) 0 (pairs 0 svs) [] (Gs++Rs)) (hR:Reads Rs:=by first | exact trivial | exact ⟨rfl,trivial⟩ | exact ⟨rfl,rfl,trivial⟩ | exact ⟨rfl,rfl,rfl,trivial⟩ | exact ⟨rfl,rfl,rfl,rfl,trivial⟩ | exact ⟨rfl,rfl,rfl,rfl,rfl,trivial⟩)
  (hb:fn.body=some c:=by rfl) (hN:fn.ntmps=cx.N:=by rfl) (hlen:Nat.ble svs.length cx.N=true:=by rfl) (hltB:allLt 0 svs=true:=by rfl) (hW:cx.W0=w:=by rfl) (hS:cx.S=Un Gs:=by rfl) (hbs:cx.bs=[]:=by rfl) (hr:cx.rnd=none:=by rfl) (hpn:cx.pn=[]:=by rfl):
  Con cx.P f (svs.map (SV.val Va.z)).toArray w Gs R:=
 z_ac g hf hb hN svs 0 [] (Gs++Rs) hlen hltB (z_xr hm hR hW hS hbs hr hpn) hw hr rfl hpn
theorem z_cx {f:FuncId} {fn:Func} {c:Code} {Gs:List Fact} {R:Value->List Fact->Prop} (g:Good cx) (hf:cx.P.funcs[f]?=some fn) (svs:List SV) (Rs:List Fact) (hm:Mem w (Gs++Rs))
  (hw:Tri cx c (fnPost cx fn.results.toList (Fin w Gs R)) 0 (pairs 0 svs) [] (Gs++Rs)) (hR:Reads Rs:=by first | exact trivial | exact ⟨rfl,trivial⟩ | exact ⟨rfl,rfl,trivial⟩ | exact ⟨rfl,rfl,rfl,trivial⟩ | exact ⟨rfl,rfl,rfl,rfl,trivial⟩ | exact ⟨rfl,rfl,rfl,rfl,rfl,trivial⟩)
  (hb:fn.body=some c:=by rfl) (hN:fn.ntmps=cx.N:=by rfl) (hlen:Nat.ble svs.length cx.N=true:=by rfl) (hltB:allLt 0 svs=true:=by rfl) (hW:cx.W0=w:=by rfl) (hS:cx.S=Un Gs:=by rfl) (hbs:cx.bs=[]:=by rfl) (hr:cx.rnd=none:=by rfl) (hpn:cx.pn=[]:=by rfl):
  Con cx.P f (svs.map (SV.val Va.z)).toArray w Gs R:=
 z_ds g hf hb hN svs 0 [] (Gs++Rs) hlen hltB (z_xr hm hR hW hS hbs hr hpn) hw hr rfl hpn
end
end Go.Proofs.YtfomhhkoamapmaaGreatDoor.Sx
namespace Go.Proofs.YtfomhhkoamapmaaGreatDoor.Sx
open Go
def e62:Bool->UInt8
 | true=>45
 | false=>43
def e63:Bool->UInt8
 | true=>95
 | false=>47
def valA (url:Bool) (c:UInt8):Option Nat:=
 if 65<=c.toNat/\c.toNat<=90 then some (c.toNat - 65) else if 97<=c.toNat/\c.toNat<=122 then some (c.toNat - 97+26) else if 48<=c.toNat/\c.toNat<=57 then some (c.toNat - 48+52)
 else if c=e62 url then some 62 else if c=e63 url then some 63 else none
theorem z_sh {url:Bool} {c:UInt8} {n:Nat} (h:valA url c=some n):n<64:=by
 have key: ∀u:Bool,∀m:_root_.Fin 256,((valA u (UInt8.ofNat m.1)).all fun k=>decide (k<64))=true:=by decide+kernel
 have h2:=key url ⟨c.toNat,c.toNat_lt⟩
 simp only [UInt8.ofNat_toNat,h,Option.all_some,decide_eq_true_eq] at h2
 exact h2
def letA (url:Bool) (n:Nat):UInt8:=
 if n<26 then UInt8.ofNat (65+n) else if n<52 then UInt8.ofNat (97+n - 26) else if n<62 then UInt8.ofNat (48+n - 52) else if n=62 then e62 url else e63 url
theorem z_vg (url:Bool) (c:UInt8):valA url c=(List.range 64).find? (fun n=>decide (letA url n=c)):=by
 have key: ∀u:Bool,∀n:_root_.Fin 256,valA u (UInt8.ofNat n.1)=(List.range 64).find? (fun k=>decide (letA u k=UInt8.ofNat n.1)):=by decide+kernel
 have h:=key url ⟨c.toNat,c.toNat_lt⟩
 simpa using h
def u8n (n:Nat):UInt8:=UInt8.ofNat n
def decG:List Nat->Option (List UInt8)
 | a::b::c::d::r=>(decG r).map fun l=>u8n (a*4+b/16)::u8n (b%16*16+c/4)::u8n (c%4*64+d)::l
 | [a,b,c]=>if c%4=0 then some [u8n (a*4+b/16),u8n (b%16*16+c/4)] else none
 | [a,b]=>if b%16=0 then some [u8n (a*4+b/16)] else none
 | [_]=>none
 | []=>some []
def rbits (v:Nat):List UInt8:=[u8n (v/32%2),u8n (v/16%2),u8n (v/8%2),u8n (v/4%2),u8n (v/2%2),u8n (v%2)]
def fold8 (l:List UInt8):UInt8:=l.foldl (fun b x=>b*2+x) 0
def chop:List UInt8->List UInt8×List UInt8
 | a::b::c::d::e::f::g::h::r=>(fold8 [a,b,c,d,e,f,g,h]::(chop r).1,(chop r).2)
 | l=>([],l)
def refG (vs:List Nat):Option (List UInt8):=if (chop (vs.flatMap rbits)).2.all (fun x=>decide (x=0)) then some (chop (vs.flatMap rbits)).1 else none
theorem by1 {a b:Nat} (ha:a<64) (hb:b<64):fold8 (rbits a++(rbits b).take 2)=u8n (a*4+b/16):=by
 have key: ∀x y:_root_.Fin 64,fold8 (rbits x.1++(rbits y.1).take 2)=u8n (x.1*4+y.1/16):=by decide+kernel
 exact key ⟨a,ha⟩ ⟨b,hb⟩
theorem by2 {a b:Nat} (ha:a<64) (hb:b<64):fold8 ((rbits a).drop 2++(rbits b).take 4)=u8n (a%16*16+b/4):=by
 have key: ∀x y:_root_.Fin 64,fold8 ((rbits x.1).drop 2++(rbits y.1).take 4)=u8n (x.1%16*16+y.1/4):=by decide+kernel
 exact key ⟨a,ha⟩ ⟨b,hb⟩
theorem by3 {a b:Nat} (ha:a<64) (hb:b<64):fold8 ((rbits a).drop 4++rbits b)=u8n (a%4*64+b):=by
 have key: ∀x y:_root_.Fin 64,fold8 ((rbits x.1).drop 4++rbits y.1)=u8n (x.1%4*64+y.1):=by decide+kernel
 exact key ⟨a,ha⟩ ⟨b,hb⟩
theorem le4 {a:Nat} (ha:a<64):((rbits a).drop 2).all (fun x=>decide (x=0))=decide (a%16=0):=by
 have key: ∀x:_root_.Fin 64,((rbits x.1).drop 2).all (fun x=>decide (x=0))=decide (x.1%16=0):=by decide+kernel
 exact key ⟨a,ha⟩
theorem le2 {a:Nat} (ha:a<64):((rbits a).drop 4).all (fun x=>decide (x=0))=decide (a%4=0):=by
 have key: ∀x:_root_.Fin 64,((rbits x.1).drop 4).all (fun x=>decide (x=0))=decide (x.1%4=0):=by decide+kernel
 exact key ⟨a,ha⟩
theorem chop8 (l:List UInt8) (h:l.length=8) (r:List UInt8):chop (l++r)=(fold8 l::(chop r).1,(chop r).2):=by
 match l,h with
 | [a,b,c,d,e,f,g,i],_=>rfl
theorem z_vV: ∀(vs:List Nat),(∀v∈vs,v<64)->vs.length%4≠1->refG vs=decG vs
 | [],_,_=>rfl
 | [a],_,h=>absurd rfl h
 | [a,b],hv,_=>by
  have ha:=hv a (by simp)
  have hb:=hv b (by simp)
  have e:([a,b].flatMap rbits)=(rbits a++(rbits b).take 2)++(rbits b).drop 2:=by simp [rbits]
  unfold refG
  rw [e,chop8 _ (by rfl),by1 ha hb]
  have e2:chop ((rbits b).drop 2)=([],(rbits b).drop 2):=rfl
  rw [e2]
  simp only [le4 hb,decG]
  by_cases q:b%16=0<;>simp [q]
 | [a,b,c],hv,_=>by
  have ha:=hv a (by simp)
  have hb:=hv b (by simp)
  have hc:=hv c (by simp)
  have e:([a,b,c].flatMap rbits)=(rbits a++(rbits b).take 2)++(((rbits b).drop 2++(rbits c).take 4)++(rbits c).drop 4):=by simp [rbits]
  unfold refG
  rw [e,chop8 _ (by rfl),by1 ha hb,chop8 _ (by rfl),by2 hb hc]
  have e2:chop ((rbits c).drop 4)=([],(rbits c).drop 4):=rfl
  rw [e2]
  simp only [le2 hc,decG]
  by_cases q:c%4=0<;>simp [q]
 | a::b::c::d::r,hv,h=>by
  have ha:=hv a (by simp)
  have hb:=hv b (by simp)
  have hc:=hv c (by simp)
  have hd:=hv d (by simp)
  have ih:=z_vV r (fun v hv'=>hv v (by simp [hv'])) (by simp only [List.length_cons] at h;omega)
  have e:((a::b::c::d::r).flatMap rbits)=(rbits a++(rbits b).take 2)++(((rbits b).drop 2++(rbits c).take 4)++(((rbits c).drop 4++rbits d)++r.flatMap rbits)):=by simp [rbits]
  unfold refG at ih ⊢
  rw [e,chop8 _ (by rfl),by1 ha hb,chop8 _ (by rfl),by2 hb hc,chop8 _ (by rfl),by3 hc hd]
  simp only [decG,<-ih]
  by_cases q:(chop (r.flatMap rbits)).2.all (fun x=>decide (x=0))=true
  ·rw [if_pos q,if_pos q];rfl
  ·rw [if_neg q,if_neg q];rfl
def valsA (url:Bool):List UInt8->Option (List Nat)
 | []=>some []
 | c::r=>match valA url c,valsA url r with
  | some v,some vs=>some (v::vs)
  | _,_=>none
def decS (url:Bool) (s:List UInt8):Option (List UInt8):=(valsA url s).bind decG
def unpad (s:List UInt8):List UInt8:=if s.getLast?=some 61 then (if s.dropLast.getLast?=some 61 then s.dropLast.dropLast else s.dropLast) else s
def decP (s:List UInt8):Option (List UInt8):=if s.length%4≠0 then none else if (unpad s).length%4=1 then none else decS false (unpad s)
def decU (s:List UInt8):Option (List UInt8):=if s.length%4=1 then none else decS true s
def runC (c:UInt8):Bool:=decide (65<=c.toNat/\c.toNat<=90) || (decide (97<=c.toNat/\c.toNat<=122) || (decide (48<=c.toNat/\c.toNat<=57) || (decide (c=43) || (decide (c=47) || (decide (c=45) || decide (c=95))))))
def rblank (r:Int):Bool:=decide (r=160\/r=5760\/(8192<=r/\r<=8202)\/r=8239\/r=8287\/r=12288)
def rgoes (r:Int):Bool:=decide (r=173\/(8203<=r/\r<=8205)\/r=8288\/(65024<=r/\r<=65039)\/r=65279)
def rbars (r:Int):Bool:=decide (r<=31\/(127<=r/\r<=159)\/(8232<=r/\r<=8238)\/(8294<=r/\r<=8297)\/(57344<=r/\r<=63743)\/983040<=r\/(65529<=r/\r<=65533)\/(64976<=r/\r<=65007)\/65534<=r%65536)
theorem z_vK (r:Int):rblank r=inSp r blanksL:=by
 unfold rblank inSp blanksL
 simp only [List.any_cons,List.any_nil,Bool.or_false]
 rw [Bool.eq_iff_iff]
 simp only [decide_eq_true_eq,Bool.or_eq_true,Bool.and_eq_true]
 omega
theorem z_xk (r:Int):rgoes r=inSp r nothingL:=by
 unfold rgoes inSp nothingL
 simp only [List.any_cons,List.any_nil,Bool.or_false]
 rw [Bool.eq_iff_iff]
 simp only [decide_eq_true_eq,Bool.or_eq_true,Bool.and_eq_true]
 omega
theorem z_ws {x:Nat} (hx:x<2147483648):bits .and .i32 (x:Int) 65534=65534↔65534<=x%65536:=by
 have e:bits .and .i32 (x:Int) 65534=((x&&&65534:Nat):Int):=by
  show IntKind.i32.wrap ((((BitVec.ofInt 32 (x:Int))&&&(BitVec.ofInt 32 65534)).toNat:Nat):Int)=_
  have h1:(BitVec.ofInt 32 (x:Int)).toNat=x:=by rw [BitVec.toNat_ofInt];omega
  have h2:(BitVec.ofInt 32 65534).toNat=65534:=by decide
  rw [BitVec.toNat_and,h1,h2]
  have:=Nat.and_le_left (n:=x) (m:=65534)
  exact z_mt (by omega) (by omega)
 rw [e]
 have h:x&&&65534=(x%65536)/2*2:=by
  apply Nat.eq_of_testBit_eq
  intro i
  have h3:(x%65536)/2*2=((x%2^16)>>>1)<<<1:=by rw [Nat.shiftRight_eq_div_pow,Nat.shiftLeft_eq]
  have h4:(65534:Nat)=(2^15 - 1)<<<1:=by decide
  rw [h3,h4,Nat.testBit_and,Nat.testBit_shiftLeft,Nat.testBit_shiftLeft,Nat.testBit_shiftRight,Nat.testBit_mod_two_pow,Nat.testBit_two_pow_sub_one]
  by_cases hi:1<=i
  ·have e2:1+(i - 1)=i:=by omega
   have e3:decide (i - 1<15)=decide (i<16):=decide_eq_decide.2 (by omega)
   rw [decide_eq_true hi,e2,e3,Bool.true_and,Bool.true_and,Bool.and_comm]
  ·rw [decide_eq_false hi];simp
 rw [h]
 omega
theorem z_xa {x:Nat} (hx:x<=1114111):rbars (x:Int)=badZ (x:Int):=by
 unfold rbars badZ inSp barredL
 simp only [List.any_cons,List.any_nil,Bool.or_false]
 rw [Bool.eq_iff_iff]
 simp only [decide_eq_true_eq,Bool.or_eq_true,Bool.and_eq_true]
 rw [z_ws (by omega)]
 omega
def rbytesL (r:Nat):List UInt8:=
 if r<128 then [UInt8.ofNat r]
 else if r<2048 then [UInt8.ofNat (192+r/64),UInt8.ofNat (128+r%64)]
 else if r<65536 then [UInt8.ofNat (224+r/4096),UInt8.ofNat (128+r/64%64),UInt8.ofNat (128+r%64)]
 else [UInt8.ofNat (240+r/262144),UInt8.ofNat (128+r/4096%64),UInt8.ofNat (128+r/64%64),UInt8.ofNat (128+r%64)]
theorem low6 (y:Nat):128 ||| (UInt8.ofNat y&&&63)=UInt8.ofNat (128+y%64):=by
 have key: ∀n:_root_.Fin 256,128 ||| (UInt8.ofNat n.1&&&63)=UInt8.ofNat (128+n.1%64):=by decide+kernel
 have h:=key ⟨y%256,Nat.mod_lt _ (by decide)⟩
 have e1:UInt8.ofNat (y%256)=UInt8.ofNat y:=by apply UInt8.toNat_inj.1;simp
 simp only [e1] at h
 rw [h]
 congr 2
 omega
theorem hi2 {y:Nat} (h:y<32):192 ||| UInt8.ofNat y=UInt8.ofNat (192+y):=by
 have key: ∀n:_root_.Fin 32,192 ||| UInt8.ofNat n.1=UInt8.ofNat (192+n.1):=by decide+kernel
 exact key ⟨y,h⟩
theorem hi3 {y:Nat} (h:y<16):224 ||| UInt8.ofNat y=UInt8.ofNat (224+y):=by
 have key: ∀n:_root_.Fin 16,224 ||| UInt8.ofNat n.1=UInt8.ofNat (224+n.1):=by decide+kernel
 exact key ⟨y,h⟩
theorem hi4 {y:Nat} (h:y<8):240 ||| UInt8.ofNat y=UInt8.ofNat (240+y):=by
 have key: ∀n:_root_.Fin 8,240 ||| UInt8.ofNat n.1=UInt8.ofNat (240+n.1):=by decide+kernel
 exact key ⟨y,h⟩
theorem z_xU {r:Nat} (hr:r<=1114111):encL r=rbytesL r:=by
 unfold rbytesL
 have hf:formOf r=if r<128 then form0 else if r<2048 then ⟨2,0xe0,0xc0,0x80⟩ else if r<65536 then ⟨3,0xf0,0xe0,0x800⟩ else ⟨4,0xf8,0xf0,0x10000⟩:=by
  simp only [formOf,Nam.fms,List.foldl_cons,List.foldl_nil,pickF,Nat.zero_le,if_true]
  by_cases h1:r<128
  ·rw [if_pos h1,if_neg (by omega),if_neg (by omega),if_neg (by omega)];rfl
  ·by_cases h2:r<2048
   ·rw [if_neg h1,if_pos h2,if_neg (by omega),if_neg (by omega),if_pos (by omega)]
   ·by_cases h3:r<65536
    ·rw [if_neg h1,if_neg h2,if_pos h3,if_neg (by omega),if_pos (by omega)]
    ·rw [if_neg h1,if_neg h2,if_neg h3,if_pos (by omega)]
 unfold encL
 rw [hf]
 by_cases h1:r<128
 ·rw [if_pos h1,if_pos h1]
  show [0 ||| UInt8.ofNat (r/1)]=_
  rw [Nat.div_one,UInt8.zero_or]
 ·by_cases h2:r<2048
  ·rw [if_neg h1,if_pos h2,if_neg h1,if_pos h2]
   show [192 ||| UInt8.ofNat (r/64),128 ||| (UInt8.ofNat (r/1)&&&63)]=_
   rw [low6,hi2 (by omega),Nat.div_one]
  ·by_cases h3:r<65536
   ·rw [if_neg h1,if_neg h2,if_pos h3,if_neg h1,if_neg h2,if_pos h3]
    show [224 ||| UInt8.ofNat (r/4096),128 ||| (UInt8.ofNat (r/64)&&&63),128 ||| (UInt8.ofNat (r/1)&&&63)]=_
    rw [low6,low6,hi3 (by omega),Nat.div_one]
   ·rw [if_neg h1,if_neg h2,if_neg h3,if_neg h1,if_neg h2,if_neg h3]
    show [240 ||| UInt8.ofNat (r/262144),128 ||| (UInt8.ofNat (r/4096)&&&63),128 ||| (UInt8.ofNat (r/64)&&&63),128 ||| (UInt8.ofNat (r/1)&&&63)]=_
    rw [low6,low6,low6,hi4 (by omega),Nat.div_one]
def prepR:List Int->Option (List UInt8)
 | []=>some []
 | z::l=>if rblank z=true then (prepR l).map ([32]++ ·) else if rgoes z=true then prepR l else if rbars z=true then none else (prepR l).map (rbytesL z.toNat++ ·)
theorem z_sM: ∀(l:List Int),(∀z∈l,∃x:Nat,z=(x:Int)/\x<=1114111)->prepR l=if (l.flatMap prep1).any badZ=true then none else some ((l.flatMap prep1).flatMap encZ)
 | [],_=>rfl
 | z::l,h=>by
  obtain ⟨x,rfl,hx⟩:=h z List.mem_cons_self
  have ih:=z_sM l (fun y hy=>h y (List.mem_cons_of_mem _ hy))
  have e32:encZ 32=[32]:=by decide
  have b32:badZ 32=false:=by decide
  simp only [prepR,List.flatMap_cons,prep1]
  rw [z_vK,z_xk,ih]
  by_cases h1:inSp (x:Int) blanksL=true
  ·rw [if_pos h1,if_pos h1]
   by_cases hb:(l.flatMap prep1).any badZ=true
   ·rw [if_pos hb,if_pos (by rw [List.any_append,hb];simp)];rfl
   ·rw [if_neg hb,if_neg (by rw [List.any_append];simp only [List.any_cons,b32,List.any_nil,Bool.or_false,Bool.false_or];exact hb)]
    simp only [Option.map_some,List.flatMap_append,List.flatMap_cons,List.flatMap_nil,e32,List.append_nil]
  ·rw [if_neg h1,if_neg h1]
   by_cases h2:inSp (x:Int) nothingL=true
   ·rw [if_pos h2,if_pos h2];rfl
   ·rw [if_neg h2,if_neg h2,z_xa hx]
    by_cases h3:badZ (x:Int)=true
    ·rw [if_pos h3,if_pos (by rw [List.any_append,List.any_cons,h3];rfl)]
    ·rw [if_neg h3]
     have h3':badZ (x:Int)=false:=by simpa using h3
     by_cases hb:(l.flatMap prep1).any badZ=true
     ·rw [if_pos hb,if_pos (by rw [List.any_append,hb];simp)];rfl
     ·rw [if_neg hb,if_neg (by rw [List.any_append,List.any_cons,h3'];simpa using hb)]
      simp only [Option.map_some,List.flatMap_append,List.flatMap_cons,List.flatMap_nil,List.append_nil]
      rw [encZ,z_xU (by omega)]
theorem z_rM {l:List UInt8} (hv:validB l=true): ∀x∈runesAt l 0,∃r:Nat,x.2=(r:Int)/\Nam.sign r=true/\r<=1114111:=by
 intro x hx
 have h:=z_gS l _ 0 (Nat.le_refl _)
 rw [List.drop_zero] at h
 have hm:x.2∈(Nam.runes l).map runeI:=by rw [<-h];exact List.mem_map.2 ⟨x,hx,rfl⟩
 obtain ⟨o,ho,he⟩:=List.mem_map.1 hm
 cases o with
 | none=>have:=List.all_eq_true.1 hv none ho;cases this
 | some r=>
  have hs:=z_p2 l.length l (Nat.le_refl _) ho
  exact ⟨r,he.symm,hs,z_u0 hs⟩
theorem z_xg (l:List UInt8):prepF l=if validB l=true then (match prepR ((runesAt l 0).map (·.2)) with | none=>(([],5):List UInt8×Int) | some p=>(p,0)) else ([],4):=by
 unfold prepF
 by_cases hv:validB l=true
 ·rw [if_pos hv,if_pos hv]
  have h:=z_sM ((runesAt l 0).map (·.2)) (fun z hz=>by
   obtain ⟨x,hx,rfl⟩:=List.mem_map.1 hz
   obtain ⟨r,h1,_,h3⟩:=z_rM hv x hx
   exact ⟨r,h1,h3⟩)
  have e1:prepAt (runesAt l 0)=((runesAt l 0).map (·.2)).flatMap prep1:=by rw [prepAt,List.flatMap_map]
  rw [h,e1]
  split<;>rfl
 ·rw [if_neg hv,if_neg hv]
end Go.Proofs.YtfomhhkoamapmaaGreatDoor.Sx
namespace Go.Proofs.YtfomhhkoamapmaaGreatDoor.Sx
open Go
attribute [local irreducible] Calls
def lead (b:UInt8):Option (Nat×Nat):=
 if 194<=b.toNat/\b.toNat<=223 then some (2,b.toNat - 192)
 else if 224<=b.toNat/\b.toNat<=239 then some (3,b.toNat - 224)
 else if 240<=b.toNat/\b.toNat<=244 then some (4,b.toNat - 240)
 else none
theorem z_h0: ∀ {l:List UInt8} {r q:Nat},Nam.tailR l r=some q->r*64^l.length<=q/\q<(r+1)*64^l.length
 | [],r,q,h=>by
  obtain rfl:=Option.some.inj h
  simp
 | b::t,r,q,h=>by
  simp only [Nam.tailR] at h
  split at h
  ·obtain ⟨h1,h2⟩:=z_h0 h
   have hb:b.toNat%64<64:=Nat.mod_lt _ (by decide)
   rw [List.length_cons,Nat.pow_succ]
   constructor
   ·have:r*(64^t.length*64)=(r*64)*64^t.length:=by rw [Nat.mul_comm (64^t.length),Nat.mul_assoc]
    rw [this]
    exact Nat.le_trans (Nat.mul_le_mul_right _ (by omega)) h1
   ·have:(r+1)*(64^t.length*64)=((r+1)*64)*64^t.length:=by rw [Nat.mul_comm (64^t.length),Nat.mul_assoc]
    rw [this]
    exact Nat.lt_of_lt_of_le h2 (Nat.mul_le_mul_right _ (by omega))
  ·cases h
theorem z_oC (b:UInt8):(b.toNat<128->b&&&0x80=0/\(b&&& ~~~0x80).toNat=b.toNat)/\(192<=b.toNat/\b.toNat<=223->b&&&0xe0=0xc0/\(b&&& ~~~0xe0).toNat=b.toNat - 192)/\(224<=b.toNat/\b.toNat<=239->b&&&0xf0=0xe0/\(b&&& ~~~0xf0).toNat=b.toNat - 224)/\(240<=b.toNat/\b.toNat<=247->b&&&0xf8=0xf0/\(b&&& ~~~0xf8).toNat=b.toNat - 240)/\((128<=b.toNat/\b.toNat<=191)\/248<=b.toNat-> ¬b&&&0x80=0/\ ¬b&&&0xe0=0xc0/\ ¬b&&&0xf0=0xe0/\ ¬b&&&0xf8=0xf0):=by
 refine Nam.u8_all (p:=fun b=>(b.toNat<128->b&&&0x80=0/\(b&&& ~~~0x80).toNat=b.toNat)/\(192<=b.toNat/\b.toNat<=223->b&&&0xe0=0xc0/\(b&&& ~~~0xe0).toNat=b.toNat - 192)/\(224<=b.toNat/\b.toNat<=239->b&&&0xf0=0xe0/\(b&&& ~~~0xf0).toNat=b.toNat - 224)/\(240<=b.toNat/\b.toNat<=247->b&&&0xf8=0xf0/\(b&&& ~~~0xf8).toNat=b.toNat - 240)/\((128<=b.toNat/\b.toNat<=191)\/248<=b.toNat-> ¬b&&&0x80=0/\ ¬b&&&0xe0=0xc0/\ ¬b&&&0xf0=0xe0/\ ¬b&&&0xf8=0xf0)) ?_ b
 decide+kernel
theorem z_mr {b:UInt8} {t:List UInt8} {f:Nam.Fm} {r0:Nat} (hf:f∈Nam.fms) (hb:b&&&f.mask=f.lead) (hr:(b&&& ~~~f.mask).toNat=r0):
  Nam.decL (b::t)=if (b::t).length<f.size then (none,1) else match Nam.tailR (t.take (f.size - 1)) r0 with
   | some r=>if f.least<=r/\Nam.sign r=true then (some r,f.size) else (none,1)
   | none=>(none,1):=by
 unfold Nam.decL
 rw [Nam.find_form hf hb]
 by_cases hl:f.size<=(b::t).length
 ·rw [if_pos hl,if_neg (by omega)]
  simp only [Nam.tryF,hr]
  cases Nam.tailR (t.take (f.size - 1)) r0 with
  | none=>rfl
  | some r=>
   simp only
   by_cases h:f.least<=r/\Nam.sign r=true
   ·rw [if_pos h,if_pos h]
   ·rw [if_neg h,if_neg h]
 ·rw [if_neg hl,if_pos (by omega)]
theorem z_tm {b:UInt8} {t:List UInt8} (h:b.toNat<128):Nam.decL (b::t)=(some b.toNat,1):=by
 obtain ⟨h1,h2⟩:=(z_oC b).1 h
 rw [z_mr (f:=⟨1,0x80,0,0⟩) (by simp [Nam.fms]) h1 h2,if_neg (by simp)]
 show (if 0<=b.toNat/\Nam.sign b.toNat=true then (some b.toNat,1) else (none,1))=_
 rw [if_pos ⟨Nat.zero_le _,by simp only [Nam.sign,Bool.and_eq_true,Bool.or_eq_true,decide_eq_true_eq];omega⟩]
def badR (n r:Nat):Prop:=(n=3/\r<2048)\/(n=4/\r<65536)\/(55296<=r/\r<=57343)\/1114111<r
theorem sign_iff {r:Nat}:Nam.sign r=true↔r<=1114111/\(r<55296\/57343<r):=by
 simp only [Nam.sign,Bool.and_eq_true,Bool.or_eq_true,decide_eq_true_eq]
open Classical in
theorem z_vu {b:UInt8} {t:List UInt8} {n r0:Nat} (h:lead b=some (n,r0)):2<=n/\n<=4/\r0<32/\
  Nam.decL (b::t)=if (b::t).length<n then (none,1) else match Nam.tailR (t.take (n - 1)) r0 with
   | some r=>if badR n r then (none,1) else (some r,n)
   | none=>(none,1):=by
 obtain ⟨_,k2,k3,k4,_⟩:=z_oC b
 have hlt:=b.toNat_lt
 have fin_: ∀ {f:Nam.Fm},f∈Nam.fms->f.size=n->b&&&f.mask=f.lead->(b&&& ~~~f.mask).toNat=r0->(∀r,Nam.tailR (t.take (n - 1)) r0=some r->n<=(b::t).length->((f.least<=r/\Nam.sign r=true)↔ ¬badR n r))->
   Nam.decL (b::t)=if (b::t).length<n then (none,1) else match Nam.tailR (t.take (n - 1)) r0 with
    | some r=>if badR n r then (none,1) else (some r,n)
    | none=>(none,1):=by
  intro f hf hn h1 h2 hq
  subst hn
  rw [z_mr hf h1 h2]
  by_cases hl:(b::t).length<f.size
  ·rw [if_pos hl,if_pos hl]
  ·rw [if_neg hl,if_neg hl]
   cases hr:Nam.tailR (t.take (f.size - 1)) r0 with
   | none=>rfl
   | some r=>
    simp only
    have:=hq r hr (by omega)
    by_cases hb:badR f.size r
    ·rw [if_pos hb,if_neg (fun q=>this.1 q hb)]
    ·rw [if_neg hb,if_pos (this.2 hb)]
 unfold lead at h
 split at h
 ·rename_i hh
  obtain ⟨rfl,rfl⟩:=Prod.mk.inj (Option.some.inj h)
  obtain ⟨h1,h2⟩:=k2 (by omega)
  refine ⟨by decide,by decide,by omega,fin_ (f:=⟨2,0xe0,0xc0,0x80⟩) (by simp [Nam.fms]) rfl h1 h2 (fun r hr hl=>?_)⟩
  have hb:=z_h0 hr
  have hl1:(t.take 1).length=1:=by rw [List.length_take];simp only [List.length_cons] at hl;omega
  rw [hl1] at hb
  rw [sign_iff]
  show (128<=r/\_)↔_
  unfold badR
  omega
 ·split at h
  ·rename_i hh
   obtain ⟨rfl,rfl⟩:=Prod.mk.inj (Option.some.inj h)
   obtain ⟨h1,h2⟩:=k3 (by omega)
   refine ⟨by decide,by decide,by omega,fin_ (f:=⟨3,0xf0,0xe0,0x800⟩) (by simp [Nam.fms]) rfl h1 h2 (fun r hr hl=>?_)⟩
   rw [sign_iff]
   show (2048<=r/\_)↔_
   unfold badR
   omega
  ·split at h
   ·rename_i hh
    obtain ⟨rfl,rfl⟩:=Prod.mk.inj (Option.some.inj h)
    obtain ⟨h1,h2⟩:=k4 (by omega)
    refine ⟨by decide,by decide,by omega,fin_ (f:=⟨4,0xf8,0xf0,0x10000⟩) (by simp [Nam.fms]) rfl h1 h2 (fun r hr hl=>?_)⟩
    rw [sign_iff]
    show (65536<=r/\_)↔_
    unfold badR
    omega
   ·cases h
theorem z_tz {b:UInt8} {t:List UInt8} (h0: ¬b.toNat<128) (h:lead b=none):Nam.decL (b::t)=(none,1):=by
 obtain ⟨_,k2,k3,k4,k5⟩:=z_oC b
 have hlt:=b.toNat_lt
 unfold lead at h
 split at h
 ·cases h
 ·split at h
  ·cases h
  ·split at h
   ·cases h
   ·rename_i a1 a2 a3
    by_cases c1:b.toNat=192\/b.toNat=193
    ·obtain ⟨h1,h2⟩:=k2 (by omega)
     rw [z_mr (f:=⟨2,0xe0,0xc0,0x80⟩) (by simp [Nam.fms]) h1 h2]
     by_cases hl:(b::t).length<2
     ·rw [if_pos hl]
     ·rw [if_neg hl]
      show (match Nam.tailR (t.take 1) (b.toNat - 192) with | some r=>if 128<=r/\Nam.sign r=true then (some r,2) else (none,1) | none=>(none,1))=_
      cases hr:Nam.tailR (t.take 1) (b.toNat - 192) with
      | none=>rfl
      | some r=>
       have hb:=z_h0 hr
       have hl1:(t.take 1).length=1:=by rw [List.length_take];simp only [List.length_cons] at hl;omega
       rw [hl1] at hb
       simp only
       rw [if_neg (by omega)]
    ·by_cases c2:245<=b.toNat/\b.toNat<=247
     ·obtain ⟨h1,h2⟩:=k4 (by omega)
      rw [z_mr (f:=⟨4,0xf8,0xf0,0x10000⟩) (by simp [Nam.fms]) h1 h2]
      by_cases hl:(b::t).length<4
      ·rw [if_pos hl]
      ·rw [if_neg hl]
       show (match Nam.tailR (t.take 3) (b.toNat - 240) with | some r=>if 65536<=r/\Nam.sign r=true then (some r,4) else (none,1) | none=>(none,1))=_
       cases hr:Nam.tailR (t.take 3) (b.toNat - 240) with
       | none=>rfl
       | some r=>
        have hb:=z_h0 hr
        have hl1:(t.take 3).length=3:=by rw [List.length_take];simp only [List.length_cons] at hl;omega
        rw [hl1] at hb
        simp only
        rw [if_neg (by rw [sign_iff];omega)]
     ·obtain ⟨p1,p2,p3,p4⟩:=k5 (by omega)
      unfold Nam.decL
      rw [Nam.find_none (fun f hf=>by
       simp only [Nam.fms,List.mem_cons,List.not_mem_nil,or_false] at hf
       rcases hf with rfl | rfl | rfl | rfl
       ·exact p1
       ·exact p2
       ·exact p3
       ·exact p4)]
theorem z_w1 (w:World) (z:Int):Pu Tryz.prog z_fi #[.int .i64 z] w (.bool (rblank z)):=by
 refine z_ac (cx:=z_eL w (Un [])) (z_in w (Un [])) z_kH rfl rfl (β:=Va.z) [.c (.v (.int .i64 z))] 0 [] [] rfl rfl (Sat.start rfl) ?_
 repeat' refine BIf.dec (fun h=>?_) (fun h=>?_)
 all_goals
  intro β w' hs
  refine hs.fin [] ⟨?_,rfl⟩
  show Value.bool _=Value.bool _
  congr 1
  unfold rblank
  rw [Bool.eq_iff_iff]
  simp only [decide_eq_true_eq,Bool.false_eq_true,true_iff,false_iff]
  omega
theorem z_x8 (w:World) (z:Int):Pu Tryz.prog z_gk #[.int .i64 z] w (.bool (rgoes z)):=by
 refine z_ac (cx:=z_fs w (Un [])) (z_iQ w (Un [])) z_lj rfl rfl (β:=Va.z) [.c (.v (.int .i64 z))] 0 [] [] rfl rfl (Sat.start rfl) ?_
 repeat' refine BIf.dec (fun h=>?_) (fun h=>?_)
 all_goals
  intro β w' hs
  refine hs.fin [] ⟨?_,rfl⟩
  show Value.bool _=Value.bool _
  congr 1
  unfold rgoes
  rw [Bool.eq_iff_iff]
  simp only [decide_eq_true_eq,Bool.false_eq_true,true_iff,false_iff]
  omega
theorem z_x3 (w:World) (z:Int):Pu Tryz.prog z_gc #[.int .u8 z] w (.bool (decide (128<=z/\z<=191))):=by
 refine z_ac (cx:=z_fm w (Un [])) (z_i2 w (Un [])) z_lr rfl rfl (β:=Va.z) [.c (.v (.int .u8 z))] 0 [] [] rfl rfl (Sat.start rfl) ?_
 repeat' refine BIf.dec (fun h=>?_) (fun h=>?_)
 all_goals
  intro β w' hs
  refine hs.fin [] ⟨?_,rfl⟩
  show Value.bool _=Value.bool _
  congr 1
  rw [Bool.eq_iff_iff]
  simp only [decide_eq_true_eq,Bool.false_eq_true,true_iff,false_iff]
  omega
set_option maxHeartbeats 2000000 in
theorem z_x6 (w:World) (z:Int) (h0:0<=z):Pu Tryz.prog z_ga #[.int .i64 z] w (.bool (rbars z)):=by
 refine z_ac (cx:=z_fv w (Un [])) (z_iZ w (Un [])) z_lB rfl rfl (β:=Va.z) [.c (.v (.int .i64 z))] 0 [] [] rfl rfl (Sat.start rfl) ?_
 obtain ⟨m,hm⟩: ∃m,z.tmod 65536=m:=⟨_,rfl⟩
 have hm2:z%65536=m:=by rw [<-hm,Int.tmod_eq_emod_of_nonneg h0]
 repeat' refine BIf.dec (fun h=>?_) (fun h=>?_)
 all_goals
  try refine ⟨by decide,m,hm,?_⟩
  intro β w' hs
  refine hs.fin [] ⟨?_,rfl⟩
  show Value.bool _=Value.bool _
  congr 1
  unfold rbars
  rw [Bool.eq_iff_iff]
  simp only [decide_eq_true_eq,Bool.false_eq_true,true_iff,false_iff]
  omega
set_option maxHeartbeats 2000000 in
theorem z_wo (w:World) (s:ByteArray) (b0:UInt8) (t:List UInt8) (hs0:s.data.toList=b0::t) (hsz:s.size<=maxLen):
    Pu Tryz.prog z_fo #[.string s] w (.tuple #[.int .i64 (runeI (Nam.decL (b0::t)).1),.int .i64 ((Nam.decL (b0::t)).2:Int)]):=by
  have g:=z_hZ w (Un [])
  have hlen:s.size=(b0::t).length:=by rw [<-hs0];rfl
  have hml:=maxLen_eq
  refine z_ds (cx:=z_cG w (Un [])) g z_kG rfl rfl (β:=Va.z) [.c (.v (.string s))] 0 [] [] rfl rfl (Sat.start rfl) ?_
  have fin: ∀(a b:Int),runeI (Nam.decL (b0::t)).1=a->((Nam.decL (b0::t)).2:Int)=b-> ∀ {n:Nat} {H:List Bk} {F:List Fact} (β:Va) (w':World),Sat (z_cG w (Un [])) β n H F w'->Fin w [] (fun u Fs=>u= .tuple #[.int .i64 (runeI (Nam.decL (b0::t)).1),.int .i64 ((Nam.decL (b0::t)).2:Int)]/\Fs=[]) (.tuple #[.int .i64 a,.int .i64 b]) w':=by
    intro a b h1 h2 n H F β w' hs
    rw [h1,h2]
    exact (hs.keepB (List.nil_sublist _)).fin [] ⟨rfl,rfl⟩
  obtain ⟨c,hc⟩: ∃c,b0.toNat=c:=⟨_,rfl⟩
  have hc256:c<256:=by rw [<-hc];exact b0.toNat_lt
  refine z_ae g ?_
  refine z_ae g ?_
  refine ⟨0,b0,rfl,by rw [hs0];rfl,?_⟩
  refine ⟨(c:Int),by rw [hc];exact wrap_i64 (by omega) (by omega),?_⟩
  refine z_ae g ?_
  refine z_aM (ι:=Nat×Nat×Int×Int) g (fun i=>lead b0=some (i.1,i.2.1)/\(i.1:Int)=i.2.2.1/\(i.2.1:Int)=i.2.2.2) 0 (fun i=>[(0,.c (.v (.string s))),(5,.c (.v (.int .i64 i.2.2.1))),(6,.c (.v (.int .i64 i.2.2.2)))]) (fun _=>[]) (fun _=>[]) ?_ ?_
  · rintro ⟨n,r0,y,z0⟩ ⟨hld,hy,hz0⟩
    simp only at hld hy hz0
    obtain ⟨hn2,hn4,hr0,hdec⟩:=z_vu (t:=t) hld
    simp only
    refine z_aQ g ?_
    refine BIf.dec (fun hsh=>?_) (fun hsh=>?_)
    · have hsh0:(s.size:Int)<y:=hsh
      rw [if_pos (by omega)] at hdec
      exact fun β w' hs=>fin (-1) 1 (by rw [hdec];rfl) (by rw [hdec];rfl) β w' hs
    · have hsh0: ¬(s.size:Int)<y:=hsh
      rw [if_neg (by omega)] at hdec
      have hfl:n<=(b0::t).length:=by omega
      have hr256:r0<256:=by omega
      refine z_ag (ι:=Nat×Nat×Int) 0 (fun q=>[(0,.c (.v (.string s))),(5,.c (.v (.int .i64 y))),(6,.c (.v (.int .i64 q.2.2))),(7,.c (.v (.int .i64 (q.1:Int))))]) (fun _=>[]) (fun _=>[])
        (fun q=>1<=q.1/\q.1<=n/\Nam.tailR (t.take (q.1 - 1)) r0=some q.2.1/\q.2.1<256*64^(q.1 - 1)/\(q.2.1:Int)=q.2.2) (fun q=>n - q.1) (1,r0,z0) ⟨Nat.le_refl _,by omega,rfl,by simpa using hr256,hz0⟩ (Ent.same ⟨rfl,rfl,rfl,rfl,trivial⟩ rfl) g ?_
      rintro ⟨k,r,z⟩ ⟨hk1,hk2,htl,hrb,hz⟩
      simp only at hk1 hk2 htl hrb hz
      simp only
      refine BIf.dec (fun hks=>?_) (fun hks=>?_)
      · have hks1:(k:Int)<y:=hks
        have hkt:k - 1<t.length:=by simp only [List.length_cons] at hfl;omega
        obtain ⟨x,hx,hxm⟩:=at_lt hkt
        have hcs:s.data.toList[k]?=some x:=by
          rw [hs0]
          obtain ⟨k',rfl⟩: ∃k',k=k'+1:=⟨k - 1,by omega⟩
          simpa using hx
        have hsn:t.take k=t.take (k - 1)++[x]:=by
          have:=List.take_add_one (l:=t) (i:=k - 1)
          rw [hx,Nat.sub_add_cancel hk1] at this
          exact this
        have hrb2:r<33554432:=by
          have:64^(k - 1)<=64^2:=Nat.pow_le_pow_right (by decide) (by omega)
          omega
        obtain ⟨m,hm⟩: ∃m,x.toNat=m:=⟨_,rfl⟩
        have hm256:m<256:=by rw [<-hm];exact x.toNat_lt
        refine ⟨k,x,rfl,hcs,?_⟩
        obtain ⟨bt,hbt⟩: ∃bt,decide (128<=(m:Int)/\(m:Int)<=191)=bt:=⟨_,rfl⟩
        refine z_ah (v:= .bool bt) (fun β w' hs=>by rw [<-hbt,<-hm];exact z_x3 w' (x.toNat:Int)) ?_
        cases bt with
        | true=>
          have hct:=of_decide_eq_true hbt
          have hcc:x.toNat/64=2:=by rw [hm];omega
          refine ⟨((r*64:Nat):Int),by rw [<-hz,wrap_i64 (by omega) (by omega)];omega,?_⟩
          refine ⟨k,x,rfl,hcs,?_⟩
          refine ⟨((m%64:Nat):Int),by rw [hm,wrap_u8];omega,?_⟩
          refine ⟨((m%64:Nat):Int),wrap_i64 (by omega) (by omega),?_⟩
          refine ⟨((r*64+m%64:Nat):Int),by rw [wrap_i64 (by omega) (by omega)];omega,?_⟩
          refine ⟨((k+1:Nat):Int),by rw [wrap_i64 (by omega) (by omega)];rfl,?_⟩
          refine ⟨(k+1,r*64+m%64,((r*64+m%64:Nat):Int)),⟨by show 1<=k+1;omega,by show k+1<=n;omega,?_,?_,rfl⟩,by show n - (k+1)<n - k;omega,Ent.same ⟨rfl,rfl,rfl,rfl,trivial⟩ rfl⟩
          · show Nam.tailR (t.take (k+1 - 1)) r0=some (r*64+m%64)
            rw [Nat.add_sub_cancel,hsn,z_m1,htl]
            simp only
            rw [if_pos hcc,hm]
          · show r*64+m%64<256*64^(k+1 - 1)
            obtain ⟨k',rfl⟩: ∃k',k=k'+1:=⟨k - 1,by omega⟩
            simp only [Nat.add_sub_cancel] at hrb ⊢
            rw [Nat.pow_succ]
            omega
        | false=>
          have hct:=of_decide_eq_false hbt
          have hcc: ¬x.toNat/64=2:=fun q=>hct (by rw [hm] at q;omega)
          have hnone:Nam.tailR (t.take (n - 1)) r0=none:=by
            refine Nam.tailR_none ⟨x,?_,hcc⟩
            have h2:x∈t.take k:=by rw [hsn];simp
            exact List.take_subset_take_left t (by omega) h2
          rw [hnone] at hdec
          exact fun β w' hs=>fin (-1) 1 (by rw [hdec];rfl) (by rw [hdec];rfl) β w' hs
      · have hks1: ¬(k:Int)<y:=hks
        obtain rfl:k=n:=by omega
        rw [htl] at hdec
        simp only at hdec
        by_cases hb:badR k r
        · rw [if_pos hb] at hdec
          unfold badR at hb
          repeat' refine BIf.dec (fun h=>?_) (fun h=>?_)
          all_goals first
            | exact fun β w' hs=>fin (-1) 1 (by rw [hdec];rfl) (by rw [hdec];rfl) β w' hs
            | (exfalso;omega)
        · rw [if_neg hb] at hdec
          unfold badR at hb
          repeat' refine BIf.dec (fun h=>?_) (fun h=>?_)
          all_goals first
            | exact fun β w' hs=>fin z y (by rw [hdec];exact hz) (by rw [hdec];exact hy) β w' hs
            | (exfalso;omega)
  · generalize hz:(c:Int)=z
    repeat' refine BIf.dec (fun h=>?_) (fun h=>?_)
    all_goals first
      | (exfalso;omega)
      | exact fun β w' hs=>fin z 1 (by rw [z_tm (by omega),<-hz,<-hc];rfl) (by rw [z_tm (by omega)];rfl) β w' hs
      | exact fun β w' hs=>fin (-1) 1 (by rw [z_tz (by omega) (by unfold lead;rw [hc,if_neg (by omega),if_neg (by omega),if_neg (by omega)])];rfl) (by rw [z_tz (by omega) (by unfold lead;rw [hc,if_neg (by omega),if_neg (by omega),if_neg (by omega)])];rfl) β w' hs
      | (refine ⟨((c - 192:Nat):Int),by rw [wrap_i64 (by omega) (by omega)];omega,?_⟩
         exact EntX.of (2,c - 192,2,((c - 192:Nat):Int)) ⟨by show lead b0=some (2,c - 192);unfold lead;rw [hc,if_pos (by omega)],rfl,rfl⟩ (Ent.mk' ⟨rfl,rfl,rfl,trivial⟩ rfl (fun β w' hs=>hs)))
      | (refine ⟨((c - 224:Nat):Int),by rw [wrap_i64 (by omega) (by omega)];omega,?_⟩
         exact EntX.of (3,c - 224,3,((c - 224:Nat):Int)) ⟨by show lead b0=some (3,c - 224);unfold lead;rw [hc,if_neg (by omega),if_pos (by omega)],rfl,rfl⟩ (Ent.mk' ⟨rfl,rfl,rfl,trivial⟩ rfl (fun β w' hs=>hs)))
      | (refine ⟨((c - 240:Nat):Int),by rw [wrap_i64 (by omega) (by omega)];omega,?_⟩
         exact EntX.of (4,c - 240,4,((c - 240:Nat):Int)) ⟨by show lead b0=some (4,c - 240);unfold lead;rw [hc,if_neg (by omega),if_neg (by omega),if_pos (by omega)],rfl,rfl⟩ (Ent.mk' ⟨rfl,rfl,rfl,trivial⟩ rfl (fun β w' hs=>hs)))
def signV (x:Rn):List Value:=[.int .i64 (x.1:Int),.int .i64 x.2]
def signsV (l:List Rn):List Value:=l.flatMap signV
abbrev sgnF (A:Option Addr) (l:List Rn) (c:Nat):Fact:=rowF z_kE 2 (.slice A l.length c) l.length (signsV l)
theorem z_r5 (l:List Rn) (x:Rn):signsV (l++[x])=signsV l++signV x:=by simp [signsV]
theorem z_u6 (x:Rn): ∀u∈signV x,u.oneCell'=true:=by
 intro u hu
 simp only [signV,List.mem_cons,List.not_mem_nil,or_false] at hu
 rcases hu with rfl | rfl<;>rfl
theorem z_wC (w:World) (s:ByteArray) (hl:s.size<=1000000):
  Con Tryz.prog z_fh #[.string s] w [] fun v Fs=> ∃A c,v= .slice A (runesAt s.data.toList 0).length c/\(runesAt s.data.toList 0).length<=c/\(0<(runesAt s.data.toList 0).length-> ∃ad,A=some ad)/\Fs=[sgnF A (runesAt s.data.toList 0) c]:=by
 have g:=z_h3 w (Un [])
 have hlen:s.data.toList.length=s.size:=rfl
 have hml:=maxLen_eq
 refine z_ac (cx:=z_eT w (Un [])) g z_k0 rfl rfl (β:=Va.z) [.c (.v (.string s))] 0 [] [sgnF none [] 0] rfl rfl ((Sat.start rfl).nilRow _ _) ?_
 refine z_ag (ι:=List Rn×Nat×Option Addr×Nat) 0 (fun i=>[(0,.c (.v (.string s))),(3,.c (.v (.slice i.2.2.1 i.1.length i.2.2.2))),(4,.c (.v (.int .i64 (i.2.1:Int))))]) (fun _=>[]) (fun i=>[sgnF i.2.2.1 i.1 i.2.2.2])
  (fun i=>runesAt s.data.toList 0=i.1++runesAt s.data.toList i.2.1/\i.2.1<=s.size/\i.1.length<=i.2.1/\i.1.length<=i.2.2.2) (fun i=>s.size - i.2.1) ([],0,none,0) ⟨rfl,Nat.zero_le _,Nat.zero_le _,Nat.zero_le _⟩ (Ent.same ⟨rfl,rfl,rfl,trivial⟩ rfl) g ?_
 rintro ⟨pre,i,A1,c1⟩ ⟨hsc,hi,hgi,hgc⟩
 simp only at hsc hi hgi hgc
 simp only
 refine BIf.dec (fun hlt=>?_) (fun hge=>?_)
 ·have hlt0:(i:Int)<s.size:=hlt
  have hil:i<s.data.toList.length:=by omega
  refine ⟨s.size,i,rfl,rfl,Nat.le_refl _,hi,?_⟩
  have hd:=Nam.decL_size (z_jP hil)
  rw [List.length_drop] at hd
  rw [z_gL hil] at hsc
  obtain ⟨b0,t,hbt⟩: ∃b0 t,s.data.toList.drop i=b0::t:=by
   cases h:s.data.toList.drop i with
   | nil=>exact absurd h (z_jP hil)
   | cons b t=>exact ⟨b,t,rfl⟩
  obtain ⟨o,n,hon⟩: ∃o n,Nam.decL (s.data.toList.drop i)=(o,n):=⟨_,_,rfl⟩
  rw [hon] at hd hsc
  simp only at hd hsc
  obtain ⟨z,hz⟩: ∃z,runeI o=z:=⟨_,rfl⟩
  rw [hz] at hsc
  refine z_ah (v:= .tuple #[.int .i64 z,.int .i64 (n:Int)]) (fun β w' hs=>by
   have h:=z_wo w' (s.extract i s.size) b0 t (by rw [z_ny,hbt]) (by rw [ByteArray.size_extract];omega)
   rw [<-hbt,hon,hz] at h
   exact h) ?_
  intro b1
  refine ⟨1,pre.length,pre.length+1,signsV pre,signV (i,z),signsV (pre++[(i,z)]),rfl,fun β w hs=>z_aj (hs.get 0 rfl),z_u6 _,rfl,(z_r5 _ _).symm,by rw [maxLen_eq];omega,by show (pre.length+1)*16<=_;omega,?_⟩
  intro A' c' q1 q2 _
  refine ⟨((i+n:Nat):Int),by rw [wrap_i64 (by omega) (by omega)];rfl,?_⟩
  have hle:(pre++[(i,z)]:List Rn).length=pre.length+1:=by simp
  refine ⟨(pre++[(i,z)],i+n,A',c'),⟨by show runesAt s.data.toList 0=pre++[(i,z)]++runesAt s.data.toList (i+n);rw [hsc];simp,by show i+n<=s.size;omega,by show (pre++[(i,z)]:List Rn).length<=i+n;omega,by show (pre++[(i,z)]:List Rn).length<=c';omega⟩,by show s.size - (i+n)<s.size - i;omega,?_⟩
  simp only [sgnF,hle]
  exact Ent.mk' ⟨rfl,rfl,rfl,trivial⟩ rfl (fun β w' hs=>hs.weaken (List.Sublist.refl _) (List.sublist_cons_self _ _))
 ·have hge0: ¬(i:Int)<s.size:=hge
  rw [z_ep (l:=s.data.toList) (i:=i) (by omega),List.append_nil] at hsc
  intro β w' hs
  rw [hsc]
  refine hs.fin [0] ⟨A1,c1,rfl,hgc,fun h=>?_,rfl⟩
  obtain ⟨ad,h1,_⟩:=(z_aj (hs.get 0 rfl)).2 (by omega)
  exact ⟨ad,h1⟩
theorem quoN {r:Nat} (k:Nat) (h:r<9223372036854775808):IntKind.i64.wrap ((r:Int).tdiv (k:Int))=((r/k:Nat):Int):=by
 rw [<-Int.ofNat_tdiv]
 have:=Nat.div_le_self r k
 generalize r/k=q at this ⊢
 exact wrap_i64 (by omega) (by omega)
theorem quoZ {r:Nat} {z:Int} (hz:(r:Int)=z) (k:Nat) (h:r<9223372036854775808):IntKind.i64.wrap (z.tdiv (k:Int))=((r/k:Nat):Int):=by rw [<-hz];exact quoN k h
theorem remZ {r:Nat} {z:Int} (hz:(r:Int)=z) (k:Nat):z.tmod (k:Int)=((r%k:Nat):Int):=by rw [<-hz];exact (Int.ofNat_tmod r k).symm
theorem u8Z {r:Nat} {z:Int} (hz:(r:Int)=z):IntKind.u8.wrap z=((UInt8.ofNat r).toNat:Int):=by rw [<-hz];exact z_br r
theorem remN (r k:Nat):(r:Int).tmod (k:Int)=((r%k:Nat):Int):=(Int.ofNat_tmod r k).symm
theorem addN {k x:Nat} (h:k+x<9223372036854775808):IntKind.i64.wrap ((k:Int)+(x:Int))=((k+x:Nat):Int):=by
 rw [wrap_i64 (by omega) (by omega)];rfl
theorem z_wl (w:World) (r:Nat) (z:Int) (hz:(r:Int)=z) (hsg:Nam.sign r=true):
    Con Tryz.prog z_fw #[.int .i64 z] w [] fun v Fs=> ∃A c,v= .slice A (rbytesL r).length c/\(rbytesL r).length<=c/\c<=maxLen/\Fs=[browF z_ab A (rbytesL r) c]:=by
  have hs2:=sign_iff.1 hsg
  have hml:=maxLen_eq
  obtain ⟨l,hl⟩: ∃l,rbytesL r=l:=⟨_,rfl⟩
  rw [hl]
  refine z_ac (cx:=z_eX w (Un [])) (z_ig w (Un [])) z_kD rfl rfl (β:=Va.z) [.c (.v (.int .i64 z))] 0 [] [] rfl rfl (Sat.start rfl) ?_
  repeat' refine BIf.dec (fun h=>?_) (fun h=>?_)
  all_goals first
    | (exfalso;omega)
    | (have e:l=[UInt8.ofNat r]:=by rw [<-hl];unfold rbytesL;rw [if_pos (by omega)]
       subst e
       refine ⟨_,u8Z hz,?_⟩
       intro b β w' hs
       exact hs.fin [0] ⟨_,1,rfl,Nat.le_refl 1,by rw [maxLen_eq];decide,rfl⟩)
    | (have e:l=[UInt8.ofNat (192+r/64),UInt8.ofNat (128+r%64)]:=by rw [<-hl];unfold rbytesL;rw [if_neg (by omega),if_pos (by omega)]
       subst e
       refine ⟨by decide,_,quoZ hz 64 (by omega),_,addN (k:=192) (by omega),_,z_br _,by decide,_,remZ hz 64,_,addN (k:=128) (by omega),_,z_br _,?_⟩
       intro b β w' hs
       exact hs.fin [0] ⟨_,2,rfl,Nat.le_refl 2,by rw [maxLen_eq];decide,rfl⟩)
    | (have e:l=[UInt8.ofNat (224+r/4096),UInt8.ofNat (128+r/64%64),UInt8.ofNat (128+r%64)]:=by rw [<-hl];unfold rbytesL;rw [if_neg (by omega),if_neg (by omega),if_pos (by omega)]
       subst e
       refine ⟨by decide,_,quoZ hz 4096 (by omega),_,addN (k:=224) (by omega),_,z_br _,by decide,_,quoZ hz 64 (by omega),by decide,_,remN (r/64) 64,_,addN (k:=128) (by omega),_,z_br _,by decide,_,remZ hz 64,_,addN (k:=128) (by omega),_,z_br _,?_⟩
       intro b β w' hs
       exact hs.fin [0] ⟨_,3,rfl,Nat.le_refl 3,by rw [maxLen_eq];decide,rfl⟩)
    | (have e:l=[UInt8.ofNat (240+r/262144),UInt8.ofNat (128+r/4096%64),UInt8.ofNat (128+r/64%64),UInt8.ofNat (128+r%64)]:=by rw [<-hl];unfold rbytesL;rw [if_neg (by omega),if_neg (by omega),if_neg (by omega)]
       subst e
       refine ⟨by decide,_,quoZ hz 262144 (by omega),_,addN (k:=240) (by omega),_,z_br _,by decide,_,quoZ hz 4096 (by omega),by decide,_,remN (r/4096) 64,_,addN (k:=128) (by omega),_,z_br _,by decide,_,quoZ hz 64 (by omega),by decide,_,remN (r/64) 64,_,addN (k:=128) (by omega),_,z_br _,by decide,_,remZ hz 64,_,addN (k:=128) (by omega),_,z_br _,?_⟩
       intro b β w' hs
       exact hs.fin [0] ⟨_,4,rfl,Nat.le_refl 4,by rw [maxLen_eq];decide,rfl⟩)
def valV (url:Bool) (c:UInt8):Int:=match valA url c with | some v=>(v:Int) | none=> -1
structure Alph (s:ByteArray) (url:Bool):Prop where
 len:s.size=64
 l62:s.data.toList[62]?=some (e62 url)
 l63:s.data.toList[63]?=some (e63 url)
theorem z_yl (w:World) (s:ByteArray) (url:Bool) (c:UInt8) (ha:Alph s url):Pu Tryz.prog z_oE #[.string s,.int .u8 c.toNat] w (.int .i64 (valV url c)):=by
 have g:=z_pt w (Un [])
 have hc:=c.toNat_lt
 refine z_ac (cx:=z_nM w (Un [])) g z_sz rfl rfl (β:=Va.z) [.c (.v (.string s)),.c (.v (.int .u8 c.toNat))] 0 [] [] rfl rfl (Sat.start rfl) ?_
 obtain ⟨n,hn⟩: ∃n:Int,(c.toNat:Int)=n:=⟨_,rfl⟩
 have hv:valV url c=if 65<=n/\n<=90 then n - 65 else if 97<=n/\n<=122 then n - 97+26 else if 48<=n/\n<=57 then n - 48+52 else if c=e62 url then 62 else if c=e63 url then 63 else -1:=by
  unfold valV valA
  have e1:(65<=n/\n<=90)=(65<=c.toNat/\c.toNat<=90):=propext (by omega)
  have e2:(97<=n/\n<=122)=(97<=c.toNat/\c.toNat<=122):=propext (by omega)
  have e3:(48<=n/\n<=57)=(48<=c.toNat/\c.toNat<=57):=propext (by omega)
  simp only [e1,e2,e3]
  by_cases h1:65<=c.toNat/\c.toNat<=90
  ·simp only [if_pos h1];omega
  ·simp only [if_neg h1]
   by_cases h2:97<=c.toNat/\c.toNat<=122
   ·simp only [if_pos h2];omega
   ·simp only [if_neg h2]
    by_cases h3:48<=c.toNat/\c.toNat<=57
    ·simp only [if_pos h3];omega
    ·simp only [if_neg h3]
     by_cases h4:c=e62 url
     ·simp only [if_pos h4];rfl
     ·simp only [if_neg h4]
      by_cases h5:c=e63 url
      ·simp only [if_pos h5];rfl
      ·simp only [if_neg h5]
 rw [hn]
 generalize valV url c=v at hv ⊢
 have wr: ∀x:Int,0<=x->x<256->IntKind.u8.wrap x=x:=fun x h1 h2=>by rw [wrap_u8];omega
 by_cases h1:65<=n/\n<=90
 ·rw [if_pos h1] at hv
  refine BIf.dec (fun _=>?_) (fun h=>absurd (show 65<=n by omega) h)
  refine BIf.dec (fun _=>?_) (fun h=>absurd (show n<=90 by omega) h)
  refine ⟨n - 65,by rw [IntKind.wrap_u8];omega,?_⟩
  refine ⟨_,wrap_i64 (by omega) (by omega),?_⟩
  intro β w' hs
  exact hs.fin [] ⟨by rw [hv];rfl,rfl⟩
 rw [if_neg h1] at hv
 by_cases h2:97<=n/\n<=122
 ·rw [if_pos h2] at hv
  refine BIf.dec (fun _=>?_) (fun h=>absurd (show 65<=n by omega) h)
  refine BIf.dec (fun h=>absurd h (show¬(n<=90) by omega)) (fun _=>?_)
  refine BIf.dec (fun _=>?_) (fun h=>absurd (show 97<=n by omega) h)
  refine BIf.dec (fun _=>?_) (fun h=>absurd (show n<=122 by omega) h)
  refine ⟨n - 97,by rw [IntKind.wrap_u8];omega,?_⟩
  refine ⟨_,wrap_i64 (by omega) (by omega),?_⟩
  refine ⟨_,wrap_i64 (by omega) (by omega),?_⟩
  intro β w' hs
  exact hs.fin [] ⟨by rw [hv];rfl,rfl⟩
 rw [if_neg h2] at hv
 by_cases h3:48<=n/\n<=57
 ·rw [if_pos h3] at hv
  refine BIf.dec (fun h=>absurd h (show¬(65<=n) by omega)) (fun _=>?_)
  refine BIf.dec (fun h=>absurd h (show¬(97<=n) by omega)) (fun _=>?_)
  refine BIf.dec (fun _=>?_) (fun h=>absurd (show 48<=n by omega) h)
  refine BIf.dec (fun _=>?_) (fun h=>absurd (show n<=57 by omega) h)
  refine ⟨n - 48,by rw [IntKind.wrap_u8];omega,?_⟩
  refine ⟨_,wrap_i64 (by omega) (by omega),?_⟩
  refine ⟨_,wrap_i64 (by omega) (by omega),?_⟩
  intro β w' hs
  exact hs.fin [] ⟨by rw [hv];rfl,rfl⟩
 rw [if_neg h3] at hv
 by_cases k1:n<48
 ·skip
  refine BIf.dec (fun h=>absurd h (show¬(65<=n) by omega)) (fun _=>?_)
  refine BIf.dec (fun h=>absurd h (show¬(97<=n) by omega)) (fun _=>?_)
  refine BIf.dec (fun h=>absurd h (show¬(48<=n) by omega)) (fun _=>?_)
  refine ⟨62,e62 url,rfl,ha.l62,?_⟩
  refine BIf.dec (fun q=>?_) (fun q=>?_)
  ·have q0:n=((e62 url).toNat:Int):=q
   have qc:c=e62 url:=UInt8.toNat_inj.1 (by omega)
   intro β w' hs
   exact hs.fin [] ⟨by rw [hv,if_pos qc];rfl,rfl⟩
  have q0: ¬n=((e62 url).toNat:Int):=q
  have qc: ¬c=e62 url:=fun e=>q0 (by rw [<-hn,e])
  refine ⟨63,e63 url,rfl,ha.l63,?_⟩
  refine BIf.dec (fun r=>?_) (fun r=>?_)
  ·have r0:n=((e63 url).toNat:Int):=r
   have rc:c=e63 url:=UInt8.toNat_inj.1 (by omega)
   intro β w' hs
   exact hs.fin [] ⟨by rw [hv,if_neg qc,if_pos rc];rfl,rfl⟩
  have r0: ¬n=((e63 url).toNat:Int):=r
  have rc: ¬c=e63 url:=fun e=>r0 (by rw [<-hn,e])
  intro β w' hs
  exact hs.fin [] ⟨by rw [hv,if_neg qc,if_neg rc];rfl,rfl⟩
 by_cases k2:n<65
 ·skip
  refine BIf.dec (fun h=>absurd h (show¬(65<=n) by omega)) (fun _=>?_)
  refine BIf.dec (fun h=>absurd h (show¬(97<=n) by omega)) (fun _=>?_)
  refine BIf.dec (fun _=>?_) (fun h=>absurd (show 48<=n by omega) h)
  refine BIf.dec (fun h=>absurd h (show¬(n<=57) by omega)) (fun _=>?_)
  refine ⟨62,e62 url,rfl,ha.l62,?_⟩
  refine BIf.dec (fun q=>?_) (fun q=>?_)
  ·have q0:n=((e62 url).toNat:Int):=q
   have qc:c=e62 url:=UInt8.toNat_inj.1 (by omega)
   intro β w' hs
   exact hs.fin [] ⟨by rw [hv,if_pos qc];rfl,rfl⟩
  have q0: ¬n=((e62 url).toNat:Int):=q
  have qc: ¬c=e62 url:=fun e=>q0 (by rw [<-hn,e])
  refine ⟨63,e63 url,rfl,ha.l63,?_⟩
  refine BIf.dec (fun r=>?_) (fun r=>?_)
  ·have r0:n=((e63 url).toNat:Int):=r
   have rc:c=e63 url:=UInt8.toNat_inj.1 (by omega)
   intro β w' hs
   exact hs.fin [] ⟨by rw [hv,if_neg qc,if_pos rc];rfl,rfl⟩
  have r0: ¬n=((e63 url).toNat:Int):=r
  have rc: ¬c=e63 url:=fun e=>r0 (by rw [<-hn,e])
  intro β w' hs
  exact hs.fin [] ⟨by rw [hv,if_neg qc,if_neg rc];rfl,rfl⟩
 by_cases k3:n<97
 ·skip
  refine BIf.dec (fun _=>?_) (fun h=>absurd (show 65<=n by omega) h)
  refine BIf.dec (fun h=>absurd h (show¬(n<=90) by omega)) (fun _=>?_)
  refine BIf.dec (fun h=>absurd h (show¬(97<=n) by omega)) (fun _=>?_)
  refine BIf.dec (fun _=>?_) (fun h=>absurd (show 48<=n by omega) h)
  refine BIf.dec (fun h=>absurd h (show¬(n<=57) by omega)) (fun _=>?_)
  refine ⟨62,e62 url,rfl,ha.l62,?_⟩
  refine BIf.dec (fun q=>?_) (fun q=>?_)
  ·have q0:n=((e62 url).toNat:Int):=q
   have qc:c=e62 url:=UInt8.toNat_inj.1 (by omega)
   intro β w' hs
   exact hs.fin [] ⟨by rw [hv,if_pos qc];rfl,rfl⟩
  have q0: ¬n=((e62 url).toNat:Int):=q
  have qc: ¬c=e62 url:=fun e=>q0 (by rw [<-hn,e])
  refine ⟨63,e63 url,rfl,ha.l63,?_⟩
  refine BIf.dec (fun r=>?_) (fun r=>?_)
  ·have r0:n=((e63 url).toNat:Int):=r
   have rc:c=e63 url:=UInt8.toNat_inj.1 (by omega)
   intro β w' hs
   exact hs.fin [] ⟨by rw [hv,if_neg qc,if_pos rc];rfl,rfl⟩
  have r0: ¬n=((e63 url).toNat:Int):=r
  have rc: ¬c=e63 url:=fun e=>r0 (by rw [<-hn,e])
  intro β w' hs
  exact hs.fin [] ⟨by rw [hv,if_neg qc,if_neg rc];rfl,rfl⟩
 ·skip
  refine BIf.dec (fun _=>?_) (fun h=>absurd (show 65<=n by omega) h)
  refine BIf.dec (fun h=>absurd h (show¬(n<=90) by omega)) (fun _=>?_)
  refine BIf.dec (fun _=>?_) (fun h=>absurd (show 97<=n by omega) h)
  refine BIf.dec (fun h=>absurd h (show¬(n<=122) by omega)) (fun _=>?_)
  refine BIf.dec (fun _=>?_) (fun h=>absurd (show 48<=n by omega) h)
  refine BIf.dec (fun h=>absurd h (show¬(n<=57) by omega)) (fun _=>?_)
  refine ⟨62,e62 url,rfl,ha.l62,?_⟩
  refine BIf.dec (fun q=>?_) (fun q=>?_)
  ·have q0:n=((e62 url).toNat:Int):=q
   have qc:c=e62 url:=UInt8.toNat_inj.1 (by omega)
   intro β w' hs
   exact hs.fin [] ⟨by rw [hv,if_pos qc];rfl,rfl⟩
  have q0: ¬n=((e62 url).toNat:Int):=q
  have qc: ¬c=e62 url:=fun e=>q0 (by rw [<-hn,e])
  refine ⟨63,e63 url,rfl,ha.l63,?_⟩
  refine BIf.dec (fun r=>?_) (fun r=>?_)
  ·have r0:n=((e63 url).toNat:Int):=r
   have rc:c=e63 url:=UInt8.toNat_inj.1 (by omega)
   intro β w' hs
   exact hs.fin [] ⟨by rw [hv,if_neg qc,if_pos rc];rfl,rfl⟩
  have r0: ¬n=((e63 url).toNat:Int):=r
  have rc: ¬c=e63 url:=fun e=>r0 (by rw [<-hn,e])
  intro β w' hs
  exact hs.fin [] ⟨by rw [hv,if_neg qc,if_neg rc];rfl,rfl⟩
def piecesA (k:Nat):List UInt8->List (List UInt8)
 | []=>[]
 | c::r=>(c::r).take (k+1)::piecesA k ((c::r).drop (k+1))
termination_by l=>l.length
decreasing_by simp only [List.length_drop,List.length_cons];omega
theorem z_fG (k:Nat):piecesA k []=[]:=by rw [piecesA]
theorem z_kh (k:Nat) {l:List UInt8} (h:l≠[]):piecesA k l=l.take (k+1)::piecesA k (l.drop (k+1)):=by
 cases l with
 | nil=>exact absurd rfl h
 | cons c r=>rw [piecesA]
theorem z_pQ (k:Nat): ∀(m:Nat) (l:List UInt8),l.length<=m->(piecesA k l).length<=l.length
 | 0,l,h=>by
  obtain rfl:l=[]:=List.length_eq_zero_iff.1 (by omega)
  rw [z_fG];exact Nat.zero_le _
 | m+1,l,h=>by
  by_cases hl:l=[]
  ·rw [hl,z_fG];exact Nat.zero_le _
  ·have h0:0<l.length:=List.length_pos_iff.2 hl
   rw [z_kh k hl,List.length_cons]
   have:=z_pQ k m (l.drop (k+1)) (by rw [List.length_drop];omega)
   rw [List.length_drop] at this
   omega
theorem z_qw (l:List UInt8) (n:Nat):(mkS l).extract 0 n=mkS (l.take n):=by
 apply ByteArray.ext
 simp [mkS]
theorem z_ta (l:List UInt8) (n:Nat):(mkS l).extract n (mkS l).size=mkS (l.drop n):=by
 apply ByteArray.ext
 simp [mkS,ByteArray.size]
 rw [List.take_of_length_le (by rw [List.length_drop];omega)]
theorem z_gN (l:List UInt8):(mkS l).size=l.length:=by simp [mkS,ByteArray.size]
theorem z_xH (s:ByteArray):mkS s.data.toList=s:=by simp [mkS]
def insS (L:List ByteArray) (pre:List ByteArray) (x:ByteArray) (args:Array Value) (X:Fact):Prop:=args= #[.string x]/\X=noF/\L[pre.length]?=some x
def grpEnd (L:List ByteArray) (J Jx:List ByteArray->Fact->Prop) (Fs:List Fact):Prop:=
 ∃f Fs',Fs=f::Fs'/\((∃xs,J xs f/\xs=L/\Fs'=[])\/(∃pre,Jx pre f/\Fs'=[]))
theorem z_zI (l:Nat) (w:World) (bs bk k:Nat) (s0:List UInt8) (f0 R:Fact) (J Jx:List ByteArray->Fact->Prop) (kk:Int) (hkk:((k+1:Nat):Int)=kk) (hk:k<=1000) (hL:s0.length<=1000000) (hJ0:J [] f0) (hJo: ∀pre f,J pre f->f.own=true) (hRo:R.own=false) (hY:Yc Tryz.prog l J Jx R (insS ((piecesA k s0).map mkS)))
  (hm:Mem w (f0::R::[bkF bs z_ak [.string (mkS s0)],bkF bk z_bE [.int .i64 kk]])):
  Con Tryz.prog z_hj #[.func (.yield l) #[] #[],.pointer (some ⟨bs,0,none⟩),.pointer (some ⟨bk,0,none⟩)] w [f0,bkF bs z_ak [.string (mkS s0)],bkF bk z_bE [.int .i64 kk]] (fun _ Fs=>grpEnd ((piecesA k s0).map mkS) J Jx Fs):=by
 have g:=z_nh w (Un [f0,bkF bs z_ak [.string (mkS s0)],bkF bk z_bE [.int .i64 kk]]) [bs,bk]
 have hs0:Sat (z_fP w (Un [f0,bkF bs z_ak [.string (mkS s0)],bkF bk z_bE [.int .i64 kk]]) [bs,bk]) (Va.of fun i=>[bs,bk].getD i 0) 2 [] (f0::R::[bkF bs z_ak [.string (mkS s0)],bkF bk z_bE [.int .i64 kk]]) w:=by
  refine hm.sat rfl (fun f hf ho k hk=>?_) ⟨Nat.le_refl 2,fun i _=>rfl⟩
  simp only [List.mem_cons,List.not_mem_nil,or_false] at hf
  rcases hf with rfl | rfl | rfl | rfl
  ·exact ⟨_,by simp,hk⟩
  ·rw [hRo] at ho;cases ho
  ·exact ⟨bkF bs z_ak [.string (mkS s0)],by simp,hk⟩
  ·exact ⟨_,by simp,hk⟩
 have hs1:=(hs0.toBk 3 rfl 1 (by decide) rfl).toBk 2 rfl 0 (by decide) rfl
 refine z_ac (cx:=z_fP w (Un [f0,bkF bs z_ak [.string (mkS s0)],bkF bk z_bE [.int .i64 kk]]) [bs,bk]) g z_pr rfl rfl (β:=Va.of fun i=>[bs,bk].getD i 0) [.c (.v (.func (.yield l) #[] #[])),.c (.p 0 0),.c (.p 1 0)] 2 _ _ rfl rfl hs1 ?_
 obtain ⟨L,hLd⟩: ∃L,(piecesA k s0).map mkS=L:=⟨_,rfl⟩
 rw [hLd] at hY ⊢
 refine z_ag (ι:=List UInt8×List ByteArray×Fact) 2 (fun i=>[(0,.c (.v (.func (.yield l) #[] #[]))),(1,.c (.p 0 0)),(2,.c (.p 1 0))]) (fun i=>[⟨0,z_ak,[.v (.string (mkS i.1))]⟩,⟨1,z_bE,[.v (.int .i64 kk)]⟩]) (fun i=>[i.2.2,R])
  (fun i=>J i.2.1 i.2.2/\L=i.2.1++(piecesA k i.1).map mkS/\i.1.length<=1000000) (fun i=>i.1.length) (s0,[],f0) ⟨hJ0,hLd.symm,hL⟩ (Ent.mk' ⟨rfl,rfl,rfl,trivial⟩ rfl (fun β w' hs=>hs)) g ?_
 rintro ⟨r,pre,f⟩ ⟨hJ,hpre,hrl⟩
 simp only at hJ hpre hrl
 have hfo:=hJo _ _ hJ
 simp only
 have hsz:=z_gN r
 obtain ⟨z,hz⟩: ∃z:Int,((mkS r).size:Int)=z:=⟨_,rfl⟩
 by_cases hr:r=[]
 ·subst hr
  rw [z_fG,List.map_nil,List.append_nil] at hpre
  intro β w' hs
  exact (hs.keepB (List.nil_sublist _)).fin [0] ⟨f,_,rfl,.inl ⟨pre,hJ,hpre.symm,rfl⟩⟩ rfl rfl rfl ⟨hfo,trivial⟩
 have hr0:0<r.length:=List.length_pos_iff.2 hr
 refine BIf.dec (fun _=>?_) (fun h=>absurd (show (0:Int)<((mkS r).size:Int) by omega) h)
 refine BIf.dec (fun _=>?_) (fun h=>absurd (show (0:Int)<kk by omega) h)
 obtain ⟨m,hm⟩: ∃m:Nat,m=min r.length (k+1):=⟨_,rfl⟩
 have hmt:r.take m=r.take (k+1):=by
  rcases Nat.le_total r.length (k+1) with h | h
  ·rw [hm,Nat.min_eq_left h,List.take_length,List.take_of_length_le h]
  ·rw [hm,Nat.min_eq_right h]
 have hmd:r.drop m=r.drop (k+1):=by
  rcases Nat.le_total r.length (k+1) with h | h
  ·rw [hm,Nat.min_eq_left h,List.drop_length,List.drop_of_length_le h]
  ·rw [hm,Nat.min_eq_right h]
 refine ⟨(m:Int),by show min _ _=_;omega,?_⟩
 refine ⟨m,0,rfl,rfl,by omega,Nat.zero_le _,?_⟩
 have hx:(mkS r).extract 0 m=mkS (r.take (k+1)):=by rw [z_qw,hmt]
 have hd:(mkS r).extract m (mkS r).size=mkS (r.drop (k+1)):=by rw [z_ta,hmd]
 have hLx:L[pre.length]?=some (mkS (r.take (k+1))):=by
  rw [hpre,z_kh k hr,List.map_cons,List.getElem?_append_right (Nat.le_refl _),Nat.sub_self]
  rfl
 refine z_dF (X:=noF) (x:=mkS (r.take (k+1))) hY 0 1 rfl hJ hfo rfl hRo (by decide) (fun β=>⟨by rw [<-hx];rfl,rfl,hLx⟩) rfl (fun β w _=>⟨trivial,fun k hk=>hk.elim,fun k _ h=>h.elim⟩) ?_ ?_
 ·intro f2 hfo2 hJ2
  refine ⟨(mkS r).size,m,rfl,rfl,Nat.le_refl _,by omega,?_⟩
  refine ⟨(r.drop (k+1),pre++[mkS (r.take (k+1))],f2),⟨hJ2,?_,by show (r.drop (k+1)).length<=_;rw [List.length_drop];omega⟩,by show (r.drop (k+1)).length<r.length;rw [List.length_drop];omega,?_⟩
  ·show L=(pre++[mkS (r.take (k+1))])++(piecesA k (r.drop (k+1))).map mkS
   rw [hpre,z_kh k hr,List.map_cons,List.append_assoc]
   rfl
  ·simp only [<-hd]
   exact Ent.same ⟨rfl,rfl,rfl,trivial⟩ rfl
 ·intro f2 hfo2 hJ2 β w' hs
  exact (hs.keepB (List.nil_sublist _)).fin [0] ⟨f2,_,rfl,.inr ⟨_,hJ2,rfl⟩⟩ rfl rfl rfl ⟨hfo2,trivial⟩
theorem z_wk (w:World) (s:ByteArray) (kk:Int):Con Tryz.prog z_nO #[.string s,.int .i64 kk] w [] (fun v Fs=> ∃bs bk,v= .func (.func z_hj) #[] #[.pointer (some ⟨bs,0,none⟩),.pointer (some ⟨bk,0,none⟩)]/\Fs=[bkF bs z_ak [.string s],bkF bk z_bE [.int .i64 kk]]):=by
 refine z_ac (cx:=z_md w (Un [])) (z_oU w (Un [])) z_rJ rfl rfl (β:=Va.z) [.c (.v (.string s)),.c (.v (.int .i64 kk))] 0 [] [] rfl rfl (Sat.start rfl) ?_
 intro β w' hs
 exact hs.ofBk.ofBk.fin [0,1] ⟨β 0,β 1,rfl,rfl⟩
end Go.Proofs.YtfomhhkoamapmaaGreatDoor.Sx
