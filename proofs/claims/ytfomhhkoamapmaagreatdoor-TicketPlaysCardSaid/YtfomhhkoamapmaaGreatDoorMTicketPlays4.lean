/- Texts joined: B6D, B6W, Tk4, Tk5, Rk1, B6E, SxAs, StepG, Bk2, Box1, Box2, Join, Bk3, SumJ, HmL, Rep, Rep2, RoF, Hm1, Bk4, Bk5, Srt, Bk6, Bk7, Bk8, Bk9, Xor, Hm2, Hm3, Hsh, Hsh2, Hsh3, Mac, Pie, Pie2, Str, Trn, Turn, Ak5, Ak6, BxP, Rf5, Rt1, Rt2, Rt3, Rt4, Rt5, Tl2, Tl3, TlG, Flip, Tl1, Tl4, Tl5, LenX, Tl7, Tl8, Tl10, Rk2, B6U, Rk3, Han, Rf6, Kr1, Kr2, Kr3, SxIter, KyJ, CoJ, Kr4, CutN, Rk4, Kr5, Rk5, StrS, Rk6, Rk7, Rk9, Rka, Kr6, Kr7, Kr8, Kr9, Ks1, TrR, Ks2, KsL, Tl11, Ks3, Ks4, Ks5, SxClr, Ks6, Ks7, Ks8, Ks9, Ka1, Rk8, RHx, Rkb, Tk3, Tkb. -/
import Derived.Test.YtfomhhkoamapmaaGreatDoorMTicketPlays3
import Derived.Test.YtfomhhkoamapmaaGreatDoorMTicketPlays2
import Derived.Lib.Join
import Derived.Lib.SlParts
import Derived.Lib.SlFresh
import Derived.Lib.MakeNoZero
import Derived.Laws.Externs
import Derived.Sort.OwnSortedInts
import Derived.Maps.RangeRun
set_option linter.unusedVariables false
set_option linter.unusedSimpArgs false
namespace Go.Proofs.YtfomhhkoamapmaaGreatDoor.Sx
open Go
attribute [local irreducible] Calls
theorem z_mE (url:Bool): ∀(a b:List UInt8),valsA url (a++b)=match valsA url a,valsA url b with | some x,some y=>some (x++y) | _,_=>none
 | [],b=>by simp only [List.nil_append,valsA];cases valsA url b<;>rfl
 | c::r,b=>by
  rw [List.cons_append]
  simp only [valsA,z_mE url r b]
  cases valA url c<;>cases valsA url r<;>cases valsA url b<;>rfl
theorem z_gi {url:Bool}: ∀ {l:List UInt8} {vs:List Nat},valsA url l=some vs->vs.length=l.length/\ ∀v∈vs,v<64
 | [],vs,h=>by
  obtain rfl:=Option.some.inj h
  exact ⟨rfl,fun v hv=>by cases hv⟩
 | c::r,vs,h=>by
  simp only [valsA] at h
  cases hc:valA url c with
  | none=>rw [hc] at h;cases h
  | some v=>
   cases hr:valsA url r with
   | none=>rw [hc,hr] at h;cases h
   | some ws=>
    rw [hc,hr] at h
    obtain rfl:=Option.some.inj h
    obtain ⟨h1,h2⟩:=z_gi hr
    refine ⟨by simp [h1],fun x hx=>?_⟩
    rcases List.mem_cons.1 hx with rfl | hx
    ·exact z_sh hc
    ·exact h2 x hx
theorem z_s8: ∀(vs ws:List Nat),vs.length%4=0-> ∃l,decG vs=some l/\decG (vs++ws)=(decG ws).map (l++ ·)
 | [],ws,_=>⟨[],rfl,by rw [List.nil_append];cases decG ws<;>rfl⟩
 | [_],_,h=>by simp at h
 | [_,_],_,h=>by simp at h
 | [_,_,_],_,h=>by simp at h
 | a::b::c::d::r,ws,h=>by
  obtain ⟨l,h1,h2⟩:=z_s8 r ws (by simp only [List.length_cons] at h;omega)
  refine ⟨_,by simp only [decG,h1];rfl,?_⟩
  simp only [List.cons_append,decG,h2]
  cases decG ws<;>simp
def vfold (vs:List Nat):Nat:=vs.foldl (fun n v=>n*64+v) 0
def bytesN (N n:Nat):List UInt8:=(List.range n).map fun i=>u8n (N/256^(2 - i))
theorem grp2 {a b:Nat} (ha:a<64) (hb:b<64):decG [a,b]=if (vfold [a,b]*4096)%65536=0 then some (bytesN (vfold [a,b]*4096) 1) else none:=by
 have e:vfold [a,b]=a*64+b:=by simp [vfold]
 rw [e]
 have e2:bytesN ((a*64+b)*4096) 1=[u8n (a*4+b/16)]:=by
  show [u8n ((a*64+b)*4096/65536)]=_
  congr 2
  omega
 rw [e2]
 simp only [decG]
 by_cases h:b%16=0
 ·rw [if_pos h,if_pos (by omega)]
 ·rw [if_neg h,if_neg (by omega)]
theorem z_pl {x y:Nat} (h:x%256=y%256):u8n x=u8n y:=by
 unfold u8n
 apply UInt8.toNat_inj.1
 rw [UInt8.toNat_ofNat',UInt8.toNat_ofNat']
 exact h
theorem grp3 {a b c:Nat} (ha:a<64) (hb:b<64) (hc:c<64):decG [a,b,c]=if (vfold [a,b,c]*64)%256=0 then some (bytesN (vfold [a,b,c]*64) 2) else none:=by
 have e:vfold [a,b,c]=(a*64+b)*64+c:=by simp [vfold]
 rw [e]
 have e2:bytesN (((a*64+b)*64+c)*64) 2=[u8n (a*4+b/16),u8n (b%16*16+c/4)]:=by
  show [u8n (((a*64+b)*64+c)*64/65536),u8n (((a*64+b)*64+c)*64/256)]=_
  rw [z_pl (x:=((a*64+b)*64+c)*64/65536) (y:=a*4+b/16) (by omega),z_pl (x:=((a*64+b)*64+c)*64/256) (y:=b%16*16+c/4) (by omega)]
 rw [e2]
 simp only [decG]
 by_cases h:c%4=0
 ·rw [if_pos h,if_pos (by omega)]
 ·rw [if_neg h,if_neg (by omega)]
theorem grp4 {a b c d:Nat} (ha:a<64) (hb:b<64) (hc:c<64) (hd:d<64):decG [a,b,c,d]=some (bytesN (vfold [a,b,c,d]) 3):=by
 have e:vfold [a,b,c,d]=((a*64+b)*64+c)*64+d:=by simp [vfold]
 rw [e]
 have e2:bytesN (((a*64+b)*64+c)*64+d) 3=[u8n (a*4+b/16),u8n (b%16*16+c/4),u8n (c%4*64+d)]:=by
  show [u8n ((((a*64+b)*64+c)*64+d)/65536),u8n ((((a*64+b)*64+c)*64+d)/256),u8n ((((a*64+b)*64+c)*64+d)/1)]=_
  rw [z_pl (x:=(((a*64+b)*64+c)*64+d)/65536) (y:=a*4+b/16) (by omega),z_pl (x:=(((a*64+b)*64+c)*64+d)/256) (y:=b%16*16+c/4) (by omega),z_pl (x:=(((a*64+b)*64+c)*64+d)/1) (y:=c%4*64+d) (by omega)]
 rw [e2]
 simp [decG]
theorem z_rU (k:Nat): ∀(j:Nat) (l:List UInt8) (x:List UInt8),(piecesA k l)[j]?=some x->x=(l.drop ((k+1)*j)).take (k+1)/\(k+1)*j<l.length/\((piecesA k l).take j).flatten=l.take ((k+1)*j)
 | j,l,x,h=>by
  by_cases hl:l=[]
  ·rw [hl,z_fG] at h;simp at h
  ·have h0:0<l.length:=List.length_pos_iff.2 hl
   rw [z_kh k hl] at h ⊢
   cases j with
   | zero=>
    obtain rfl:l.take (k+1)=x:=by simpa using h
    exact ⟨by simp,by simpa using h0,by simp⟩
   | succ j=>
    have h':(piecesA k (l.drop (k+1)))[j]?=some x:=by simpa using h
    obtain ⟨h1,h2,h3⟩:=z_rU k j (l.drop (k+1)) x h'
    rw [List.length_drop] at h2
    refine ⟨?_,by rw [Nat.mul_succ];omega,?_⟩
    ·rw [h1,List.drop_drop,Nat.mul_succ,Nat.add_comm (k+1)]
    ·rw [List.take_succ_cons,List.flatten_cons,h3,Nat.mul_succ,Nat.add_comm ((k+1)*j) (k+1)]
     exact List.take_add.symm
theorem z_pm (k:Nat): ∀(m:Nat) (l:List UInt8),l.length<=m->(piecesA k l).flatten=l
 | 0,l,h=>by
  obtain rfl:l=[]:=List.length_eq_zero_iff.1 (by omega)
  rw [z_fG];rfl
 | m+1,l,h=>by
  by_cases hl:l=[]
  ·rw [hl,z_fG];rfl
  ·have h0:0<l.length:=List.length_pos_iff.2 hl
   rw [z_kh k hl,List.flatten_cons,z_pm k m _ (by rw [List.length_drop];omega),List.take_append_drop]
theorem z_yv {x y:Nat} (hx:x<33554432) (hy:y<64):bits .or .i64 ((x*64:Nat):Int) (y:Int)=((x*64+y:Nat):Int):=by
 show IntKind.i64.wrap (((BitVec.ofInt 64 ((x*64:Nat):Int)) ||| (BitVec.ofInt 64 (y:Int))).toNat:Int)=_
 have h1:(BitVec.ofInt 64 ((x*64:Nat):Int)).toNat=x<<<6:=by
  rw [BitVec.toNat_ofInt,Nat.shiftLeft_eq]
  omega
 have h2:(BitVec.ofInt 64 (y:Int)).toNat=y:=by
  rw [BitVec.toNat_ofInt]
  omega
 rw [BitVec.toNat_or,h1,h2,<-Nat.shiftLeft_add_eq_or_of_lt (by omega) x,Nat.shiftLeft_eq,wrap_i64 (by omega) (by omega)]
theorem z_sm {x k:Nat} (hx:x<33554432) (hk:k<=20):bits .and .i64 (x:Int) ((2^k - 1:Nat):Int)=((x%2^k:Nat):Int):=by
 show IntKind.i64.wrap (((BitVec.ofInt 64 (x:Int))&&&(BitVec.ofInt 64 ((2^k - 1:Nat):Int))).toNat:Int)=_
 have hp:2^k<=2^20:=Nat.pow_le_pow_right (by decide) hk
 have h1:(BitVec.ofInt 64 (x:Int)).toNat=x:=by
  rw [BitVec.toNat_ofInt]
  omega
 have h2:(BitVec.ofInt 64 ((2^k - 1:Nat):Int)).toNat=2^k - 1:=by
  rw [BitVec.toNat_ofInt]
  omega
 have h3:=Nat.mod_lt x (show 0<2^k from Nat.pos_of_ne_zero (by simp))
 rw [BitVec.toNat_and,h1,h2,Nat.and_two_pow_sub_one_eq_mod,wrap_i64 (by omega) (by omega)]
theorem z_mY {url:Bool} {c:UInt8} (hc:valA url c=none): ∀ {l:List UInt8},c∈l->valsA url l=none
 | x::r,h=>by
  simp only [valsA]
  rcases List.mem_cons.1 h with rfl | h
  ·rw [hc]
  ·rw [z_mY hc h]
   cases valA url x<;>rfl
theorem z_pU (ws:List Nat) (v:Nat):vfold (ws++[v])=vfold ws*64+v:=by simp [vfold]
theorem z_qg: ∀(k:Nat) (ws:List Nat),ws.length=k->(∀v∈ws,v<64)->vfold ws<64^k
 | 0,ws,h,_=>by
  obtain rfl:=List.eq_nil_of_length_eq_zero h
  decide
 | k+1,ws,h,hv=>by
  have hne:ws≠[]:=fun e=>by rw [e] at h;cases h
  obtain ⟨us,v,rfl⟩: ∃us v,ws=us++[v]:=⟨ws.dropLast,ws.getLast hne,(List.dropLast_concat_getLast hne).symm⟩
  have h1:=z_qg k us (by rw [List.length_append] at h;simpa using h) (fun x hx=>hv x (List.mem_append_left _ hx))
  have h2:=hv v (by simp)
  rw [z_pU,Nat.pow_succ]
  omega
theorem grpZ {ws:List Nat} (h2:2<=ws.length) (h4:ws.length<=4) (hw: ∀v∈ws,v<64):decG ws=if (vfold ws*2^(6*(4 - ws.length)))%2^(8*(4 - ws.length))=0 then some (bytesN (vfold ws*2^(6*(4 - ws.length))) (ws.length - 1)) else none:=by
 match ws,h2,h4,hw with
 | [a,b],_,_,hw=>exact grp2 (hw a (by simp)) (hw b (by simp))
 | [a,b,c],_,_,hw=>exact grp3 (hw a (by simp)) (hw b (by simp)) (hw c (by simp))
 | [a,b,c,d],_,_,hw=>
  have h:=grp4 (hw a (by simp)) (hw b (by simp)) (hw c (by simp)) (hw d (by simp))
  rw [h]
  show _=if (vfold [a,b,c,d]*1)%1=0 then some (bytesN (vfold [a,b,c,d]*1) 3) else none
  rw [Nat.mul_one,if_pos (Nat.mod_one _)]
 | _::_::_::_::_::_,_,h4,_=>simp at h4
structure DcS where
 out:List UInt8
 A:Option Addr
 c:Nat
 e:Int
structure DcS.Ok (i:DcS) (url:Bool) (L:List ByteArray) (pre:List ByteArray):Prop where
 eq:pre=L.take pre.length
 vs: ∃vs,valsA url (pre.map (·.data.toList)).flatten=some vs/\((i.e=0/\decG vs=some i.out)\/(i.e=4/\decG vs=none))
 len:i.out.length<=3*pre.length
def decOut (url:Bool) (s:List UInt8) (v:Value) (Fs:List Fact):Prop:= ∃A l c e,v= .tuple #[.slice A l.length c,.int .i64 e]/\((e=0/\decS url s=some l)\/(e≠0/\decS url s=none))/\l.length<=c/\Fs=[browF z_ab A l c]
theorem z_ic {e:Nat} {c:Nat} {A:Option Addr} {l:List UInt8} {w:World} (h:(browF e A l c).p w):l.length<=c:=by
 rcases h.2 with ⟨_,h0⟩ | ⟨g,cap,cur,he,_,_,hnc,_⟩
 ·omega
 ·injection he with _ _ h3
  omega
theorem z_lK (N n:Nat):bytesN N (n+1)=bytesN N n++[u8n (N/256^(2 - n))]:=by
 unfold bytesN
 rw [List.range_succ,List.map_append]
 rfl
theorem z_m8 (N n:Nat):(bytesN N n).length=n:=by simp [bytesN]
theorem z_r3 {X k:Nat} (hk:k<=2):((X:Int)).fdiv (2^min (8*(2 - (k:Int))).toNat IntKind.i64.bits)=((X/256^(2 - k):Nat):Int):=by
 rw [show (8*(2 - (k:Int))).toNat=8*(2 - k) by omega,show min (8*(2 - k)) IntKind.i64.bits=8*(2 - k) from Nat.min_eq_left (by show _<=64;omega),show ((2:Int)^(8*(2 - k)))=((256^(2 - k):Nat):Int) by rw [show (256:Nat)=2^8 from rfl,<-Nat.pow_mul];simp]
 rw [Int.fdiv_eq_ediv_of_nonneg _ (Int.natCast_nonneg _)]
 rfl
set_option maxHeartbeats 1000000 in
theorem z_wm (w:World) (al s:ByteArray) (url:Bool) (ha:Alph al url) (hL:s.size<=1000000) (hs1:s.size%4≠1):Con Tryz.prog z_nK #[.string al,.string s] w [] (decOut url s.data.toList):=by
 have g:=z_oN w (Un [])
 have hml:=maxLen_eq
 refine z_ac (cx:=z_l1 w (Un [])) g z_q5 rfl rfl (β:=Va.z) [.c (.v (.string al)),.c (.v (.string s))] 0 [] [] rfl rfl (Sat.start rfl) ?_
 refine z_aa [] (fun β w' hs=>z_wk w' s 4) ?_
 rintro v Fs ⟨bs,bk,rfl,rfl⟩
 obtain ⟨s0,hs0⟩: ∃s0,s.data.toList=s0:=⟨_,rfl⟩
 have hss:s=mkS s0:=by rw [<-hs0,z_xH]
 have hsl:s0.length=s.size:=by rw [hss,z_gN]
 rw [hss] at hs1
 rw [z_gN] at hs1
 rw [hs0]
 obtain ⟨L,hLd⟩: ∃L,(piecesA 3 s0).map mkS=L:=⟨_,rfl⟩
 have hLL:L.length<=1000000:=by
  have h:=z_pQ 3 _ s0 (Nat.le_refl _)
  rw [<-hLd,List.length_map]
  omega
 refine z_ca (α:=ByteArray) (ι:=DcS) (κ:=Unit) g rfl (cv:=[.pointer (some ⟨bs,0,none⟩),.pointer (some ⟨bk,0,none⟩)]) rfl (by kernel_rfl) 3 (Nat.le_refl 3)
  (fun pre i=>i.Ok url L pre) (fun i=>[⟨2,z_aZ,[.v (.int .i64 i.e)]⟩,⟨1,z_al,[.v (.slice i.A i.out.length i.c)]⟩,⟨0,z_ak,[.v (.string al)]⟩]) (fun i=>[browF z_ab i.A i.out i.c]) (fun i=>⟨rfl,trivial⟩)
  (fun e pre _=>e= .exit 0/\decS url s0=none) (fun _=>[⟨2,z_aZ,[.v (.int .i64 5)]⟩]) (fun _=>[]) (fun _=>trivial)
  [bkF bs z_ak [.string s],bkF bk z_bE [.int .i64 4]] [] [] ⟨rfl,rfl,trivial⟩ (fun g h=>by cases h) ⟨[],none,0,0⟩ ⟨rfl,⟨[],rfl,.inl ⟨rfl,rfl⟩⟩,Nat.le_refl _⟩
  (fun β w hs=>⟨β,Agr.refl _ _,(hs.nilRow z_ab 1).perm [1,2,0]⟩) (insS L)
  (fun xs Fs'=>xs=L/\Fs'=[]) (fun _ Fs'=>Fs'=[])
  (fun l w f0 R J Jx hJ0 hJo hRo hY hm=>by
   rw [hss] at hm
   have h:=z_zI l w bs bk 3 s0 f0 R J Jx 4 rfl (by decide) (by omega) hJ0 hJo hRo (by rw [hLd];exact hY) hm
   rw [hLd,<-hss] at h
   exact h) ?_ ?_ ?_
 ·rintro ⟨out,A,c,e⟩ pre x args X W S' lb bs' pn pn' hbs hok ⟨rfl,rfl,hx⟩
  obtain ⟨cs,hcs,rfl⟩: ∃cs,(piecesA 3 s0)[pre.length]?=some cs/\x=mkS cs:=by
   rw [<-hLd,List.getElem?_map] at hx
   obtain ⟨cs,h1,h2⟩:=Option.map_eq_some_iff.1 hx
   exact ⟨cs,h1,h2.symm⟩
  obtain ⟨p1,p2,p3⟩:=z_rU 3 _ _ _ hcs
  have hpf:(pre.map (·.data.toList)).flatten=s0.take (4*pre.length):=by
   conv=>lhs;rw [hok.eq]
   rw [<-hLd,<-List.map_take,List.map_map,show ((fun b:ByteArray=>b.data.toList)∘mkS)=id from funext fun l=>by simp [mkS],List.map_id]
   have h:=p3
   rw [show pre.length=pre.length from rfl] at h
   exact h
  obtain ⟨vs,hv1,hv2⟩:=hok.vs
  rw [hpf] at hv1
  have hvl:=z_gi hv1
  have hv4:vs.length%4=0:=by rw [hvl.1,List.length_take];omega
  have hcl:cs.length=min 4 (s0.length - 4*pre.length):=by rw [p1,List.length_take,List.length_drop]
  have hnext:(pre.map (·.data.toList)++[cs]).flatten=s0.take (4*pre.length)++cs:=by rw [List.flatten_append,hpf];simp
  have hdm:(mkS cs).data.toList=cs:=by simp [mkS]
  have hcz:=z_gN cs
  refine ⟨_,rfl,?_⟩
  have hc4:cs.length<=4:=by omega
  have hc2:2<=cs.length:=by omega
  intro b1
  intro b2
  intro q1
  intro q2
  refine z_ag (ι:=Nat×Nat) 3 (fun j=>[(2,.c (.p 0 0)),(6,.c (.p 1 0)),(7,.c (.p 2 0)),(8,.c (.v (.string (mkS cs)))),(9,.c (.v (.int .i64 (j.2:Int)))),(19,.c (.v (.slice (some ⟨b1,0,none⟩) (mkS cs).size b2))),(20,.c (.v (.int .i64 ((mkS cs).size:Int)))),(21,.c (.v (.int .i64 (j.1:Int))))])
   (fun _=>[⟨2,z_aZ,[.v (.int .i64 e)]⟩,⟨1,z_al,[.v (.slice A out.length c)]⟩,⟨0,z_ak,[.v (.string al)]⟩]) (fun _=>[rdoF 1 (some ⟨b1,0,none⟩) (mkS cs).size ((mkS cs).data.toList.map byte),browF z_ab A out c])
   (fun j=>j.1<=cs.length/\ ∃ws,valsA url (cs.take j.1)=some ws/\j.2=vfold ws) (fun j=>cs.length - j.1) (0,0) ⟨Nat.zero_le _,[],rfl,rfl⟩ (Ent.mk' ⟨rfl,rfl,rfl,rfl,rfl,rfl,rfl,rfl,trivial⟩ rfl (fun β w' hs=>hs.perm [0,2])) (z_dM g) ?_
  rintro ⟨j,N⟩ ⟨hj,ws,hws,hN⟩
  simp only at hj hws hN
  have hwl:=z_gi hws
  have hNl:N<16777216:=by
   have h:=z_qg _ ws rfl hwl.2
   rw [<-hN,hwl.1,List.length_take] at h
   exact Nat.lt_of_lt_of_le h (Nat.le_trans (Nat.pow_le_pow_right (by decide) (show min j cs.length<=4 by omega)) (by decide))
  refine BIf.dec (fun hlt=>?_) (fun hge=>?_)
  ·have hlt0:(j:Int)<((mkS cs).size:Int):=hlt
   obtain ⟨y,hy,hym⟩:=at_lt (show j<cs.length by omega)
   have htk:cs.take (j+1)=cs.take j++[y]:=by rw [List.take_add_one,hy];rfl
   refine ⟨_,j,rfl,rfl,by omega,?_⟩
   refine ⟨byte y,fun β w' hs=>Rd.cell1 (show Rd 1 (some ⟨b1,0,none⟩) (mkS cs).size ((mkS cs).data.toList.map byte) w' from hs.get 0 rfl) (by rw [hdm,List.getElem?_map,hy];rfl),?_⟩
   have hval:=fun w'=>z_yl w' al url y ha
   unfold valV at hval
   cases hvy:valA url y with
   | none=>
    rw [hvy] at hval
    refine z_ah (v:= .int .i64 (-1)) (fun β w' hs=>hval w') ?_
    refine ⟨(),⟨rfl,?_⟩,Ent.mk' trivial rfl (fun β w hs=>((hs.keepB (List.Sublist.cons_cons _ (List.nil_sublist _))).perm []).lower)⟩
    have hym0:y∈s0:=by
     rw [p1] at hym
     exact List.mem_of_mem_drop (List.mem_of_mem_take hym)
    unfold decS
    rw [z_mY hvy hym0]
    rfl
   | some v=>
    rw [hvy] at hval
    have hv64:=z_sh hvy
    refine z_ah (v:= .int .i64 (v:Int)) (fun β w' hs=>hval w') ?_
    refine ⟨by decide,((N*64:Nat):Int),?_,?_⟩
    ·rw [show min (6:Int).toNat IntKind.i64.bits=6 from rfl,wrap_i64 (by omega) (by omega)];omega
    refine ⟨((N*64+v:Nat):Int),z_yv (by omega) hv64,?_⟩
    refine ⟨((j+1:Nat):Int),by rw [wrap_i64 (by omega) (by omega)];rfl,?_⟩
    refine ⟨(j+1,N*64+v),⟨by show j+1<=cs.length;omega,ws++[v],?_,by show N*64+v=_;rw [z_pU,<-hN]⟩,by show cs.length - (j+1)<cs.length - j;omega,Ent.same ⟨rfl,rfl,rfl,rfl,rfl,rfl,rfl,rfl,trivial⟩ rfl⟩
    show valsA url (cs.take (j+1))=_
    rw [htk,z_mE,hws]
    simp only [valsA,hvy]
  ·have hge0: ¬(j:Int)<((mkS cs).size:Int):=hge
   have hjc:cs.take j=cs:=List.take_of_length_le (by omega)
   rw [hjc] at hws
   have hwlen:ws.length=cs.length:=(z_gi hws).1
   have hw64:=(z_gi hws).2
   obtain ⟨l0,hd0,hd1⟩:=z_s8 vs ws hv4
   obtain ⟨he0,ho0⟩:e=0/\out=l0:=by
    rcases hv2 with ⟨q,q'⟩ | ⟨q,q'⟩
    ·rw [hd0] at q'
     exact ⟨q,(Option.some.inj q').symm⟩
    ·rw [hd0] at q';cases q'
   subst he0 ho0
   have hvall:valsA url (pre.map (·.data.toList)++[cs]).flatten=some (vs++ws):=by
    rw [hnext,z_mE,hv1,hws]
   obtain ⟨X,hX⟩: ∃X:Nat,X=N*2^(6*(4 - cs.length)):=⟨_,rfl⟩
   have hgz:=grpZ (ws:=ws) (by omega) (by omega) hw64
   rw [<-hN,hwlen,<-hX] at hgz
   have hXl:X<16777216:=by
    have h:=z_qg _ ws rfl hw64
    rw [<-hN,hwlen] at h
    rw [hX,show (16777216:Nat)=64^cs.length*2^(6*(4 - cs.length)) by rw [show (64:Nat)=2^6 from rfl,<-Nat.pow_mul,<-Nat.pow_add,show 6*cs.length+6*(4 - cs.length)=24 by omega]]
    exact Nat.mul_lt_mul_of_pos_right h (Nat.pow_pos (by decide))
   have hpw:2^(8*(4 - cs.length))<=2^16:=Nat.pow_le_pow_right (by decide) (by omega)
   have hpw0:0<2^(8*(4 - cs.length)):=Nat.pow_pos (by decide)
   refine ⟨(((4 - (mkS cs).size):Nat):Int),by rw [wrap_i64 (by omega) (by omega)];omega,?_⟩
   refine ⟨_,wrap_i64 (by omega) (by omega),?_⟩
   refine ⟨by first | decide | omega,?_⟩
   refine ⟨(X:Int),?_,?_⟩
   ·rw [show (6*((4 - (mkS cs).size:Nat):Int)).toNat=6*(4 - cs.length) by omega,show min (6*(4 - cs.length)) IntKind.i64.bits=6*(4 - cs.length) from Nat.min_eq_left (by show _<=64;omega)]
    have e:((N:Int)*2^(6*(4 - cs.length)))=(X:Int):=by rw [hX];simp
    show IntKind.i64.wrap ((N:Int)*2^(6*(4 - cs.length)))=_
    rw [e,wrap_i64 (by omega) (by omega)]
   refine ⟨(((4 - (mkS cs).size):Nat):Int),by rw [wrap_i64 (by omega) (by omega)];omega,?_⟩
   refine ⟨_,wrap_i64 (by omega) (by omega),?_⟩
   refine ⟨by first | decide | omega,?_⟩
   refine ⟨((2^(8*(4 - cs.length)):Nat):Int),?_,?_⟩
   ·rw [show (8*((4 - (mkS cs).size:Nat):Int)).toNat=8*(4 - cs.length) by omega,show min (8*(4 - cs.length)) IntKind.i64.bits=8*(4 - cs.length) from Nat.min_eq_left (by show _<=64;omega)]
    have e:((1:Int)*2^(8*(4 - cs.length)))=((2^(8*(4 - cs.length)):Nat):Int):=by simp
    rw [e,wrap_i64 (by omega) (by omega)]
   refine ⟨((2^(8*(4 - cs.length)) - 1:Nat):Int),by rw [wrap_i64 (by omega) (by omega)];omega,?_⟩
   refine ⟨((X%2^(8*(4 - cs.length)):Nat):Int),z_sm (by omega) (by omega),?_⟩
   conv=>whnf
   generalize hq:decide (((mkS cs).size:Int)<4)=bq
   cases bq
   ·refine ⟨((((mkS cs).size - 1):Nat):Int),by rw [wrap_i64 (by omega) (by omega)];omega,?_⟩
    have hne: ¬(((mkS cs).size:Int)<4):=of_decide_eq_false hq
    have h0:X%2^(8*(4 - cs.length))=0:=by rw [show cs.length=4 by omega];exact Nat.mod_one _
    rw [if_pos h0] at hgz
    refine z_ag (ι:=Option Addr×Nat×Nat×List UInt8) 3 (fun j=>[(2,.c (.p 0 0)),(6,.c (.p 1 0)),(7,.c (.p 2 0)),(9,.c (.v (.int .i64 (X:Int)))),(58,.c (.v (.int .i64 (((mkS cs).size - 1:Nat):Int)))),(59,.c (.v (.int .i64 (j.2.2.1:Int))))])
     (fun j=>[⟨2,z_aZ,[.v (.int .i64 0)]⟩,⟨1,z_al,[.v (.slice j.1 j.2.2.2.length j.2.1)]⟩,⟨0,z_ak,[.v (.string al)]⟩]) (fun j=>[browF z_ab j.1 j.2.2.2 j.2.1])
     (fun j=>j.2.2.1<=cs.length - 1/\j.2.2.2=out++bytesN X j.2.2.1) (fun j=>cs.length - j.2.2.1) (A,c,0,out) ⟨Nat.zero_le _,(List.append_nil _).symm⟩ (Ent.mk' ⟨rfl,rfl,rfl,rfl,rfl,rfl,trivial⟩ rfl (fun β w' hs=>(hs.keepB (List.Sublist.refl _)).perm [1])) (z_dM g) ?_
    rintro ⟨A1,c1,k,l1⟩ ⟨hk,hl1⟩
    simp only at hk hl1
    have hl1l:l1.length=out.length+k:=by rw [hl1,List.length_append,z_m8]
    refine BIf.dec (fun hlt=>?_) (fun hge=>?_)
    ·have hlt0:(k:Int)<(((mkS cs).size - 1:Nat):Int):=hlt
     refine z_af (z_dM g) z_f9 (by kernel_rfl) [⟨2,z_aZ,[.v (.int .i64 0)]⟩,⟨1,z_al,[.v (.slice A1 l1.length c1)]⟩,⟨0,z_ak,[.v (.string al)]⟩] [] (Sub.of (List.Sublist.refl _) (List.nil_sublist _)) ?_
     refine ⟨_,wrap_i64 (by omega) (by omega),?_⟩
     refine ⟨_,wrap_i64 (by omega) (by omega),?_⟩
     refine ⟨by first | decide | omega,?_⟩
     refine ⟨((X/256^(2 - k):Nat):Int),z_r3 (by omega),?_⟩
     refine ⟨((u8n (X/256^(2 - k))).toNat:Int),z_mm _,?_⟩
     intro b3
     refine ⟨subPerm [],?_⟩
     have hol:=hok.len
     have hol2:out.length<=3*pre.length:=hol
     have hpl:pre.length<L.length:=by
      rcases Nat.lt_or_ge pre.length L.length with h | h
      ·exact h
      ·rw [List.getElem?_eq_none h] at hx;cases hx
     obtain ⟨l2,hl2⟩: ∃l2,l2=l1++[u8n (X/256^(2 - k))]:=⟨_,rfl⟩
     have hl2l:l1.length+1=l2.length:=by rw [hl2,List.length_append];rfl
     refine ⟨1,l1.length,l2.length,_,[u8n (X/256^(2 - k))].map byte,l2.map byte,rfl,fun β w' hs=>z_aj (hs.get 0 rfl),z_as _,hl2l,by rw [hl2,List.map_append],by rw [maxLen_eq];omega,by show l2.length*1<=_;omega,?_⟩
     intro A2 c2 r1 r2 r3
     refine ⟨subPerm [],?_⟩
     refine ⟨(((k+1):Nat):Int),by rw [wrap_i64 (by omega) (by omega)];rfl,?_⟩
     exact ⟨(A2,c2,k+1,l2),⟨by show k+1<=_;omega,by show l2=_;rw [hl2,hl1,z_lK,List.append_assoc]⟩,by show cs.length - (k+1)<cs.length - k;omega,Ent.mk' ⟨rfl,rfl,rfl,rfl,rfl,rfl,trivial⟩ rfl (fun β w' hs=>hs.perm [1])⟩
    ·have hge0: ¬(k:Int)<(((mkS cs).size - 1:Nat):Int):=hge
     have hkk:k=cs.length - 1:=by omega
     refine ⟨⟨l1,A1,c1,0⟩,⟨?_,?_,?_⟩,Ent.mk' trivial rfl (fun β w' hs=>hs)⟩
     ·show pre++[mkS cs]=L.take (pre++[mkS cs]).length
      rw [List.length_append,List.length_singleton,List.take_add_one,hx,<-hok.eq]
      rfl
     ·refine ⟨vs++ws,by rw [List.map_append,List.map_singleton,hdm];exact hvall,?_⟩
      rw [hd1]
      have hh:((0:Int)=0/\decG ws=some (bytesN X (cs.length - 1)))\/((0:Int)=4/\decG ws=none):=(Or.inl (⟨rfl,hgz⟩:(0:Int)=0/\decG ws=some (bytesN X (cs.length - 1))))
      rcases hh with ⟨q1,q2⟩ | ⟨q1,q2⟩
      ·exact .inl ⟨q1,by rw [q2,hl1,hkk];rfl⟩
      ·exact .inr ⟨q1,by rw [q2];rfl⟩
     ·have h:=hok.len
      show l1.length<=3*(pre++[mkS cs]).length
      rw [hl1l,List.length_append,List.length_singleton]
      have h2:out.length<=3*pre.length:=h
      omega
   ·have hlt4:((mkS cs).size:Int)<4:=of_decide_eq_true hq
    conv=>whnf
    generalize hq2:decide (((X%2^(8*(4 - cs.length)):Nat):Int)=0)=bz
    cases bz
    ·have he0: ¬((X%2^(8*(4 - cs.length)):Nat):Int)=0:=of_decide_eq_false hq2
     rw [if_neg (show¬X%2^(8*(4 - cs.length))=0 by omega)] at hgz
     refine ⟨((((mkS cs).size - 1):Nat):Int),by rw [wrap_i64 (by omega) (by omega)];omega,?_⟩
     refine z_ag (ι:=Option Addr×Nat×Nat×List UInt8) 3 (fun j=>[(2,.c (.p 0 0)),(6,.c (.p 1 0)),(7,.c (.p 2 0)),(9,.c (.v (.int .i64 (X:Int)))),(58,.c (.v (.int .i64 (((mkS cs).size - 1:Nat):Int)))),(59,.c (.v (.int .i64 (j.2.2.1:Int))))])
      (fun j=>[⟨2,z_aZ,[.v (.int .i64 4)]⟩,⟨1,z_al,[.v (.slice j.1 j.2.2.2.length j.2.1)]⟩,⟨0,z_ak,[.v (.string al)]⟩]) (fun j=>[browF z_ab j.1 j.2.2.2 j.2.1])
      (fun j=>j.2.2.1<=cs.length - 1/\j.2.2.2=out++bytesN X j.2.2.1) (fun j=>cs.length - j.2.2.1) (A,c,0,out) ⟨Nat.zero_le _,(List.append_nil _).symm⟩ (Ent.mk' ⟨rfl,rfl,rfl,rfl,rfl,rfl,trivial⟩ rfl (fun β w' hs=>(hs.keepB (List.Sublist.refl _)).perm [1])) (z_dM g) ?_
     rintro ⟨A1,c1,k,l1⟩ ⟨hk,hl1⟩
     simp only at hk hl1
     have hl1l:l1.length=out.length+k:=by rw [hl1,List.length_append,z_m8]
     refine BIf.dec (fun hlt=>?_) (fun hge=>?_)
     ·have hlt0:(k:Int)<(((mkS cs).size - 1:Nat):Int):=hlt
      refine z_af (z_dM g) z_f9 (by kernel_rfl) [⟨2,z_aZ,[.v (.int .i64 4)]⟩,⟨1,z_al,[.v (.slice A1 l1.length c1)]⟩,⟨0,z_ak,[.v (.string al)]⟩] [] (Sub.of (List.Sublist.refl _) (List.nil_sublist _)) ?_
      refine ⟨_,wrap_i64 (by omega) (by omega),?_⟩
      refine ⟨_,wrap_i64 (by omega) (by omega),?_⟩
      refine ⟨by first | decide | omega,?_⟩
      refine ⟨((X/256^(2 - k):Nat):Int),z_r3 (by omega),?_⟩
      refine ⟨((u8n (X/256^(2 - k))).toNat:Int),z_mm _,?_⟩
      intro b3
      refine ⟨subPerm [],?_⟩
      have hol:=hok.len
      have hol2:out.length<=3*pre.length:=hol
      have hpl:pre.length<L.length:=by
       rcases Nat.lt_or_ge pre.length L.length with h | h
       ·exact h
       ·rw [List.getElem?_eq_none h] at hx;cases hx
      obtain ⟨l2,hl2⟩: ∃l2,l2=l1++[u8n (X/256^(2 - k))]:=⟨_,rfl⟩
      have hl2l:l1.length+1=l2.length:=by rw [hl2,List.length_append];rfl
      refine ⟨1,l1.length,l2.length,_,[u8n (X/256^(2 - k))].map byte,l2.map byte,rfl,fun β w' hs=>z_aj (hs.get 0 rfl),z_as _,hl2l,by rw [hl2,List.map_append],by rw [maxLen_eq];omega,by show l2.length*1<=_;omega,?_⟩
      intro A2 c2 r1 r2 r3
      refine ⟨subPerm [],?_⟩
      refine ⟨(((k+1):Nat):Int),by rw [wrap_i64 (by omega) (by omega)];rfl,?_⟩
      exact ⟨(A2,c2,k+1,l2),⟨by show k+1<=_;omega,by show l2=_;rw [hl2,hl1,z_lK,List.append_assoc]⟩,by show cs.length - (k+1)<cs.length - k;omega,Ent.mk' ⟨rfl,rfl,rfl,rfl,rfl,rfl,trivial⟩ rfl (fun β w' hs=>hs.perm [1])⟩
     ·have hge0: ¬(k:Int)<(((mkS cs).size - 1:Nat):Int):=hge
      have hkk:k=cs.length - 1:=by omega
      refine ⟨⟨l1,A1,c1,4⟩,⟨?_,?_,?_⟩,Ent.mk' trivial rfl (fun β w' hs=>hs)⟩
      ·show pre++[mkS cs]=L.take (pre++[mkS cs]).length
       rw [List.length_append,List.length_singleton,List.take_add_one,hx,<-hok.eq]
       rfl
      ·refine ⟨vs++ws,by rw [List.map_append,List.map_singleton,hdm];exact hvall,?_⟩
       rw [hd1]
       have hh:((4:Int)=0/\decG ws=some (bytesN X (cs.length - 1)))\/((4:Int)=4/\decG ws=none):=(Or.inr (⟨rfl,hgz⟩:(4:Int)=4/\decG ws=none))
       rcases hh with ⟨q1,q2⟩ | ⟨q1,q2⟩
       ·exact .inl ⟨q1,by rw [q2,hl1,hkk];rfl⟩
       ·exact .inr ⟨q1,by rw [q2];rfl⟩
      ·have h:=hok.len
       show l1.length<=3*(pre++[mkS cs]).length
       rw [hl1l,List.length_append,List.length_singleton]
       have h2:out.length<=3*pre.length:=h
       omega
    ·have he0:((X%2^(8*(4 - cs.length)):Nat):Int)=0:=of_decide_eq_true hq2
     rw [if_pos (show X%2^(8*(4 - cs.length))=0 by omega)] at hgz
     refine ⟨((((mkS cs).size - 1):Nat):Int),by rw [wrap_i64 (by omega) (by omega)];omega,?_⟩
     refine z_ag (ι:=Option Addr×Nat×Nat×List UInt8) 3 (fun j=>[(2,.c (.p 0 0)),(6,.c (.p 1 0)),(7,.c (.p 2 0)),(9,.c (.v (.int .i64 (X:Int)))),(58,.c (.v (.int .i64 (((mkS cs).size - 1:Nat):Int)))),(59,.c (.v (.int .i64 (j.2.2.1:Int))))])
      (fun j=>[⟨2,z_aZ,[.v (.int .i64 0)]⟩,⟨1,z_al,[.v (.slice j.1 j.2.2.2.length j.2.1)]⟩,⟨0,z_ak,[.v (.string al)]⟩]) (fun j=>[browF z_ab j.1 j.2.2.2 j.2.1])
      (fun j=>j.2.2.1<=cs.length - 1/\j.2.2.2=out++bytesN X j.2.2.1) (fun j=>cs.length - j.2.2.1) (A,c,0,out) ⟨Nat.zero_le _,(List.append_nil _).symm⟩ (Ent.mk' ⟨rfl,rfl,rfl,rfl,rfl,rfl,trivial⟩ rfl (fun β w' hs=>(hs.keepB (List.Sublist.refl _)).perm [1])) (z_dM g) ?_
     rintro ⟨A1,c1,k,l1⟩ ⟨hk,hl1⟩
     simp only at hk hl1
     have hl1l:l1.length=out.length+k:=by rw [hl1,List.length_append,z_m8]
     refine BIf.dec (fun hlt=>?_) (fun hge=>?_)
     ·have hlt0:(k:Int)<(((mkS cs).size - 1:Nat):Int):=hlt
      refine z_af (z_dM g) z_f9 (by kernel_rfl) [⟨2,z_aZ,[.v (.int .i64 0)]⟩,⟨1,z_al,[.v (.slice A1 l1.length c1)]⟩,⟨0,z_ak,[.v (.string al)]⟩] [] (Sub.of (List.Sublist.refl _) (List.nil_sublist _)) ?_
      refine ⟨_,wrap_i64 (by omega) (by omega),?_⟩
      refine ⟨_,wrap_i64 (by omega) (by omega),?_⟩
      refine ⟨by first | decide | omega,?_⟩
      refine ⟨((X/256^(2 - k):Nat):Int),z_r3 (by omega),?_⟩
      refine ⟨((u8n (X/256^(2 - k))).toNat:Int),z_mm _,?_⟩
      intro b3
      refine ⟨subPerm [],?_⟩
      have hol:=hok.len
      have hol2:out.length<=3*pre.length:=hol
      have hpl:pre.length<L.length:=by
       rcases Nat.lt_or_ge pre.length L.length with h | h
       ·exact h
       ·rw [List.getElem?_eq_none h] at hx;cases hx
      obtain ⟨l2,hl2⟩: ∃l2,l2=l1++[u8n (X/256^(2 - k))]:=⟨_,rfl⟩
      have hl2l:l1.length+1=l2.length:=by rw [hl2,List.length_append];rfl
      refine ⟨1,l1.length,l2.length,_,[u8n (X/256^(2 - k))].map byte,l2.map byte,rfl,fun β w' hs=>z_aj (hs.get 0 rfl),z_as _,hl2l,by rw [hl2,List.map_append],by rw [maxLen_eq];omega,by show l2.length*1<=_;omega,?_⟩
      intro A2 c2 r1 r2 r3
      refine ⟨subPerm [],?_⟩
      refine ⟨(((k+1):Nat):Int),by rw [wrap_i64 (by omega) (by omega)];rfl,?_⟩
      exact ⟨(A2,c2,k+1,l2),⟨by show k+1<=_;omega,by show l2=_;rw [hl2,hl1,z_lK,List.append_assoc]⟩,by show cs.length - (k+1)<cs.length - k;omega,Ent.mk' ⟨rfl,rfl,rfl,rfl,rfl,rfl,trivial⟩ rfl (fun β w' hs=>hs.perm [1])⟩
     ·have hge0: ¬(k:Int)<(((mkS cs).size - 1:Nat):Int):=hge
      have hkk:k=cs.length - 1:=by omega
      refine ⟨⟨l1,A1,c1,0⟩,⟨?_,?_,?_⟩,Ent.mk' trivial rfl (fun β w' hs=>hs)⟩
      ·show pre++[mkS cs]=L.take (pre++[mkS cs]).length
       rw [List.length_append,List.length_singleton,List.take_add_one,hx,<-hok.eq]
       rfl
      ·refine ⟨vs++ws,by rw [List.map_append,List.map_singleton,hdm];exact hvall,?_⟩
       rw [hd1]
       have hh:((0:Int)=0/\decG ws=some (bytesN X (cs.length - 1)))\/((0:Int)=4/\decG ws=none):=(Or.inl (⟨rfl,hgz⟩:(0:Int)=0/\decG ws=some (bytesN X (cs.length - 1))))
       rcases hh with ⟨q1,q2⟩ | ⟨q1,q2⟩
       ·exact .inl ⟨q1,by rw [q2,hl1,hkk];rfl⟩
       ·exact .inr ⟨q1,by rw [q2];rfl⟩
      ·have h:=hok.len
       show l1.length<=3*(pre++[mkS cs]).length
       rw [hl1l,List.length_append,List.length_singleton]
       have h2:out.length<=3*pre.length:=h
       omega
 ·rintro xs ⟨out,A,c,e⟩ Fs hok ⟨rfl,rfl⟩
  obtain ⟨vs,hv1,hv2⟩:=hok.vs
  have hfl:(xs.map (·.data.toList)).flatten=s0:=by
   rw [<-hLd,List.map_map,show ((fun b:ByteArray=>b.data.toList)∘mkS)=id from funext fun l=>by simp [mkS],List.map_id,z_pm 3 _ _ (Nat.le_refl _)]
  rw [hfl] at hv1
  have hds:decS url s0=decG vs:=by unfold decS;rw [hv1];rfl
  rcases hv2 with ⟨q1,q2⟩ | ⟨q1,q2⟩
  ·obtain rfl:e=0:=q1
   intro β w' hs
   have hcap:out.length<=c:=z_ic (show (browF z_ab A out c).p w' from hs.get 0 rfl)
   exact (hs.keepB (List.nil_sublist _)).fin [0] ⟨A,out,c,0,rfl,.inl ⟨rfl,by rw [hds,q2]⟩,hcap,rfl⟩
  ·obtain rfl:e=4:=q1
   refine z_af g z_kn (by kernel_rfl) [⟨2,z_aZ,[.v (.int .i64 4)]⟩] [] (Sub.of (List.sublist_append_left _ _) (List.nil_sublist _)) ?_
   intro β w' hs
   exact ((hs.keepB (List.nil_sublist _)).nilRow z_ab 1).fin [0] ⟨none,[],0,4,rfl,.inr ⟨by decide,by rw [hds,q2]⟩,Nat.le_refl _,rfl⟩
 ·rintro e pre ⟨⟩ Fs ⟨rfl,hno⟩ rfl
  refine z_af g z_kn (by kernel_rfl) [⟨2,z_aZ,[.v (.int .i64 5)]⟩] [] (Sub.of (List.Sublist.refl _) (List.nil_sublist _)) ?_
  intro β w' hs
  exact ((hs.keepB (List.nil_sublist _)).nilRow z_ab 1).fin [0] ⟨none,[],0,5,rfl,.inr ⟨by decide,hno⟩,Nat.le_refl _,rfl⟩
def addTk (a b:Nat):Nat:=min (min a 1099511627776+min b 1099511627776) 1099511627776
theorem z_uR (w:World) (n:Nat):Pu Tryz.prog z_oM #[.int .u64 (n:Int)] w (.int .u64 ((min n 1099511627776:Nat):Int)):=by
 have g:=z_pz w (Un [])
 refine z_ac (cx:=z_nz w (Un [])) g z_sk rfl rfl (β:=Va.z) [.c (.v (.int .u64 (n:Int)))] 0 [] [] rfl rfl (Sat.start rfl) ?_
 refine ⟨((min n 1099511627776:Nat):Int),by show min (n:Int) 1099511627776=_;omega,?_⟩
 intro β w' hs
 exact hs.fin [] ⟨rfl,rfl⟩
theorem z_vN (w:World) (a b:Nat):Pu Tryz.prog z_nk #[.int .u64 (a:Int),.int .u64 (b:Int)] w (.int .u64 ((addTk a b:Nat):Int)):=by
 have g:=z_p6 w (Un [])
 refine z_ac (cx:=z_pa w (Un [])) g z_uk rfl rfl (β:=Va.z) [.c (.v (.int .u64 (a:Int))),.c (.v (.int .u64 (b:Int)))] 0 [] [] rfl rfl (Sat.start rfl) ?_
 refine z_ah (fun β w' hs=>z_uR w' a) ?_
 refine z_ah (fun β w' hs=>z_uR w' b) ?_
 refine ⟨((min a 1099511627776+min b 1099511627776:Nat):Int),by rw [z_c7];omega,?_⟩
 refine z_ah (fun β w' hs=>z_uR w' (min a 1099511627776+min b 1099511627776)) ?_
 intro β w' hs
 exact hs.fin [] ⟨rfl,rfl⟩
theorem z_pj (w:World) (n m:Nat):Pu Tryz.prog z_jr #[.int .u64 (n:Int),.int .u64 (m:Int)] w (.bool (decide (1<=n/\n<=m))):=by
 have g:=z_mR w (Un [])
 refine z_ac (cx:=z_iz w (Un [])) g z_oy rfl rfl (β:=Va.z) [.c (.v (.int .u64 (n:Int))),.c (.v (.int .u64 (m:Int)))] 0 [] [] rfl rfl (Sat.start rfl) ?_
 refine BIf.dec (fun h1=>?_) (fun h1=>?_)
 ·have h10:(n:Int)>=1:=h1
  intro β w' hs
  refine hs.fin [] ⟨?_,rfl⟩
  show Value.bool (decide ((n:Int)<=(m:Int)))=_
  congr 1
  exact decide_eq_decide.2 ⟨fun h=>⟨by omega,by omega⟩,fun h=>by omega⟩
 ·have h10: ¬(n:Int)>=1:=h1
  intro β w' hs
  refine hs.fin [] ⟨?_,rfl⟩
  rw [decide_eq_false (fun h=>by omega)]
  rfl
theorem be_at: ∀(k n j:Nat),j<k->(be k n)[j]?=some (UInt8.ofNat (n/256^(k - 1 - j)%256))
 | k+1,n,j,h=>by
  rw [be]
  rcases Nat.lt_or_ge j k with q | q
  ·rw [List.getElem?_append_left (by rw [z_ay];exact q),be_at k (n/256) j q,Nat.div_div_eq_div_mul,<-Nat.pow_succ',show k+1 - 1 - j=(k - 1 - j)+1 by omega]
  ·obtain rfl:j=k:=by omega
   rw [List.getElem?_append_right (by rw [z_ay];exact Nat.le_refl _),z_ay,Nat.sub_self,show j+1 - 1 - j=0 by omega]
   simp
theorem shr8 {n j:Nat} (hj:j<=7):(n:Int).fdiv (2^min (8*(j:Int)).toNat IntKind.u64.bits)=((n/256^j:Nat):Int):=by
 rw [show (8*(j:Int)).toNat=8*j by omega,show min (8*j) IntKind.u64.bits=8*j from Nat.min_eq_left (by show _<=64;omega),show ((2:Int)^(8*j))=((256^j:Nat):Int) by rw [show (256:Nat)=2^8 from rfl,<-Nat.pow_mul];simp]
 rw [Int.fdiv_eq_ediv_of_nonneg _ (Int.natCast_nonneg _)]
 rfl
theorem z_xR (w:World) (n k:Nat) (hn:n<18446744073709551616) (hk:k<=8):Con Tryz.prog z_nI #[.int .u64 (n:Int),.int .i64 (k:Int)] w [] fun v Fs=> ∃A c,v= .slice A (be k n).length c/\(be k n).length<=c/\Fs=[browF z_ab A (be k n) c]:=by
 have g:=z_ou w (Un [])
 have hml:=maxLen_eq
 refine z_ac (cx:=z_mo w (Un [])) g z_rk rfl rfl (β:=Va.z) [.c (.v (.int .u64 (n:Int))),.c (.v (.int .i64 (k:Int)))] 0 [] [] rfl rfl (Sat.start rfl) ?_
 refine ⟨(k:Int) - 1,wrap_i64 (by omega) (by omega),?_⟩
 refine z_ag (ι:=Nat×Option Addr×Nat) 0 (fun j=>[(0,.c (.v (.int .u64 (n:Int)))),(5,.c (.v (.slice j.2.1 ((be k n).take j.1).length j.2.2))),(6,.c (.v (.int .i64 ((k:Int) - 1 - j.1))))]) (fun _=>[]) (fun j=>[browF z_ab j.2.1 ((be k n).take j.1) j.2.2])
  (fun j=>j.1<=k) (fun j=>k - j.1) (0,none,0) (Nat.zero_le _) (Ent.mk' ⟨rfl,rfl,by show some _=some _;rw [show (k:Int) - 1 - ((0:Nat):Int)=(k:Int) - 1 by omega],trivial⟩ rfl (fun β w' hs=>hs.nilRow z_ab 1)) g ?_
 rintro ⟨j,A,c⟩ hj
 simp only at hj
 have hbl:=z_ay k n
 have hjl:((be k n).take j).length=j:=by rw [List.length_take,hbl];omega
 refine BIf.dec (fun hlt=>?_) (fun hge=>?_)
 ·have hlt0:(k:Int) - 1 - j>=0:=hlt
  obtain ⟨i,hi⟩: ∃i,k - 1 - j=i:=⟨_,rfl⟩
  have hki:(k:Int) - 1 - j=(i:Int):=by omega
  rw [hki]
  refine ⟨8*(i:Int),wrap_i64 (by omega) (by omega),?_⟩
  refine ⟨by omega,((n/256^i:Nat):Int),shr8 (by omega),?_⟩
  refine ⟨((n/256^i%256:Nat):Int),by rw [wrap_u8];omega,?_⟩
  have hx:=be_at k n j (by omega)
  rw [hi] at hx
  obtain ⟨x,hxx⟩: ∃x:UInt8,UInt8.ofNat (n/256^i%256)=x:=⟨_,rfl⟩
  have hxn:n/256^i%256=x.toNat:=by rw [<-hxx,ofNat_toNat _ (Nat.mod_lt _ (by decide))]
  rw [hxx] at hx
  rw [hxn]
  have hsn:(be k n).take (j+1)=(be k n).take j++[x]:=by rw [List.take_add_one,hx];rfl
  intro b1
  refine ⟨1,((be k n).take j).length,((be k n).take (j+1)).length,((be k n).take j).map byte,[byte x],((be k n).take (j+1)).map byte,rfl,fun β w' hs=>z_aj (hs.get 0 rfl),fun u hu=>by obtain rfl:=List.mem_singleton.1 hu;rfl,by rw [hsn,List.length_append];rfl,by rw [hsn,List.map_append];rfl,by rw [hsn,List.length_append];show _+1<=_;omega,by rw [hsn,List.length_append];show (_+1)*1<=_;omega,?_⟩
  intro A' c' _ _ _
  refine ⟨(k:Int) - 1 - ((j+1:Nat):Int),by rw [wrap_i64 (by omega) (by omega)];omega,?_⟩
  exact ⟨(j+1,A',c'),by show j+1<=k;omega,by show k - (j+1)<k - j;omega,Ent.mk' ⟨rfl,rfl,rfl,trivial⟩ rfl (fun β w' hs=>hs.perm [1])⟩
 ·have hge0: ¬(k:Int) - 1 - j>=0:=hge
  have hjk:(be k n).take j=be k n:=List.take_of_length_le (by omega)
  rw [hjk]
  intro β w' hs
  exact hs.fin [0] ⟨A,c,rfl,z_ic (hs.get 0 rfl),rfl⟩
def Tk.cells (t:Tk):List Value:=[.int .u64 (t.epoch:Int),.int .u64 (t.serial:Int),.int .u64 (t.fro:Int),.int .u64 (t.til:Int),.int .u64 (t.gen:Int),.string (mkS t.ten),.string (mkS t.usr),.string (mkS t.rol)]
structure Tk.Ok (t:Tk):Prop where
 e:t.epoch<18446744073709551616
 s:t.serial<18446744073709551616
 f:t.fro<18446744073709551616
 l:t.til<18446744073709551616
 g:t.gen<18446744073709551616
 n:t.ten.length<=100000
 u:t.usr.length<=100000
 r:t.rol.length<=100000
theorem z_eq (l:List UInt8):(mkS l).data.toList=l:=by simp [mkS]
theorem z_rW {a b:List UInt8} (h:mkS a=mkS b):a=b:=by
 have:=congrArg (fun s:ByteArray=>s.data.toList) h
 simpa [z_eq] using this
theorem z_wj (l:List UInt8):nameA (mkS l)=(mkS (sizF l 32).1,(sizF l 32).2):=by unfold nameA;rw [z_eq]
open Classical in
theorem z_rR (w:World) (t:Tk) (hn:NamT w) (ht:t.Ok):Pu Tryz.prog z_eR #[.agg t.cells.toArray] w (.bool (decide t.Right)):=by
 have g:=z_hS w (Un [])
 have hu:(mkS t.usr).size<=100000:=ht.u
 have hte:(mkS t.ten).size<=100000:=ht.n
 have hro:(mkS t.rol).size<=100000:=ht.r
 refine z_ac (cx:=z_cb w (Un [])) g z_jl rfl rfl (β:=Va.z) [.agg (t.cells.map SL.v)] 0 [] [oldF w] rfl rfl (z_aS rfl) ?_
 have no: ¬t.Right-> ∀ {β:Va} {n:Nat} {H:List Bk} {F:List Fact} {w':World},Sat (z_cb w (Un [])) β n H F w'->Fin w [] (fun v Fs=>v= .bool (decide t.Right)/\Fs=[]) (.bool false) w':=fun h β n H F w' hs=>hs.fin [] ⟨by rw [decide_eq_false h],rfl⟩
 refine z_ah (fun β w' hs=>by
  have h:=z_yL w' (mkS t.usr) hu (hn.old (hs.get 0 rfl))
  rw [z_wj] at h
  exact h) ?_
 refine BIf.dec (fun h1=>?_) (fun h1=>?_)
 rotate_left
 ·intro β w' hs
  exact no (fun h=>h1 (by have:=h.usr;unfold namedT at this;simp only [Bool.and_eq_true,decide_eq_true_iff] at this;exact this.1)) hs
 refine BIf.dec (fun h2=>?_) (fun h2=>?_)
 rotate_left
 ·intro β w' hs
  exact no (fun h=>h2 (by have:=h.usr;unfold namedT at this;simp only [Bool.and_eq_true,decide_eq_true_iff] at this;rw [this.2])) hs
 have hnm:namedT t.usr=true:=by
  unfold namedT
  rw [Bool.and_eq_true,decide_eq_true_iff,decide_eq_true_iff]
  exact ⟨h1,z_rW h2⟩
 refine z_ah (v:= .bool (plainF t.ten)) (fun β w' hs=>by
  have h:=z_vr w' (mkS t.ten) hte
  rw [z_eq] at h
  exact h) ?_
 cases h3:plainF t.ten with
 | false=>
  intro β w' hs
  exact no (fun h=>by rw [h.ten] at h3;cases h3) hs
 | true=>
 refine z_ah (v:= .bool (plainF t.rol)) (fun β w' hs=>by
  have h:=z_vr w' (mkS t.rol) hro
  rw [z_eq] at h
  exact h) ?_
 cases h4:plainF t.rol with
 | false=>
  intro β w' hs
  exact no (fun h=>by rw [h.rol] at h4;cases h4) hs
 | true=>
 refine z_ah (v:= .bool (decide (1<=t.epoch/\t.epoch<=4294967295))) (fun β w' hs=>z_pj w' t.epoch 4294967295) ?_
 refine BIf.dec (fun h5=>?_) (fun h5=>?_)
 rotate_left
 ·intro β w' hs
  exact no (fun h=>h5 ⟨h.e1,h.e2⟩) hs
 refine z_ah (v:= .bool (decide (1<=t.serial/\t.serial<=9007199254740992))) (fun β w' hs=>z_pj w' t.serial 9007199254740992) ?_
 refine BIf.dec (fun h6=>?_) (fun h6=>?_)
 rotate_left
 ·intro β w' hs
  exact no (fun h=>h6 ⟨h.s1,h.s2⟩) hs
 refine z_ah (v:= .bool (decide (1<=t.gen/\t.gen<=9007199254740992))) (fun β w' hs=>z_pj w' t.gen 9007199254740992) ?_
 refine BIf.dec (fun h7=>?_) (fun h7=>?_)
 rotate_left
 ·intro β w' hs
  exact no (fun h=>h7 ⟨h.g1,h.g2⟩) hs
 refine BIf.dec (fun h8=>?_) (fun h8=>?_)
 rotate_left
 ·have h80: ¬(t.fro:Int)<(t.til:Int):=h8
  intro β w' hs
  exact no (fun h=>h80 (by have:=h.lt;omega)) hs
 have h80:(t.fro:Int)<(t.til:Int):=h8
 intro β w' hs
 refine hs.fin [] ⟨?_,rfl⟩
 show Value.bool (decide ((t.til:Int)<=1099511627776))=_
 congr 1
 exact decide_eq_decide.2 ⟨fun h=>⟨hnm,h3,h4,h5.1,h5.2,h6.1,h6.2,h7.1,h7.2,by omega,by omega⟩,fun h=>by have:=h.le;omega⟩
theorem z_zv {url:Bool} {n:Nat} (h:n<26):letA url n=UInt8.ofNat (65+n):=by unfold letA;rw [if_pos h]
theorem z_zu {url:Bool} {n:Nat} (h1: ¬n<26) (h:n<52):letA url n=UInt8.ofNat (97+n - 26):=by unfold letA;rw [if_neg h1,if_pos h]
theorem z_zk {url:Bool} {n:Nat} (h1: ¬n<26) (h2: ¬n<52) (h:n<62):letA url n=UInt8.ofNat (48+n - 52):=by unfold letA;rw [if_neg h1,if_neg h2,if_pos h]
theorem z_r6 {k:Nat} (h:k<256):Value.int .u8 ((k:Nat):Int)=byte (UInt8.ofNat k):=by
 unfold byte
 congr 2
 rw [UInt8.toNat_ofNat']
 omega
theorem z_tp (w:World) (n:Nat) (url:Bool) (hn:n<64):Pu Tryz.prog z_eB #[.int .i64 (n:Int),.bool url] w (byte (letA url n)):=by
 have g:=z_ho w (Un [])
 refine z_ac (cx:=z_d8 w (Un [])) g z_j1 rfl rfl (β:=Va.z) [.c (.v (.int .i64 (n:Int))),.c (.v (.bool url))] 0 [] [] rfl rfl (Sat.start rfl) ?_
 refine BIf.dec (fun h1=>?_) (fun h1=>?_)
 ·have h10:(n:Int)<26:=h1
  rw [z_zv (by omega)]
  refine ⟨(((65+n):Nat):Int),by rw [wrap_i64 (by omega) (by omega)];rfl,?_⟩
  refine ⟨((65+n:Nat):Int),by rw [IntKind.wrap_u8];omega,?_⟩
  intro β w' hs
  exact hs.fin [] ⟨z_r6 (by omega),rfl⟩
 have h10: ¬(n:Int)<26:=h1
 refine BIf.dec (fun h2=>?_) (fun h2=>?_)
 ·have h20:(n:Int)<52:=h2
  rw [z_zu (by omega) (by omega)]
  refine ⟨(((97+n):Nat):Int),by rw [wrap_i64 (by omega) (by omega)];rfl,?_⟩
  refine ⟨(((97+n - 26):Nat):Int),by rw [wrap_i64 (by omega) (by omega)];omega,?_⟩
  refine ⟨((97+n - 26:Nat):Int),by rw [IntKind.wrap_u8];omega,?_⟩
  intro β w' hs
  exact hs.fin [] ⟨z_r6 (by omega),rfl⟩
 have h20: ¬(n:Int)<52:=h2
 refine BIf.dec (fun h3=>?_) (fun h3=>?_)
 ·have h30:(n:Int)<62:=h3
  rw [z_zk (by omega) (by omega) (by omega)]
  refine ⟨(((48+n):Nat):Int),by rw [wrap_i64 (by omega) (by omega)];rfl,?_⟩
  refine ⟨(((48+n - 52):Nat):Int),by rw [wrap_i64 (by omega) (by omega)];omega,?_⟩
  refine ⟨((48+n - 52:Nat):Int),by rw [IntKind.wrap_u8];omega,?_⟩
  intro β w' hs
  exact hs.fin [] ⟨z_r6 (by omega),rfl⟩
 have h30: ¬(n:Int)<62:=h3
 refine BIf.dec (fun h4=>?_) (fun h4=>?_)
 ·have h40:(n:Int)=62:=h4
  obtain rfl:n=62:=by omega
  cases url with
  | true=>
   intro β w' hs
   exact hs.fin [] ⟨by rfl,rfl⟩
  | false=>
   intro β w' hs
   exact hs.fin [] ⟨by rfl,rfl⟩
 ·have h40: ¬(n:Int)=62:=h4
  obtain rfl:n=63:=by omega
  cases url with
  | true=>
   intro β w' hs
   exact hs.fin [] ⟨by rfl,rfl⟩
  | false=>
   intro β w' hs
   exact hs.fin [] ⟨by rfl,rfl⟩
theorem z_yq {url:Bool} {c:UInt8} {i:Nat} (h:i<64) (hno: ∀k,k<i->letA url k≠c) (hi:letA url i=c):valA url c=some i:=by
 rw [z_vg,List.find?_range_eq_some]
 exact ⟨by simpa using hi,List.mem_range.2 h,fun j hj=>by simpa using hno j hj⟩
theorem z_ya {url:Bool} {c:UInt8} (hno: ∀k,k<64->letA url k≠c):valA url c=none:=by
 rw [z_vg,List.find?_eq_none]
 intro k hk
 simpa using hno k (List.mem_range.1 hk)
theorem z_vj (w:World) (c:UInt8) (url:Bool):Pu Tryz.prog z_eG #[byte c,.bool url] w (.int .i64 (valV url c)):=by
 have g:=z_hu w (Un [])
 refine z_ac (cx:=z_ed w (Un [])) g z_j4 rfl rfl (β:=Va.z) [.c (.v (byte c)),.c (.v (.bool url))] 0 [] [] rfl rfl (Sat.start rfl) ?_
 refine z_ag (ι:=Nat) 0 (fun j=>[(0,.c (.v (byte c))),(1,.c (.v (.bool url))),(5,.c (.v (.int .i64 (j:Int))))]) (fun _=>[]) (fun _=>[])
  (fun j=>j<=64/\ ∀k,k<j->letA url k≠c) (fun j=>64 - j) (0:Nat) ⟨Nat.zero_le _,fun k hk=>absurd hk (Nat.not_lt_zero _)⟩ (Ent.mk' ⟨rfl,rfl,rfl,trivial⟩ rfl (fun β w' hs=>hs)) g ?_
 rintro j ⟨hj,hno⟩
 refine BIf.dec (fun hlt=>?_) (fun hge=>?_)
 ·have hlt0:(j:Int)<64:=hlt
  refine z_ah (fun β w' hs=>z_tp w' j url (by omega)) ?_
  refine BIf.dec (fun he=>?_) (fun hne=>?_)
  ·have he0:letA url j=c:=UInt8.toNat_inj.1 (Int.ofNat_inj.1 he)
   intro β w' hs
   refine hs.fin [] ⟨?_,rfl⟩
   unfold valV
   rw [z_yq (by omega) hno he0]
   rfl
  ·have hne0:letA url j≠c:=fun q=>hne (by rw [q])
   refine ⟨((j+1:Nat):Int),by rw [wrap_i64 (by omega) (by omega)];rfl,?_⟩
   exact ⟨j+1,⟨by omega,fun k hk=>by
    rcases Nat.lt_or_ge k j with q | q
    ·exact hno k q
    ·obtain rfl:k=j:=by omega
     exact hne0⟩,by omega,Ent.mk' ⟨rfl,rfl,rfl,trivial⟩ rfl (fun β w' hs=>hs)⟩
 ·have hge0: ¬(j:Int)<64:=hge
  obtain rfl:j=64:=by omega
  intro β w' hs
  refine hs.fin [] ⟨?_,rfl⟩
  unfold valV
  rw [z_ya hno]
  rfl
def decOutP (l:Option (List UInt8)) (v:Value) (Fs:List Fact):Prop:= ∃A l' c e,v= .tuple #[.slice A l'.length c,.int .i64 e]/\((e=0/\l=some l')\/(e≠0/\l=none))/\l'.length<=c/\Fs=[browF z_ab A l' c]
theorem z_iq (w:World) (s:List UInt8) (hL:s.length<=1000000):Con Tryz.prog z_ke #[.string (mkS s)] w [] (decOutP (decU s)):=by
 have g:=z_mQ w (Un [])
 have hml:=maxLen_eq
 refine z_ac (cx:=z_iC w (Un [])) g z_pn rfl rfl (β:=Va.z) [.c (.v (.string (mkS s)))] 0 [] [] rfl rfl (Sat.start rfl) ?_
 have huz:=z_gN s
 refine ⟨by first | decide | omega,?_⟩
 refine ⟨(((mkS s).size%4:Nat):Int),Int.ofNat_tmod _ _,?_⟩
 refine BIf.dec (fun h1=>?_) (fun h1=>?_)
 ·have h11:(((mkS s).size%4:Nat):Int)=1:=h1
  intro β w' hs
  exact (hs.nilRow z_ab 1).fin [0] ⟨none,[],0,2,rfl,.inr ⟨by decide,by unfold decU;rw [if_pos (by omega)]⟩,Nat.le_refl _,rfl⟩
 ·have h11: ¬(((mkS s).size%4:Nat):Int)=1:=h1
  have hdp:decU s=decS true s:=by unfold decU;rw [if_neg (by omega)]
  refine z_aa [] (fun β w' hs=>z_wm w' _ (mkS s) true ⟨by decide,by decide,by decide⟩ (by omega) (by omega)) ?_
  rintro v Fs ⟨A,l,c,e,rfl,hle,hcap,rfl⟩
  rw [show (mkS s).data.toList=s by simp [mkS],<-hdp] at hle
  intro β w' hs
  exact hs.fin [0] ⟨A,l,c,e,rfl,hle,hcap,rfl⟩
end Go.Proofs.YtfomhhkoamapmaaGreatDoor.Sx
namespace Go.Proofs.YtfomhhkoamapmaaGreatDoor.Sx
open Go
theorem BIf.yes {P Q:Prop} {b:Bool} (hb:b=true) (h:P):BIf P Q b:=by subst hb;exact h
theorem BIf.no {P Q:Prop} {b:Bool} (hb:b=false) (h:Q):BIf P Q b:=by subst hb;exact h
end Go.Proofs.YtfomhhkoamapmaaGreatDoor.Sx
namespace Go.Proofs.YtfomhhkoamapmaaGreatDoor.Sx
open Go Sha
attribute [local irreducible] Calls
end Go.Proofs.YtfomhhkoamapmaaGreatDoor.Sx
namespace Go.Proofs.YtfomhhkoamapmaaGreatDoor.Sx
open Go
attribute [local irreducible] Calls
theorem or128 (n:Nat):bits .or .u8 (((UInt8.ofNat n).toNat:Nat):Int) 128=((UInt8.ofNat (n%128+128)).toNat:Int):=by
 show IntKind.u8.wrap (((BitVec.ofInt 8 ((UInt8.ofNat n).toNat:Int)) ||| (BitVec.ofInt 8 128)).toNat:Int)=_
 have h1:BitVec.ofInt 8 (((UInt8.ofNat n).toNat:Nat):Int)=BitVec.ofNat 8 n:=by
  apply BitVec.eq_of_toNat_eq
  rw [BitVec.toNat_ofInt,BitVec.toNat_ofNat,UInt8.toNat_ofNat']
  omega
 have h2:BitVec.ofNat 8 n ||| BitVec.ofInt 8 128=BitVec.ofNat 8 (n%128+128):=by
  have h3:BitVec.ofNat 8 n=BitVec.ofNat 8 (n%256):=by
   apply BitVec.eq_of_toNat_eq
   rw [BitVec.toNat_ofNat,BitVec.toNat_ofNat]
   omega
  have h4:n%128=n%256%128:=by omega
  rw [h3,h4]
  have h5:n%256<256:=Nat.mod_lt _ (by omega)
  have key: ∀k,k<256->BitVec.ofNat 8 k ||| BitVec.ofInt 8 128=BitVec.ofNat 8 (k%128+128):=by decide+kernel
  exact key _ h5
 rw [h1,h2,BitVec.toNat_ofNat,wrap_u8,UInt8.toNat_ofNat']
 omega
theorem z_tA: ∀(k n:Nat),n<128^(k+1)->(Bx.vint n).length<=k+1
 | 0,n,h=>by rw [Bx.vint_lt (by simpa using h)];simp
 | k+1,n,h=>by
  by_cases hn:n<128
  ·rw [Bx.vint_lt hn];simp
  ·rw [Bx.vint_ge hn,List.length_cons]
   have:=z_tA k (n/128) (by rw [Nat.pow_succ] at h;omega)
   omega
theorem z_rc {n:Nat} (h:n<4611686018427387904):(Bx.vint n).length<=9:=z_tA 8 n (by omega)
def varF (b:Nat) (A:Option Addr) (l:List UInt8) (c:Nat):List Fact:=[bkF b z_al [.slice A l.length c],browF z_ab A l c]
structure LgS where
 n:Nat
 A:Option Addr
 l:List UInt8
 c:Nat
theorem z_uC (w:World) (b n:Nat) (A:Option Addr) (l:List UInt8) (c:Nat) (hn:n<4611686018427387904) (hl:l.length<=1000000000) (hm:Mem w (varF b A l c)):
  Con Tryz.prog z_co #[.int .i64 n,.pointer (some ⟨b,0,none⟩)] w (varF b A l c) fun v Fs=>v= .tuple #[]/\ ∃A' c',Fs=varF b A' (l++Bx.vint n) c':=by
 have g:=z_j6 w (Un (varF b A l c))
 refine z_ac (cx:=z_gg w (Un (varF b A l c))) g z_mC rfl rfl (β:=Va.z) [.c (.v (.int .i64 n)),.c (.v (.pointer (some ⟨b,0,none⟩)))] 0 [] _ rfl rfl (hm.sat0 rfl (fun f hf _ k hk=>⟨f,hf,hk⟩)) ?_
 refine z_ag (ι:=LgS) 0 (fun i=>[(0,.c (.v (.int .i64 i.n))),(1,.c (.v (.pointer (some ⟨b,0,none⟩))))]) (fun _=>[]) (fun i=>varF b i.A i.l i.c)
  (fun i=>i.n<4611686018427387904/\i.l++Bx.vint i.n=l++Bx.vint n) (fun i=>i.n) ⟨n,A,l,c⟩ ⟨hn,rfl⟩ (Ent.same ⟨rfl,rfl,trivial⟩ rfl) g ?_
 rintro ⟨m,A1,l1,c1⟩ ⟨hm1,he⟩
 simp only at hm1 he
 have hl1:l1.length<=1000000009:=by
  have h1:=congrArg List.length he
  simp only [List.length_append] at h1
  have h2:=z_rc hn
  omega
 have hcell: ∀(w':World) (A:Option Addr) (l:List UInt8) (c:Nat),(bkF b z_al [.slice A l.length c]).p w'->w'.cell? ⟨b,0,none⟩=some (.slice A l.length c):=fun w' A l c h=>by
  have hb:w'.heap[b]?=some (.cells #[.slice A l.length c] z_al (0,0)):=h
  rw [cell_of_row w' b 0 _ _ _ hb];rfl
 refine BIf.dec (fun hge=>?_) (fun hlt=>?_)
 ·have hge0:(128:Int)<=(m:Int):=hge
  have hnl: ¬m<128:=by omega
  refine ⟨.slice A1 l1.length c1,fun β w' hs=>hcell _ _ _ _ (hs.get 0 rfl),?_⟩
  refine ⟨_,z_br m,_,or128 m,?_⟩
  intro b2
  refine ⟨2,l1.length,l1.length+1,l1.map byte,[byte (UInt8.ofNat (m%128+128))],(l1++[UInt8.ofNat (m%128+128)]).map byte,rfl,fun β w' hs=>z_aj (hs.get 0 rfl),z_as [UInt8.ofNat (m%128+128)],rfl,by simp,by rw [maxLen_eq];omega,by show (l1.length+1)*1<=_;omega,?_⟩
  intro A' c' h1 h2 h3
  refine ⟨_,fun β w' hs=>hs.bkSet 1 (o:=0) (us:=[.slice A' (l1.length+1) c']) rfl (Nat.le_refl 1) (fun u hu=>by obtain rfl:=List.mem_singleton.1 hu;rfl),?_⟩
  refine ⟨by decide,((m/128:Nat):Int),z_o9 m 7,?_⟩
  refine ⟨⟨m/128,A',l1++[UInt8.ofNat (m%128+128)],c'⟩,⟨by show m/128<_;omega,?_⟩,by show m/128<m;omega,?_⟩
  ·show l1++[UInt8.ofNat (m%128+128)]++Bx.vint (m/128)=_
   rw [<-he,Bx.vint_ge hnl]
   simp
  ·refine Ent.mk' ⟨rfl,rfl,trivial⟩ rfl ?_
   intro β w' hs
   have e:(l1++[UInt8.ofNat (m%128+128)]).length=l1.length+1:=by simp
   have hs2:=hs.perm [1,2]
   show Sat _ _ _ _ (varF b A' (l1++[UInt8.ofNat (m%128+128)]) c') _
   unfold varF browF
   rw [e]
   exact hs2
 ·have hlt0: ¬(128:Int)<=(m:Int):=hlt
  have hl:m<128:=by omega
  refine ⟨.slice A1 l1.length c1,fun β w' hs=>hcell _ _ _ _ (hs.get 0 rfl),?_⟩
  refine ⟨_,z_br m,?_⟩
  intro b2
  refine ⟨2,l1.length,l1.length+1,l1.map byte,[byte (UInt8.ofNat m)],(l1++[UInt8.ofNat m]).map byte,rfl,fun β w' hs=>z_aj (hs.get 0 rfl),z_as [UInt8.ofNat m],rfl,by simp,by rw [maxLen_eq];omega,by show (l1.length+1)*1<=_;omega,?_⟩
  intro A' c' h1 h2 h3
  refine ⟨_,fun β w' hs=>hs.bkSet 1 (o:=0) (us:=[.slice A' (l1.length+1) c']) rfl (Nat.le_refl 1) (fun u hu=>by obtain rfl:=List.mem_singleton.1 hu;rfl),?_⟩
  intro β w' hs
  have e0:l++Bx.vint n=l1++[UInt8.ofNat m]:=by rw [<-he,Bx.vint_lt hl]
  have e:(l1++[UInt8.ofNat m]).length=l1.length+1:=by simp
  refine hs.fin [1,2] ⟨rfl,A',c',?_⟩
  rw [e0]
  unfold varF browF
  rw [e]
  rfl
end Go.Proofs.YtfomhhkoamapmaaGreatDoor.Sx
namespace Go.Proofs.YtfomhhkoamapmaaGreatDoor.Sx
open Go Sha
attribute [local irreducible] Calls
theorem z_zn {w w':World} (h:RowKit.Below w.heap.size w w'):Chg None_ w w':=⟨h.os,h.tape,h.output,h.size,fun k hk _=>h.block k hk⟩
end Go.Proofs.YtfomhhkoamapmaaGreatDoor.Sx
namespace Go.Proofs.YtfomhhkoamapmaaGreatDoor.Sx
open Go
attribute [local irreducible] Calls
theorem Bs.holds {w:World} {A:Option Addr} {l:List UInt8} (h:Bs w A l) (c:Nat):Lib.HoldsBytes w (.slice A l.length c) l:=by
 refine ⟨A,c,rfl,fun q=>?_,fun a q i x hx=>?_⟩
 ·subst q
  rcases Nat.eq_zero_or_pos l.length with h0 | h0
  ·exact List.eq_nil_of_length_eq_zero h0
  ·obtain ⟨ad,q,_⟩:=h.2 h0;cases q
 ·have hi:i<l.length:=(List.getElem?_eq_some_iff.1 hx).1
  obtain ⟨ad,q2,hc⟩:=h.2 (by omega)
  rw [q] at q2
  obtain rfl:=Option.some.inj q2
  exact hc i (byte x) (by simp [hx])
theorem z_wp (ls:List (List UInt8)):Lib.join ls []=ls.flatten:=by
 simp [Lib.join,List.intercalate]
 induction ls with
 | nil=>rfl
 | cons a r ih=>
  cases r with
  | nil=>simp
  | cons b r=>simp [ih]
theorem z_uA (ls:List (List UInt8)):Lib.lens ls=ls.flatten.length:=by
 simp [Lib.lens,List.length_flatten]
def readOut (l:List UInt8) (v:Value) (Fs:List Fact):Prop:= ∃A c,v= .slice A l.length c/\l.length<=c/\c<=maxLen/\Fs=[rdoF 1 A l.length (l.map byte)]
theorem z_wM {w w':World} {A:Option Addr} {l:List UInt8} {c:Nat} (hr:Bs w' A l) (hc:Chg None_ w w') (hD: ∀k,(bsF A l).D k->w.heap.size<=k) (h1:l.length<=c) (h2:c<=maxLen):Fin w [] (readOut l) (.slice A l.length c) w':=by
 refine ⟨[rdoF 1 A l.length (l.map byte)],⟨A,c,rfl,h1,h2,rfl⟩,by rw [Un.nil];exact hc,⟨fun g hg=>?_,fun g hg k hk=>?_,List.pairwise_singleton _ _⟩,⟨rfl,trivial⟩,fun g hg k hk=>?_⟩
 ·obtain rfl:=List.mem_singleton.1 hg;exact hr
 ·obtain rfl:=List.mem_singleton.1 hg;exact rd_lt hr k hk
 ·obtain rfl:=List.mem_singleton.1 hg;exact .inr (hD k hk)
theorem z_vF {w w':World} {v:Value} {l:List UInt8} (hf:Lib.FreshBytes w.heap.size w' v l) (hb:RowKit.Below w.heap.size w w'):Fin w [] (readOut l) v w':=by
 obtain ⟨g,cap,zs,rfl,hg,h1,h2,hz,hz2,hbo,hc,_⟩:=hf
 refine z_wM ?_ (z_zn hb) ?_ h1 h2
 ·refine ⟨by simp,fun hp=>⟨_,rfl,fun j u hu=>?_⟩⟩
  rw [List.getElem?_map] at hu
  obtain ⟨x,hx,rfl⟩:=Option.map_eq_some_iff.1 hu
  have hj:j<l.length:=(List.getElem?_eq_some_iff.1 hx).1
  rw [z_bk,Nat.zero_add,hc j (by omega)]
  have hj2:j<zs.length:=by omega
  have h3:(Lib.bytesOf (zs.take l.length))[j]?=some x:=by rw [hbo];exact hx
  rw [Lib.bytesOf,List.getElem?_map,List.getElem?_take,if_pos hj,List.getElem?_eq_getElem hj2] at h3
  have h4:UInt8.ofNat zs[j].toNat=x:=by simpa using h3
  have h5:zs.getD j 0=zs[j]:=by simp [hj2]
  have h6:=hz2 zs[j] (List.getElem_mem hj2)
  have h7:(x.toNat:Int)=zs[j]:=by
   rw [<-h4,UInt8.toNat_ofNat']
   omega
  rw [h5,<-h7]
  rfl
 ·rintro k ⟨_,ad,q,rfl⟩
  obtain rfl:=Option.some.inj q
  exact hg
theorem z_sw (w:World) (b c:Nat) (vs:List Value) (ls:List (List UInt8)) (hP:Rd 1 (some ⟨b,0,none⟩) ls.length vs w) (hH: ∀(i:Nat) v l,vs[i]?=some v->ls[i]?=some l->Lib.HoldsBytes w v l) (h2:2<=ls.length) (hcap:ls.length<=c) (hn:ls.length<=1000) (hlen:ls.flatten.length<=140737488355328):
  Con Tryz.prog z_bV #[.slice (some ⟨b,0,none⟩) ls.length c,.slice none 0 0] w [] (readOut ls.flatten):=by
 refine z_km (Calls.mono (Tryz.bytes_Join_many b 0 ls.length c vs ls (.slice none 0 0) [] w rfl h2 ⟨by have:=hP.1;omega,fun i v hv=>?_,hH⟩ hcap ⟨none,0,rfl,fun _=>rfl,fun a q=>by cases q⟩ (by omega) (by rw [z_uA];simpa using hlen)) ?_)
 ·obtain ⟨ad,q,hc⟩:=hP.2 (by omega)
  obtain rfl:=Option.some.inj q
  exact hc i v hv
 ·rintro e w' ⟨v,rfl,hf,hb⟩
  rw [z_wp] at hf
  exact ⟨v,rfl,z_vF hf hb⟩
end Go.Proofs.YtfomhhkoamapmaaGreatDoor.Sx
namespace Go.Proofs.YtfomhhkoamapmaaGreatDoor.Sx
open Go Sha
attribute [local irreducible] Calls
theorem Mem.lastRo {w:World} {f R X:Fact} {A:Option Addr} {l:List UInt8} (h:Mem w [f,R,X,rdoF 1 A l.length (l.map byte)]):Mem w [f,R,X,bsF A l]:=by
 refine ⟨fun g hg=>?_,fun g hg k hk=>?_,?_⟩
 ·simp only [List.mem_cons,List.not_mem_nil,or_false] at hg
  rcases hg with rfl | rfl | rfl | rfl
  ·exact h.fact _ (by simp)
  ·exact h.fact _ (by simp)
  ·exact h.fact _ (by simp)
  ·exact h.fact (rdoF 1 A l.length (l.map byte)) (by simp)
 ·simp only [List.mem_cons,List.not_mem_nil,or_false] at hg
  rcases hg with rfl | rfl | rfl | rfl
  ·exact h.flt _ (by simp) k hk
  ·exact h.flt _ (by simp) k hk
  ·exact h.flt _ (by simp) k hk
  ·exact h.flt (rdoF 1 A l.length (l.map byte)) (by simp) k hk
 ·have hs:=h.sepf
  simp only [List.pairwise_cons,List.mem_cons,List.not_mem_nil,or_false,forall_eq_or_imp,forall_eq,false_implies,implies_true,List.Pairwise.nil,and_true] at hs ⊢
  obtain ⟨⟨a1,a2,a3⟩,⟨b1,b2⟩,c1⟩:=hs
  exact ⟨⟨a1,a2,fun _=>a3 (.inr rfl)⟩,⟨b1,fun _=>b2 (.inr rfl)⟩,fun _=>c1 (.inr rfl)⟩
theorem z_xy (w:World) (P:Option Addr) (nP cP:Nat) (l:List UInt8) (hj: ∀w',(oldF w).p w'->Con Tryz.prog z_bV #[.slice P nP cP,.slice none 0 0] w' [] (readOut l)) (hn:l.length<=70368744177664) (h1:(oddF 3).p w) (h0:(firstF 1).p w):
  Con Tryz.prog z_op #[.slice P nP cP] w [] fun v Fs=> ∃A' c',v= .slice A' 32 c'/\32<=c'/\c'<=maxLen/\Fs=[browF z_ab A' (Sha.sum l) c']:=by
 have g:=z_nN w (Un [])
 have hs0:Sat (z_eh w (Un [])) Va.z 0 [] [oldF w] w:=z_aS rfl
 have hs1:Sat (z_eh w (Un [])) Va.z 0 [] [oddF 3,oldF w] w:=hs0.sub 0 rfl rfl _ rfl h1 (rd_lt h1)
 refine z_ac (cx:=z_eh w (Un [])) g z_rr rfl rfl (β:=Va.z) [.c (.v (.slice P nP cP))] 0 [] [oddF 3,oldF w] rfl rfl hs1 ?_
 refine ⟨Sha.first.l.map u32,rfl,fun β w' hs j u hu=>?_,?_⟩
 ·have h2:Rd 1 (some ⟨1,0,none⟩) 8 (Sha.first.l.map u32) w':=Rd.old h0 (hs.get 1 rfl)
  obtain ⟨ad,h3,h4⟩:=h2.2 (by decide)
  obtain rfl:=Option.some.inj h3
  exact h4 j u hu
 refine z_aa [] (fun β w' hs=>hj w' (hs.get 1 rfl)) ?_
 rintro v Fs ⟨A1,c1,rfl,h2,h3,rfl⟩
 refine z_aa [] (fun β w' hs=>z_sI w' A1 l.length c1) ?_
 rintro v Fs ⟨bx,rfl,rfl⟩
 refine z_hT g 0 (fun _=>Sha.first.l.map u32) rfl rfl (fun _=>rfl) (fun sb=>?_)
 obtain ⟨q,hq⟩: ∃q,l++ends l.length=q:=⟨_,rfl⟩
 have hsum:Sha.sum l=out ((blks q (q.length/64)).foldl Sha.step Sha.first):=by rw [<-go_eq,<-hq];rfl
 rw [hsum]
 refine z_ca (α:=List UInt8) (ι:=S8) (κ:=S8) g rfl (cv:=[.pointer (some ⟨bx,0,none⟩)]) rfl (by kernel_rfl) 1 (Nat.le_refl 1)
  (fun pre s=>s=pre.foldl Sha.step Sha.first) (fun _=>[]) (fun s=>[stF sb 222 s]) (fun _=>⟨rfl,trivial⟩)
  (fun _ _ _=>False) (fun _=>[]) (fun _=>[]) (fun _=>trivial)
  [bkF bx z_al [.slice A1 l.length c1]] [rdoF 1 A1 l.length (l.map byte)] [oddF 3] ⟨rfl,trivial⟩ (fun g hg=>by obtain rfl:=List.mem_singleton.1 hg;rfl)
  Sha.first rfl (fun β w' hs=>⟨β,Agr.refl _ _,hs.perm [1,2,0,3]⟩) (fun _=>insB)
  (fun xs Fs'=>xs=blks q (q.length/64)/\Fs'=[]) (fun _ Fs'=>Fs'=[])
  (fun l' w' f0 R J Jx hJ0 hJo hRo hY hm=>(z_rl l' w' bx A1 l c1 f0 R J Jx hJ0 hJo hRo hY hn hm.lastRo).mono fun _ Fs h=>by rw [hq] at h;exact h) ?_ ?_ ?_
 ·rintro s pre x args X W S l' bs pn pn' hbs hpre ⟨hx,B,rfl,rfl⟩
  refine ⟨_,rfl,?_⟩
  refine z_aa [1] (fun β w' hs=>z_ti w' sb 222 s B x hx (hs.mem.take (js:=[1,0,2]) rfl)) ?_
  rintro v Fs ⟨rfl,rfl⟩
  refine ⟨Sha.step s x,by show Sha.step s x=(pre++[x]).foldl Sha.step Sha.first;rw [List.foldl_append,hpre];rfl,Ent.mk' trivial rfl (fun β w' hs=>?_)⟩
  exact hs.weaken (List.Sublist.refl _) (List.Sublist.cons_cons _ (List.nil_sublist _))
 ·rintro xs s Fs hpre ⟨rfl,rfl⟩
  refine z_aa [0] (fun β w' hs=>z_qQ w' sb 222 s (hs.mem.take (js:=[0]) rfl)) ?_
  rintro v Fs ⟨A3,c3,rfl,h5,h6,rfl⟩
  intro β w' hs
  refine hs.fin [1] ⟨A3,c3,rfl,h5,h6,?_⟩
  rw [<-hpre]
  rfl
 ·rintro e pre s Fs h _
  exact h.elim
end Go.Proofs.YtfomhhkoamapmaaGreatDoor.Sx
namespace Go.Proofs.YtfomhhkoamapmaaGreatDoor.Sx
open Go
def keyL (l:List UInt8):List UInt8:=if 64<l.length then Sha.sum l else l
def padL (l:List UInt8) (x:UInt8):List UInt8:=(keyL l).map (x^^^ ·)++List.replicate (64 - (keyL l).length) x
def hmL (key text:List UInt8):List UInt8:=Sha.sum (padL key 0x5c++Sha.sum (padL key 0x36++text))
theorem z_sd (l:List UInt8):(Sha.sum l).length=32:=rfl
theorem z_lZ {l:List UInt8}:(keyL l).length<=64:=by
 unfold keyL
 split
 ·rw [z_sd];omega
 ·omega
theorem z_kw (l:List UInt8) (x:UInt8):(padL l x).length=64:=by
 unfold padL
 have:=z_lZ (l:=l)
 simp only [List.length_append,List.length_map,List.length_replicate]
 omega
theorem z_xX (k t:List UInt8):(hmL k t).length=32:=rfl
end Go.Proofs.YtfomhhkoamapmaaGreatDoor.Sx
namespace Go.Proofs.YtfomhhkoamapmaaGreatDoor.Sx
open Go
attribute [local irreducible] Calls
section
variable {cx:Cx} {β:Va} {n:Nat} {env:Env} {H:List Bk} {F:List Fact} {w:World}
theorem Sat.copyBk (h:Sat cx β n H F w) (g:Good cx) (j:Nat) {b o k c e m cs r:Nat} {A:Option Addr} {cells ys:List Value} (hj:nth F j=some (bkF b e cells)) (hr:Rd 1 A m ys w) (h1: ∀u∈ys,u.oneCell'=true)
  {t:TypeId} {i ie:TI} (ty:TypeId) (cst:Array Bool) (hm:min m k=r) (hfit:o+r<=cells.length) (hi:lk cx.tt t=some i:=by rfl) (hd:i.desc= .slice e:=by rfl) (hie:lk cx.tt e=some ie:=by rfl) (hz:ie.size=1:=by rfl):
  ∃w',(builtin .copy #[t,t] ty cst #[.slice (some ⟨b,o,none⟩) k c,.slice A m cs]).run cx.P w= .ok (.value (.int .i64 (r:Int))) w'/\
   Sat cx β n H (putAt F j (bkF b e (putAll cells o (ys.take r)))) w':=by
 subst hm
 have ht:=(g.ti hi).real (d:= .slice _) hd rfl
 have tie:=g.ti hie
 have hrt:=hr.take (k:=min m k) (Nat.min_le_left _ _)
 have hsz:=tie.run_size w
 rw [hz] at hsz
 have hfc:(Builtin.firstCells 1 (min m k) (.slice A m cs)).run cx.P w= .ok (ys.take (min m k)).toArray w:=by
  cases A with
  | none=>
   have h0:min m k=0:=by
    rcases Nat.eq_zero_or_pos (min m k) with q | q
    ·exact q
    ·obtain ⟨ad,q,_⟩:=hrt.2 q;cases q
   rw [h0]
   rfl
  | some ad=>
   have hl:=run_loadCells_list (P:=cx.P) (w:=w) ad (ys.take (min m k)) (fun j u hu=>by
    have hp:0<min m k:=by
     rcases Nat.eq_zero_or_pos (min m k) with q | q
     ·rw [q] at hu;simp at hu
     ·exact q
    obtain ⟨ad',q,hc⟩:=hrt.2 hp
    obtain rfl:=Option.some.inj q
    exact hc j u hu)
   have hlen:(ys.take (min m k)).length=min m k:=by rw [hrt.1,Nat.mul_one]
   rw [hlen] at hl
   simpa [Builtin.firstCells] using hl
 obtain ⟨w',e1,e2⟩:=h.bkSet (us:=ys.take (min m k)) (o:=o) j hj (by rw [hrt.1];omega) (fun u hu=>h1 u (List.take_subset _ _ hu))
 rw [z_bk,Nat.zero_add] at e1
 refine ⟨w',?_,e2⟩
 have hmin:Nat.min m k=min m k:=rfl
 simp [builtin,Builtin.copy_,run_underlying ht,Builtin.lenOf,hsz,hfc,e1,goInt,hmin]
end
theorem bk_rd {b e:Nat} {cells:List Value} {w:World} (h:(bkF b e cells).p w) {k:Nat} (hk:k<=cells.length):Rd 1 (some ⟨b,0,none⟩) k (cells.take k) w:=by
 refine ⟨by rw [List.length_take];omega,fun _=>⟨_,rfl,fun j u hu=>?_⟩⟩
 rw [List.getElem?_take] at hu
 split at hu
 ·rw [z_bk,Nat.zero_add]
  have h':w.heap[b]?=some (.cells cells.toArray e (0,0)):=h
  rw [cell_of_row w b j _ _ _ h']
  simpa using hu
 ·cases hu
theorem bk_bs {b e:Nat} {l:List UInt8} {junk:List Value} {w:World} (h:(bkF b e (l.map byte++junk)).p w):Bs w (some ⟨b,0,none⟩) l:=by
 have:=bk_rd h (k:=l.length) (by simp)
 rwa [List.take_left' (by simp)] at this
theorem mul_c (w:World):Pu Tryz.prog z_oj #[.int .u64 1,.int .u64 64] w (.tuple #[.int .u64 0,.int .u64 64]):=by
 refine pu_of (Calls.mono (Tryz.bits_Mul 1 64 (by decide) (by decide) w) ?_)
 rintro e w' ⟨rfl,rfl⟩
 exact ⟨_,rfl,rfl,Chg.refl _ _⟩
theorem z_yP (w:World) (n:Nat) (hn:n<=281474976710656): ∃cs:List Value,(callFunc 106 #[.int .i64 n]).run Tryz.prog w= .ok (.value (.slice (some ⟨w.heap.size,0,none⟩) n cs.length)) (w.drew.drew.alloc (.cells cs.toArray z_ab))/\n<=cs.length:=by
 obtain ⟨cs,h1,h2,_⟩:=Lib.run_makeNoZero (P:=Tryz.prog) w #[] z_al z_ab ((ok31).real (d:= .slice _) rfl rfl) n hn
 refine ⟨cs.toList,?_,by simpa using h2⟩
 have hx:=run_callFunc_extern (P:=Tryz.prog) (f:=106) (fn:=Tryz.f106) (e:=Extern.BytealgMakeNoZero.makeNoZero #[z_bE] #[z_al]) Tryz.func106 (by decide+kernel) rfl (by rfl) (by rfl) #[.int .i64 n] w
 rw [hx]
 have h1':(Extern.BytealgMakeNoZero.makeNoZero #[z_bE] #[z_al] #[.int .i64 n]).run Tryz.prog w=_:=h1
 rw [h1']
 simp
end Go.Proofs.YtfomhhkoamapmaaGreatDoor.Sx
namespace Go.Proofs.YtfomhhkoamapmaaGreatDoor.Sx
open Go
attribute [local irreducible] Calls
theorem z_hC {α:Type} (a b ys:List α) (h:ys.length<=b.length):putAll (a++b) a.length ys=a++ys++b.drop ys.length:=by
 rw [z_nb _ _ _ (by simp;omega)]
 rw [List.take_left' rfl,List.drop_append]
 simp [show a.length+ys.length - a.length=ys.length by omega]
theorem z_yh (b k:Nat) {m:Nat} (h:m≠k):cutA (some ⟨b,0,none⟩) m k 1=some ⟨b,k,none⟩:=by
 unfold cutA
 rw [if_neg h]
 simp [z_bk]
theorem z_xJ (A:Option Addr) {m:Nat} (h:A=none\/ ∃b o,A=some ⟨b,o,none⟩):cutA A m 0 1=A:=by
 unfold cutA
 split
 ·rfl
 ·rcases h with rfl | ⟨b,o,rfl⟩
  ·rfl
  ·simp [z_bk]
def reps (k:Nat) (x:UInt8):List Value:=(List.replicate k x).map byte
theorem z_gT (k:Nat) (x:UInt8):(reps k x).length=k:=by simp [reps]
theorem z_v8 {k r:Nat} (x:UInt8) (h:r<=k):(reps k x).take r=reps r x:=by
 unfold reps
 rw [<-List.map_take,List.take_replicate,Nat.min_eq_left h]
theorem z_xp (k r:Nat) (x:UInt8):reps k x++reps r x=reps (k+r) x:=by
 unfold reps
 rw [<-List.map_append,List.replicate_append_replicate]
theorem z_sL (k:Nat) (x:UInt8): ∀u∈reps k x,u.oneCell'=true:=z_as _
set_option maxHeartbeats 1000000 in
theorem z_pW (w:World) (B:Option Addr) (cB:Nat) (x:UInt8) (hr:Rd 1 B 1 [byte x] w):
  Con Tryz.prog z_lc #[.slice B 1 cB,.int .i64 64] w [] fun v Fs=> ∃b junk,v= .slice (some ⟨b,0,none⟩) 64 64/\Fs=[bkF b z_ab (reps 64 x++junk)]:=by
 have g:=z_mW w (Un [])
 refine z_ac (cx:=z_fY w (Un [])) g z_pB rfl rfl (β:=Va.z) [.c (.v (.slice B 1 cB)),.c (.v (.int .i64 64))] 0 [] [oldF w] rfl rfl (z_aS rfl) ?_
 refine ⟨1,by decide,64,by decide,?_⟩
 refine z_ah (fun β w' hs=>mul_c w') ?_
 refine ⟨64,by decide,?_⟩
 refine .inr (fun β w' hs=>?_)
 obtain ⟨cs,hrun,hcs⟩:=z_yP w' 64 (by decide)
 have hs1:Sat (z_fY w (Un [])) β 0 [] (bkF w'.heap.size z_ab cs::[oldF w]) (w'.drew.drew.alloc (.cells cs.toArray z_ab)):=by
  refine hs.drew.drew.add (Chg.alloc _ _) _ (heap_alloc_new _ _) (fun k hk=>?_)
  obtain rfl:k=w'.heap.size:=hk
  exact ⟨Nat.le_refl _,by simp⟩
 refine ⟨_,_,hrun,Ret.mk [] _ hs1 ?_⟩
 obtain ⟨b,hb⟩: ∃b,w'.heap.size=b:=⟨_,rfl⟩
 rw [hb]
 clear hs1 hrun hs
 refine ⟨64,64,0,64,64,some ⟨b,0,none⟩,rfl,rfl,rfl,hcs,Nat.le_refl _,Nat.zero_le _,rfl,rfl,z_xJ _ (.inr ⟨b,0,rfl⟩),?_⟩
 refine ⟨[],[bkF b z_ab (reps 1 x++cs.drop 1),oldF w],.c (.v (.int .i64 1)),fun β w' ty hs=>?_,trivial,?_⟩
 ·obtain ⟨w2,q1,q2⟩:=hs.copyBk g 0 rfl (hr.old (hs.get 1 rfl)) (z_sL 1 x) ty (t:=z_al) #[false,false] (r:=1) (k:=64) (m:=1) (c:=64) (cs:=cB) (o:=0) rfl (by omega)
  have e1:putAll cs 0 ([byte x].take 1)=reps 1 x++cs.drop 1:=by
   have:=z_hC [] cs [byte x] (by simp;omega)
   show putAll cs 0 [byte x]=[byte x]++cs.drop 1
   simpa using this
  rw [e1] at q2
  exact ⟨w2,q1,q2⟩
 refine z_ag (ι:=Nat×List Value) 0 (fun i=>[(7,.c (.v (.int .i64 64))),(8,.c (.v (.int .i64 64))),(9,.c (.v (.slice (some ⟨b,0,none⟩) 64 64))),(10,.c (.v (.int .i64 (i.1:Int))))]) (fun _=>[]) (fun i=>[bkF b z_ab (reps i.1 x++i.2),oldF w])
  (fun i=>1<=i.1/\i.1<=64/\64<=i.1+i.2.length) (fun i=>64 - i.1) (1,cs.drop 1) ⟨Nat.le_refl _,by show 1<=64;decide,by simp only [List.length_drop];omega⟩ (Ent.same ⟨rfl,rfl,rfl,rfl,trivial⟩ rfl) g ?_
 rintro ⟨k,junk⟩ ⟨h1,h2,h3⟩
 simp only at h1 h2 h3
 refine BIf.dec (fun hlt=>?_) (fun hge=>?_)
 ·have hlt0:(k:Int)<64:=hlt
  have hk:k<64:=by omega
  obtain ⟨r,hr0⟩: ∃r,min k (64 - k)=r:=⟨_,rfl⟩
  refine ⟨(k:Int),by show min (k:Int) 64=k;omega,?_⟩
  refine z_af g z_ne (by kernel_rfl) [] [] (Sub.of (List.Sublist.refl _) (List.nil_sublist _)) ?_
  refine ⟨64,64,k,64 - k,64 - k,some ⟨b,k,none⟩,rfl,rfl,rfl,Nat.le_refl _,Nat.le_refl _,by omega,rfl,rfl,z_yh b k (by omega),?_⟩
  refine ⟨64,k,0,k,64,some ⟨b,0,none⟩,rfl,rfl,rfl,Nat.le_refl _,by omega,Nat.zero_le _,rfl,rfl,z_xJ _ (.inr ⟨b,0,rfl⟩),?_⟩
  refine ⟨[],[bkF b z_ab (reps (k+r) x++junk.drop r),oldF w],.c (.v (.int .i64 (r:Int))),fun β w' ty hs=>?_,trivial,?_⟩
  ·have hrd:Rd 1 (some ⟨b,0,none⟩) k (reps k x) w':=by
    have:=bk_rd (hs.get 0 rfl) (k:=k) (by simp [z_gT])
    rwa [List.take_left' (z_gT k x)] at this
   obtain ⟨w2,q1,q2⟩:=hs.copyBk g 0 rfl hrd (z_sL k x) ty (t:=z_al) #[false,false] (r:=r) (k:=64 - k) (m:=k) (c:=64 - k) (cs:=64) (o:=k) hr0 (by simp only [List.length_append,z_gT];omega)
   have e1:putAll (reps k x++junk) k ((reps k x).take r)=reps (k+r) x++junk.drop r:=by
    have:=z_hC (reps k x) junk ((reps k x).take r) (by rw [List.length_take,z_gT];omega)
    rw [z_gT] at this
    rw [this,z_v8 x (by omega),z_xp,z_gT]
   rw [e1] at q2
   exact ⟨w2,q1,q2⟩
  refine ⟨Sub.of (List.Sublist.refl _) (List.nil_sublist _),((k+r:Nat):Int),by rw [wrap_i64 (by omega) (by omega)];omega,?_⟩
  exact ⟨(k+r,junk.drop r),⟨by show 1<=k+r;omega,by show k+r<=64;omega,by show 64<=k+r+(junk.drop r).length;rw [List.length_drop];omega⟩,by show 64 - (k+r)<64 - k;omega,Ent.same ⟨rfl,rfl,rfl,rfl,trivial⟩ rfl⟩
 ·have hge0: ¬(k:Int)<64:=hge
  obtain rfl:k=64:=by omega
  intro β w' hs
  exact hs.fin [0] ⟨b,junk,rfl,rfl⟩
def padN (k:List UInt8) (x:UInt8) (i:Nat):List UInt8:=(k.take i).map (x^^^ ·)++List.replicate (64 - i) x
theorem z_tv {k:List UInt8} {x:UInt8} {i:Nat} (h:i<=k.length) (h2:i<=64):(padN k x i).length=64:=by
 unfold padN
 simp only [List.length_append,List.length_map,List.length_take,List.length_replicate]
 omega
theorem z_uw {k:List UInt8} {x:UInt8} {i:Nat} (h:i<k.length) (h2:i<64):(padN k x i)[i]?=some x:=by
 unfold padN
 rw [List.getElem?_append_right (by simp only [List.length_map,List.length_take];omega)]
 simp only [List.length_map,List.length_take]
 rw [List.getElem?_replicate,if_pos (by omega)]
theorem z_sU {k:List UInt8} {x y:UInt8} {i:Nat} (h:k[i]?=some y) (h2:i<64):(padN k x i).set i (x^^^y)=padN k x (i+1):=by
 have hi:i<k.length:=(List.getElem?_eq_some_iff.1 h).1
 unfold padN
 rw [List.set_append_right _ _ (by simp only [List.length_map,List.length_take];omega)]
 simp only [List.length_map,List.length_take]
 rw [show i - min i k.length=0 by omega,show 64 - i=(64 - (i+1))+1 by omega,List.replicate_succ,List.set_cons_zero,List.take_add_one,h]
 simp
theorem z_tu (k:List UInt8) (x:UInt8):padN k x k.length=k.map (x^^^ ·)++List.replicate (64 - k.length) x:=by
 unfold padN
 rw [List.take_length]
theorem Con.real {P:Program} {k:FuncId} {args:Array Value} {w:World} {Gs:List Fact} {R:Value->List Fact->Prop} (h:Con P k args w Gs R):Con P k args w Gs (fun v Fs=>R v Fs/\ ∃w',Mem w' Fs):=
 Calls.mono h fun _ w' ⟨v,he,Fs,hR,hc,hm,ho,hD⟩=>⟨v,he,Fs,⟨hR,w',hm⟩,hc,hm,ho,hD⟩
theorem z_xC (k:List UInt8) (x:UInt8):(padN k x 0).map byte=reps 64 x:=by simp [padN,reps]
set_option maxHeartbeats 1000000 in
theorem pad_c (w:World) (A:Option Addr) (l:List UInt8) (c:Nat) (x:UInt8) (hr:Bs w A l) (hn:l.length<=1000000) (h1:(oddF 3).p w) (h0:(firstF 1).p w):
  Con Tryz.prog z_pM #[.slice A l.length c,byte x] w [] fun v Fs=> ∃b junk,v= .slice (some ⟨b,0,none⟩) 64 64/\Fs=[bkF b z_ab ((padL l x).map byte++junk)]:=by
 have g:=z_p7 w (Un [])
 refine z_ac (cx:=z_iw w (Un [])) g z_uh rfl rfl (β:=Va.z) [.c (.v (.slice A l.length c)),.c (.v (byte x))] 0 [] [oldF w] rfl rfl (z_aS rfl) ?_
 refine BIf.dec (fun hlt=>?_) (fun hge=>?_)
 ·have hlt0:(64:Int)<(l.length:Int):=hlt
  intro b0
  obtain ⟨k,hks⟩: ∃k,Sha.sum l=k:=⟨_,rfl⟩
  have hk:keyL l=k:=by unfold keyL;rw [if_pos (by omega)];exact hks
  have hk64:k.length<=64:=by rw [<-hk];exact z_lZ
  refine z_aa [] (R:=fun v Fs=>(∃A' c',v= .slice A' k.length c'/\Fs=[browF z_ab A' k c'])/\ ∃w',Mem w' Fs) (fun β w' hs=>((z_zK w' (some ⟨b0,0,none⟩) A 1 c l (z_aj (hs.get 0 rfl)) (Rd.old hr (hs.get 1 rfl)) (by omega) (Rd.old h1 (hs.get 1 rfl)) (Rd.old h0 (hs.get 1 rfl))).mono (by rintro v Fs ⟨A',c',rfl,_,_,rfl⟩;exact ⟨A',c',by rw [<-hks];rfl,by rw [hks]⟩)).real) ?_
  rintro v Fs ⟨⟨A2,c2,rfl,rfl⟩,w9,hm9⟩
  have hkr: ∀ {w'},(browF z_ab A2 k c2).p w'->Bs w' A2 k:=fun h=>z_aj h
  have hka:0<k.length-> ∃ad,A2=some ad:=fun h=>Bs.addr (hkr (hm9.fact _ List.mem_cons_self)) h
  intro b1
  refine z_aa [] (fun β w' hs=>z_pW w' (some ⟨b1,0,none⟩) 1 x (z_aj (hs.get 0 rfl))) ?_
  rintro v Fs ⟨b,junk,rfl,rfl⟩
  refine z_ag (ι:=Nat) 0 (fun i=>[(17,.c (.v (.slice A2 k.length c2))),(18,.c (.v (.int .i64 (k.length:Int)))),(19,.c (.v (.int .i64 (i:Int)))),(5,.c (.v (.slice (some ⟨b,0,none⟩) 64 64)))]) (fun _=>[]) (fun i=>[bkF b z_ab ((padN k x i).map byte++junk),browF z_ab A2 k c2])
   (fun i=>i<=k.length) (fun i=>k.length - i) 0 (Nat.zero_le _) (Ent.mk' ⟨rfl,rfl,rfl,rfl,trivial⟩ rfl (fun β w' hs=>by rw [z_xC];exact hs.perm [0,2])) g ?_
  intro i hi
  refine BIf.dec (fun hlt2=>?_) (fun hge2=>?_)
  ·have hlt0:(i:Int)<(k.length:Int):=hlt2
   have hik:i<k.length:=by omega
   obtain ⟨y,hy,_⟩:=at_lt hik
   obtain ⟨ad,hA⟩:=hka (by omega)
   refine ⟨ad,i,hA,rfl,hik,byte y,fun β w' hs=>by
    have h:=hkr (hs.get 1 rfl)
    rw [hA] at h
    exact Rd.cell1 h (by rw [List.getElem?_map,hy];rfl),?_⟩
   refine ⟨⟨b,0,none⟩,i,rfl,rfl,by omega,byte x,fun β w' hs=>by
    have h:=bk_bs (hs.get 0 rfl)
    exact Rd.cell1 h (by rw [List.getElem?_map,z_uw hik (by omega)];rfl),_,xor8 x y,?_⟩
   refine ⟨⟨b,0,none⟩,i,rfl,rfl,by omega,[bkF b z_ab ((padN k x (i+1)).map byte++junk),browF z_ab A2 k c2],fun β w' hs=>?_,?_⟩
   ·have hpl:=z_tv (k:=k) (x:=x) (i:=i) (by omega) (by omega)
    obtain ⟨w2,q1,q2⟩:=hs.bkSet 0 (o:=i) (us:=[byte (x^^^y)]) rfl (by simp only [List.length_append,List.length_map,hpl,List.length_singleton];omega) (fun u hu=>by obtain rfl:=List.mem_singleton.1 hu;rfl)
    have e:putAll ((padN k x i).map byte++junk) i [byte (x^^^y)]=(padN k x (i+1)).map byte++junk:=by
     rw [putAll,putAll,z_aT,List.set_append_left _ _ (by rw [List.length_map,hpl];omega),<-z_sU hy (by omega),List.map_set]
    rw [e] at q2
    have q1':(storeCells ((⟨b,0,none⟩:Addr).add (i*1)) [byte (x^^^y)] 0).run (z_iw w (Un [])).P w'= .ok () w2:=by rw [Nat.mul_one];exact q1
    exact ⟨w2,q1',q2⟩
   ·refine ⟨((i+1:Nat):Int),by rw [wrap_i64 (by omega) (by omega)];rfl,?_⟩
    exact ⟨i+1,hik,by omega,Ent.same ⟨rfl,rfl,rfl,rfl,trivial⟩ rfl⟩
  ·have hge0: ¬(i:Int)<(k.length:Int):=hge2
   obtain rfl:i=k.length:=by omega
   intro β w' hs
   refine hs.fin [0] ⟨b,junk,rfl,?_⟩
   rw [z_tu]
   unfold padL
   rw [hk]
   rfl
 ·have hge0: ¬(64:Int)<(l.length:Int):=hge
  obtain ⟨k,hks⟩: ∃k,l=k:=⟨_,rfl⟩
  have hk:keyL l=k:=by unfold keyL;rw [if_neg (by omega)];exact hks
  have hk64:k.length<=64:=by rw [<-hk];exact z_lZ
  rw [hks] at hr
  have hlk:l.length=k.length:=by rw [hks]
  rw [hlk]
  have hkr: ∀ {w'},(oldF w).p w'->Bs w' A k:=fun h=>Rd.old hr h
  have hka:0<k.length-> ∃ad,A=some ad:=fun h=>hr.addr h
  intro b1
  refine z_aa [] (fun β w' hs=>z_pW w' (some ⟨b1,0,none⟩) 1 x (z_aj (hs.get 0 rfl))) ?_
  rintro v Fs ⟨b,junk,rfl,rfl⟩
  refine z_ag (ι:=Nat) 0 (fun i=>[(17,.c (.v (.slice A k.length c))),(18,.c (.v (.int .i64 (k.length:Int)))),(19,.c (.v (.int .i64 (i:Int)))),(5,.c (.v (.slice (some ⟨b,0,none⟩) 64 64)))]) (fun _=>[]) (fun i=>[bkF b z_ab ((padN k x i).map byte++junk),oldF w])
   (fun i=>i<=k.length) (fun i=>k.length - i) 0 (Nat.zero_le _) (Ent.mk' ⟨rfl,rfl,rfl,rfl,trivial⟩ rfl (fun β w' hs=>by rw [z_xC];exact hs.perm [0,2])) g ?_
  intro i hi
  refine BIf.dec (fun hlt2=>?_) (fun hge2=>?_)
  ·have hlt0:(i:Int)<(k.length:Int):=hlt2
   have hik:i<k.length:=by omega
   obtain ⟨y,hy,_⟩:=at_lt hik
   obtain ⟨ad,hA⟩:=hka (by omega)
   refine ⟨ad,i,hA,rfl,hik,byte y,fun β w' hs=>by
    have h:=hkr (hs.get 1 rfl)
    rw [hA] at h
    exact Rd.cell1 h (by rw [List.getElem?_map,hy];rfl),?_⟩
   refine ⟨⟨b,0,none⟩,i,rfl,rfl,by omega,byte x,fun β w' hs=>by
    have h:=bk_bs (hs.get 0 rfl)
    exact Rd.cell1 h (by rw [List.getElem?_map,z_uw hik (by omega)];rfl),_,xor8 x y,?_⟩
   refine ⟨⟨b,0,none⟩,i,rfl,rfl,by omega,[bkF b z_ab ((padN k x (i+1)).map byte++junk),oldF w],fun β w' hs=>?_,?_⟩
   ·have hpl:=z_tv (k:=k) (x:=x) (i:=i) (by omega) (by omega)
    obtain ⟨w2,q1,q2⟩:=hs.bkSet 0 (o:=i) (us:=[byte (x^^^y)]) rfl (by simp only [List.length_append,List.length_map,hpl,List.length_singleton];omega) (fun u hu=>by obtain rfl:=List.mem_singleton.1 hu;rfl)
    have e:putAll ((padN k x i).map byte++junk) i [byte (x^^^y)]=(padN k x (i+1)).map byte++junk:=by
     rw [putAll,putAll,z_aT,List.set_append_left _ _ (by rw [List.length_map,hpl];omega),<-z_sU hy (by omega),List.map_set]
    rw [e] at q2
    have q1':(storeCells ((⟨b,0,none⟩:Addr).add (i*1)) [byte (x^^^y)] 0).run (z_iw w (Un [])).P w'= .ok () w2:=by rw [Nat.mul_one];exact q1
    exact ⟨w2,q1',q2⟩
   ·refine ⟨((i+1:Nat):Int),by rw [wrap_i64 (by omega) (by omega)];rfl,?_⟩
    exact ⟨i+1,hik,by omega,Ent.same ⟨rfl,rfl,rfl,rfl,trivial⟩ rfl⟩
  ·have hge0: ¬(i:Int)<(k.length:Int):=hge2
   obtain rfl:i=k.length:=by omega
   intro β w' hs
   refine hs.fin [0] ⟨b,junk,rfl,?_⟩
   rw [z_tu]
   unfold padL
   rw [hk]
   rfl
end Go.Proofs.YtfomhhkoamapmaaGreatDoor.Sx
namespace Go.Proofs.YtfomhhkoamapmaaGreatDoor.Sx
open Go
attribute [local irreducible] Calls
theorem z_xv {size:Nat} {A:Option Addr} {k:Nat} {xs:List Value} {w:World} (h:(rdoF size A k xs).p w):Rd size A k xs w:=h
theorem browRoD {e:Nat} {A:Option Addr} {l:List UInt8} {c:Nat} {w:World} (h:(browF e A l c).p w): ∀k,(rdoF 1 A l.length (l.map byte)).D k->(browF e A l c).D k:=by
 rintro k ⟨hk,ad,q,rfl⟩
 have hl:0<l.length:=by
  have:0<l.length*1:=hk
  omega
 have q':A=some ad:=q
 rcases h.2 with ⟨he,h0⟩ | ⟨g,cap,cur,he,_⟩
 ·omega
 ·have hA:A=some ⟨g,0,none⟩:=by injection he
  rw [q'] at hA
  obtain rfl:=Option.some.inj hA
  show Value.ownBlock (.slice A l.length c)=_
  rw [q']
  rfl
inductive Recs (w':World):List Fact->List Fact->Prop
 | nil:Recs w' [] []
 | cons {f g:Fact} {Fs Gs:List Fact} (h:g.own=true/\(f.p w'->g.p w')/\ ∀k,g.D k->f.D k) (r:Recs w' Fs Gs):Recs w' (f::Fs) (g::Gs)
theorem Fin.recast {w:World} {Gs:List Fact} {R R':Value->List Fact->Prop} {v:Value} {w':World} (h:Fin w Gs R v w')
  (hr: ∀Fs,R v Fs->(∀f∈Fs,f.p w')-> ∃Fs',R' v Fs'/\Recs w' Fs Fs'):Fin w Gs R' v w':=by
 obtain ⟨Fs,h1,h2,h3,h4,h5⟩:=h
 obtain ⟨Fs',q1,q2⟩:=hr Fs h1 h3.fact
 have key: ∀ {Fs Fs':List Fact},Recs w' Fs Fs'->Mem w' Fs->Owns Fs->Mem w' Fs'/\Owns Fs'/\ ∀g∈Fs',∃f∈Fs,∀k,g.D k->f.D k:=by
  intro Fs Fs' hf
  induction hf with
  | nil=>intro _ _;exact ⟨⟨fun _ q=>(by cases q),fun _ q=>(by cases q),List.Pairwise.nil⟩,trivial,fun _ q=>(by cases q)⟩
  | @cons f g Fs Fs' hfg hrest ih=>
   intro hm ho
   obtain ⟨i1,i2,i3⟩:=ih ⟨fun x hx=>hm.fact x (List.mem_cons_of_mem _ hx),fun x hx=>hm.flt x (List.mem_cons_of_mem _ hx),(List.pairwise_cons.1 hm.sepf).2⟩ ho.2
   refine ⟨⟨fun x hx=>?_,fun x hx k hk=>?_,List.pairwise_cons.2 ⟨fun x hx _ k hk hk'=>?_,i1.sepf⟩⟩,⟨hfg.1,i2⟩,fun x hx=>?_⟩
   ·rcases List.mem_cons.1 hx with rfl | hx
    ·exact hfg.2.1 (hm.fact f List.mem_cons_self)
    ·exact i1.fact x hx
   ·rcases List.mem_cons.1 hx with rfl | hx
    ·exact hm.flt f List.mem_cons_self k (hfg.2.2 k hk)
    ·exact i1.flt x hx k hk
   ·obtain ⟨y,hy,hyd⟩:=i3 x hx
    exact (List.pairwise_cons.1 hm.sepf).1 y hy (.inl ho.1) k (hfg.2.2 k hk) (hyd k hk')
   ·rcases List.mem_cons.1 hx with rfl | hx
    ·exact ⟨f,List.mem_cons_self,hfg.2.2⟩
    ·obtain ⟨y,hy,hyd⟩:=i3 x hx
     exact ⟨y,List.mem_cons_of_mem _ hy,hyd⟩
 obtain ⟨k1,k2,k3⟩:=key q2 h3 h4
 exact ⟨Fs',q1,h2,k1,k2,fun g hg k hk=>by obtain ⟨f,hf,hfd⟩:=k3 g hg;exact h5 f hf k (hfd k hk)⟩
theorem Un.app {A B:List Fact} {k:Nat}:Un (A++B) k↔Un A k\/Un B k:=by
 unfold Un
 constructor
 ·rintro ⟨g,hg,hk⟩
  rcases List.mem_append.1 hg with h | h
  ·exact .inl ⟨g,h,hk⟩
  ·exact .inr ⟨g,h,hk⟩
 ·rintro (⟨g,hg,hk⟩ | ⟨g,hg,hk⟩)
  ·exact ⟨g,List.mem_append_left _ hg,hk⟩
  ·exact ⟨g,List.mem_append_right _ hg,hk⟩
theorem Un.cons {x:Fact} {B:List Fact} {k:Nat}:Un (x::B) k↔x.D k\/Un B k:=by
 unfold Un
 constructor
 ·rintro ⟨g,hg,hk⟩
  rcases List.mem_cons.1 hg with rfl | h
  ·exact .inl hk
  ·exact .inr ⟨g,h,hk⟩
 ·rintro (hk | ⟨g,hg,hk⟩)
  ·exact ⟨x,List.mem_cons_self,hk⟩
  ·exact ⟨g,List.mem_cons_of_mem _ hg,hk⟩
theorem sep_mid {A B:List Fact} {x:Fact} {w:World}:(sepF (A++x::B)).p w↔x.p w/\(sepF (A++B)).p w/\ ∀k,x.D k-> ¬Un (A++B) k:=by
 show ((∀f∈A++x::B,f.p w)/\(A++x::B).Pairwise _)↔x.p w/\((∀f∈A++B,f.p w)/\(A++B).Pairwise _)/\_
 rw [List.pairwise_append,List.pairwise_cons,List.pairwise_append]
 constructor
 ·rintro ⟨h1,h2,⟨h3,h4⟩,h5⟩
  refine ⟨h1 x (by simp),⟨fun f hf=>h1 f ?_,h2,h4,fun a ha b hb=>h5 a ha b (List.mem_cons_of_mem _ hb)⟩,fun k hk q=>?_⟩
  ·rcases List.mem_append.1 hf with h | h
   ·exact List.mem_append_left _ h
   ·exact List.mem_append_right _ (List.mem_cons_of_mem _ h)
  ·rcases Un.app.1 q with ⟨g,hg,hk'⟩ | ⟨g,hg,hk'⟩
   ·exact h5 g hg x List.mem_cons_self k hk' hk
   ·exact h3 g hg k hk hk'
 ·rintro ⟨h1,⟨h2,h3,h4,h5⟩,h6⟩
  refine ⟨fun f hf=>?_,h3,⟨fun g hg k hk hk'=>h6 k hk (Un.app.2 (.inr ⟨g,hg,hk'⟩)),h4⟩,fun a ha b hb k hk hk'=>?_⟩
  ·rcases List.mem_append.1 hf with h | h
   ·exact h2 f (List.mem_append_left _ h)
   ·rcases List.mem_cons.1 h with rfl | h
    ·exact h1
    ·exact h2 f (List.mem_append_right _ h)
  ·rcases List.mem_cons.1 hb with rfl | hb
   ·exact h6 k hk' (Un.app.2 (.inl ⟨a,ha,hk⟩))
   ·exact h5 a ha b hb k hk hk'
section
variable {cx:Cx} {β:Va} {n:Nat} {H:List Bk} {F:List Fact} {w:World}
theorem Sat.blur (h:Sat cx β n H F w) (i j:Nat) {A B:List Fact} {x:Fact} (hi:nth F i=some x) (hj:nth F j=some (sepF (A++B))) (hx:x.own=true) (hne:i≠j):Sat cx β n H (sepF (A++x::B)::dropIx [i,j] 0 F) w:=by
 have h1:=h.get i hi
 have h2:=h.get j hj
 have ap:=h.apart (i:=i) (j:=j) (by rw [<-z_aX];exact hi) (by rw [<-z_aX];exact hj) hne (.inl hx)
 have htk:takeIx F [i,j]=[x,sepF (A++B)]:=by simp only [takeIx,hi,hj]
 have hin: ∀k,Un (A++x::B) k->x.D k\/Un (A++B) k:=by
  intro k hk
  rcases Un.app.1 hk with hk | hk
  ·exact .inr (Un.app.2 (.inl hk))
  ·rcases Un.cons.1 hk with hk | hk
   ·exact .inl hk
   ·exact .inr (Un.app.2 (.inr hk))
 refine h.swap [i,j] (by rw [htk];exact ⟨hx,rfl,trivial⟩) (Fs:=[sepF (A++x::B)]) (Chg.refl _ _) ⟨fun f hf=>?_,fun f hf k hk=>?_,List.pairwise_singleton _ _⟩ (fun f hf k hk=>?_)
 ·obtain rfl:=List.mem_singleton.1 hf
  exact sep_mid.2 ⟨h1,h2,ap⟩
 ·obtain rfl:=List.mem_singleton.1 hf
  rcases hin k hk with q | q
  ·exact h.getLt i hi k q
  ·exact h.getLt j hj k q
 ·obtain rfl:=List.mem_singleton.1 hf
  rw [htk]
  rcases hin k hk with q | q
  ·exact .inl ⟨x,List.mem_cons_self,q⟩
  ·exact .inl ⟨_,List.mem_cons_of_mem _ List.mem_cons_self,q⟩
end
end Go.Proofs.YtfomhhkoamapmaaGreatDoor.Sx
namespace Go.Proofs.YtfomhhkoamapmaaGreatDoor.Sx
open Go
attribute [local irreducible] Calls
theorem z_uu (w:World) (b:Nat) (A1 A2:Option Addr) (l1 l2:List UInt8) (c1 c2:Nat) (hP:Rd 1 (some ⟨b,0,none⟩) 2 [.slice A1 l1.length c1,.slice A2 l2.length c2] w) (h1:Bs w A1 l1) (h2:Bs w A2 l2) (hn:l1.length+l2.length<=100000000):
  Con Tryz.prog z_bV #[.slice (some ⟨b,0,none⟩) 2 2,.slice none 0 0] w [] (readOut (l1++l2)):=by
 have h:=z_sw w b 2 [.slice A1 l1.length c1,.slice A2 l2.length c2] [l1,l2] hP (fun i v l hv hl=>by
  match i with
  | 0=>cases hv;cases hl;exact Bs.holds h1 c1
  | 1=>cases hv;cases hl;exact Bs.holds h2 c2
  | n+2=>simp at hv) (Nat.le_refl 2) (Nat.le_refl 2) (by show 2<=1000;decide) (by simp;omega)
 have e:[l1,l2].flatten=l1++l2:=by simp
 rw [e] at h
 exact h
theorem z_wD (w:World) (P A:Option Addr) (cP c:Nat) (l:List UInt8) (hP:Rd 1 P 1 [.slice A l.length c] w) (hr:Bs w A l) (hn:l.length<=100000000):
  Con Tryz.prog z_bV #[.slice P 1 cP,.slice none 0 0] w [] (readOut l):=by
 refine Calls.mono (z_vJ w P A cP c l hP hr (by omega)) ?_
 rintro e w' ⟨v,rfl,hf⟩
 refine ⟨v,rfl,hf.recast ?_⟩
 rintro Fs ⟨A',c',rfl,q1,q2,rfl⟩ hp
 exact ⟨[rdoF 1 A' l.length (l.map byte)],⟨A',c',rfl,q1,q2,rfl⟩,.cons ⟨rfl,fun h=>z_aj h,browRoD (hp _ List.mem_cons_self)⟩ .nil⟩
theorem z_zh (w:World) (A P:Option Addr) (key text:List UInt8) (c nP cP:Nat) (hr:Bs w A key) (hk:key.length<=1000000) (ht:text.length<=1000000) (hj: ∀w',(oldF w).p w'->Con Tryz.prog z_bV #[.slice P nP cP,.slice none 0 0] w' [] (readOut text)) (h1:(oddF 3).p w) (h0:(firstF 1).p w):
  Con Tryz.prog z_pK #[.slice A key.length c,.slice P nP cP] w [] fun v Fs=> ∃A' c',v= .slice A' 32 c'/\32<=c'/\c'<=maxLen/\Fs=[browF z_ab A' (hmL key text) c']:=by
 have g:=z_qq w (Un [])
 refine z_ac (cx:=z_o1 w (Un [])) g z_tE rfl rfl (β:=Va.z) [.c (.v (.slice A key.length c)),.c (.v (.slice P nP cP))] 0 [] [oldF w] rfl rfl (z_aS rfl) ?_
 refine z_aa [] (fun β w' hs=>pad_c w' A key c 0x36 (Rd.old hr (hs.get 0 rfl)) hk (Rd.old h1 (hs.get 0 rfl)) (Rd.old h0 (hs.get 0 rfl))) ?_
 rintro v Fs ⟨p1,j1,rfl,rfl⟩
 refine z_aa [] (fun β w' hs=>hj w' (hs.get 1 rfl)) ?_
 rintro v Fs ⟨A1,c1,rfl,_,_,rfl⟩
 intro b1
 have l64: ∀x,(padL key x).length=64:=z_kw key
 refine z_aa [] (fun β w' hs=>z_xy w' (some ⟨b1,0,none⟩) 2 2 (padL key 0x36++text) (fun w2 ho=>by
  have q:=z_uu w2 b1 (some ⟨p1,0,none⟩) A1 (padL key 0x36) text 64 c1 (by rw [l64];exact Rd.old (z_aj (hs.get 0 rfl)) ho) (Rd.old (bk_bs (hs.get 2 rfl)) ho) (Rd.old (z_xv (hs.get 1 rfl)) ho) (by rw [l64];omega)
  exact q) (by rw [List.length_append,l64];omega) (Rd.old h1 (hs.get 3 rfl)) (Rd.old h0 (hs.get 3 rfl))) ?_
 rintro v Fs ⟨A2,c2,rfl,_,_,rfl⟩
 refine z_aa [] (fun β w' hs=>pad_c w' A key c 0x5c (Rd.old hr (hs.get 4 rfl)) hk (Rd.old h1 (hs.get 4 rfl)) (Rd.old h0 (hs.get 4 rfl))) ?_
 rintro v Fs ⟨p2,j2,rfl,rfl⟩
 intro b2
 have ls:(Sha.sum (padL key 0x36++text)).length=32:=z_sd _
 refine z_aa [] (fun β w' hs=>z_xy w' (some ⟨b2,0,none⟩) 2 2 (padL key 0x5c++Sha.sum (padL key 0x36++text)) (fun w2 ho=>by
  have q:=z_uu w2 b2 (some ⟨p2,0,none⟩) A2 (padL key 0x5c) (Sha.sum (padL key 0x36++text)) 64 c2 (by rw [l64,ls];exact Rd.old (z_aj (hs.get 0 rfl)) ho) (Rd.old (bk_bs (hs.get 1 rfl)) ho) (Rd.old (z_aj (hs.get 2 rfl)) ho) (by rw [l64,ls];decide)
  exact q) (by rw [List.length_append,l64,ls];decide) (Rd.old h1 (hs.get 6 rfl)) (Rd.old h0 (hs.get 6 rfl))) ?_
 rintro v Fs ⟨A3,c3,rfl,h5,h6,rfl⟩
 intro β w' hs
 exact hs.fin [0] ⟨A3,c3,rfl,h5,h6,rfl⟩
structure TA where
 k:Option Addr
 t:Option Addr
 l:Option Addr
 m:Option Addr
 kc:Nat
 tc:Nat
 lc:Nat
 mc:Nat
def ints (l:List Nat):List Value:=l.map fun (n:Nat)=>Value.int .i64 (n:Int)
def termV (t:Bx.Term) (a:TA):List Value:=[.int .i64 t.kind,.slice a.k t.key.length a.kc,.slice a.t t.text.length a.tc,.int .i64 t.rounds,.slice a.l t.list.length a.lc,.slice a.m t.mask.length a.mc]
def termS (t:Bx.Term) (a:TA):List SL:=[.v (.int .i64 t.kind),.v (.slice a.k t.key.length a.kc),.v (.slice a.t t.text.length a.tc),.v (.int .i64 t.rounds),.v (.slice a.l t.list.length a.lc),.v (.slice a.m t.mask.length a.mc)]
structure TRd (t:Bx.Term) (a:TA) (w:World):Prop where
 hk:Bs w a.k t.key
 ht:Bs w a.t t.text
 hl:Rd 1 a.l t.list.length (ints t.list) w
 hm:Bs w a.m t.mask
structure TSz (t:Bx.Term):Prop where
 kind:t.kind<1000
 rounds:t.rounds<1000
 key:t.key.length<=1000000
 text:t.text.length<=1000000
 list:t.list.length<=10000
 nums: ∀n∈t.list,n<1000000
 mask:t.mask.length<=1000000
theorem z_on: ∀(l:List Nat),(∀n∈l,n<4611686018427387904)->(l.flatMap Bx.vint).length<=9*l.length
 | [],_=>by simp
 | a::r,h=>by
  have h1:=z_rc (h a List.mem_cons_self)
  have h2:=z_on r (fun n hn=>h n (List.mem_cons_of_mem _ hn))
  rw [List.flatMap_cons,List.length_append,List.length_cons]
  omega
theorem z_q6 {l:List Nat} {k x:Nat} (h:l[k]?=some x):(l.take (k+1)).flatMap Bx.vint=(l.take k).flatMap Bx.vint++Bx.vint x:=by
 obtain ⟨hk,rfl⟩:=List.getElem?_eq_some_iff.1 h
 rw [List.take_succ_eq_append_getElem hk,List.flatMap_append,List.flatMap_singleton]
theorem z_qx {l:List Nat} {k x:Nat} (h:l[k]?=some x):(ints l)[k]?=some (.int .i64 (x:Int)):=by
 simp [ints,h]
structure PrS where
 k:Nat
 A:Option Addr
 c:Nat
def heads5 (t:Bx.Term):List Nat:=[t.kind,t.rounds,t.key.length,t.text.length,t.list.length]
theorem z_x1 (w:World) (t:Bx.Term) (a:TA) (hr:TRd t a w) (hs:TSz t):Pu Tryz.prog z_iD #[.agg (termV t a).toArray] w (.string ⟨(Bx.print t).toArray⟩):=by
 have g:=z_li w (Un [])
 have h5: ∀n∈heads5 t,n<4611686018427387904:=by
  have:=hs.kind;have:=hs.rounds;have:=hs.key;have:=hs.text;have:=hs.list
  intro n hn
  simp only [heads5,List.mem_cons,List.not_mem_nil,or_false] at hn
  rcases hn with rfl | rfl | rfl | rfl | rfl<;>omega
 have h6: ∀n∈t.list,n<4611686018427387904:=fun n hn=>by have:=hs.nums n hn;omega
 refine z_ac (cx:=z_hI w (Un [])) g z_n0 rfl rfl (β:=Va.z) [.agg (termS t a)] 0 [] [oldF w] rfl rfl (z_aS rfl) ?_
 intro b5
 refine z_hT g 1 (fun _=>[.slice none 0 0]) rfl rfl (fun _=>rfl) (fun b=>?_)
 refine z_ag (ι:=PrS) 2 (fun i=>[(23,.c (.v (.slice (some ⟨b5,0,none⟩) 5 5))),(24,.c (.v (.int .i64 5))),(25,.c (.v (.int .i64 i.k))),(1,.c (.p 0 0)),(3,.c (.v (.pointer (some ⟨b,0,none⟩)))),(4,.fn (.func z_co) [] [.v (.pointer (some ⟨b,0,none⟩))])]) (fun _=>[⟨0,z_bm,termS t a⟩])
  (fun i=>varF b i.A (((heads5 t).take i.k).flatMap Bx.vint) i.c++[rowF z_bE 1 (.slice (some ⟨b5,0,none⟩) 5 5) 5 (ints (heads5 t)),oldF w])
  (fun i=>i.k<=5) (fun i=>5 - i.k) ⟨0,none,0⟩ (Nat.zero_le _) (Ent.mk' ⟨rfl,rfl,rfl,rfl,rfl,rfl,trivial⟩ rfl ?_) g ?_
 ·intro β w' hs
  exact (hs.nilRow z_ab 1).perm [1,0,2,3]
 rintro ⟨k,A1,c1⟩ hk
 simp only at hk
 have hb1:(((heads5 t).take k).flatMap Bx.vint).length<=45:=by
  have:=z_on ((heads5 t).take k) (fun n hn=>h5 n (List.take_subset _ _ hn))
  have h7:((heads5 t).take k).length<=5:=by rw [List.length_take];show min k 5<=5;omega
  omega
 refine BIf.dec (fun hlt=>?_) (fun hge=>?_)
 ·have hlt0:(k:Int)<5:=hlt
  have hkl:k<(heads5 t).length:=by show k<5;omega
  obtain ⟨x,hx,hxm⟩:=at_lt hkl
  have hu:=z_qx hx
  refine ⟨⟨b5,0,none⟩,k,rfl,rfl,by omega,_,fun β w' hs=>Rd.cell1 (z_aj (hs.get 2 rfl)) hu,?_⟩
  refine z_aa [0,1] (fun β w' hs=>z_uC w' b x A1 (((heads5 t).take k).flatMap Bx.vint) c1 (h5 _ hxm) (by omega) (hs.mem.take (js:=[0,1]) rfl)) ?_
  rintro v Fs ⟨rfl,A2,c2,rfl⟩
  refine ⟨((k+1:Nat):Int),by rw [wrap_i64 (by omega) (by omega)];rfl,?_⟩
  refine ⟨⟨k+1,A2,c2⟩,by show k+1<=5;omega,by show 5 - (k+1)<5 - k;omega,Ent.mk' ⟨rfl,rfl,rfl,rfl,rfl,rfl,trivial⟩ rfl ?_⟩
  intro β w' hs
  show Sat _ _ _ _ (varF b A2 (((heads5 t).take (k+1)).flatMap Bx.vint) c2++_) _
  rw [z_q6 hx]
  exact hs
 have hge0: ¬(k:Int)<5:=hge
 have hke:k=5:=by omega
 subst hke
 have hpre:((heads5 t).take 5).flatMap Bx.vint=(heads5 t).flatMap Bx.vint:=rfl
 rw [hpre] at hb1
 refine z_ag (ι:=PrS) 2 (fun i=>[(34,.c (.v (.slice a.l t.list.length a.lc))),(35,.c (.v (.int .i64 t.list.length))),(36,.c (.v (.int .i64 i.k))),(1,.c (.p 0 0)),(3,.c (.v (.pointer (some ⟨b,0,none⟩)))),(4,.fn (.func z_co) [] [.v (.pointer (some ⟨b,0,none⟩))])]) (fun _=>[⟨0,z_bm,termS t a⟩])
  (fun i=>varF b i.A ((heads5 t).flatMap Bx.vint++(t.list.take i.k).flatMap Bx.vint) i.c++[oldF w])
  (fun i=>i.k<=t.list.length) (fun i=>t.list.length - i.k) ⟨0,A1,c1⟩ (Nat.zero_le _) (Ent.mk' ⟨rfl,rfl,rfl,rfl,rfl,rfl,trivial⟩ rfl ?_) g ?_
 ·intro β w' hs
  have e:(heads5 t).flatMap Bx.vint++(t.list.take 0).flatMap Bx.vint=(heads5 t).flatMap Bx.vint:=by simp
  show Sat _ _ _ _ (varF b A1 ((heads5 t).flatMap Bx.vint++(t.list.take 0).flatMap Bx.vint) c1++_) _
  rw [e]
  exact hs.perm [0,1,3]
 rintro ⟨k,A2,c2⟩ hk
 simp only at hk
 have hll:=hs.list
 have hb2:((heads5 t).flatMap Bx.vint++(t.list.take k).flatMap Bx.vint).length<=100000:=by
  have:=z_on (t.list.take k) (fun n hn=>h6 n (List.take_subset _ _ hn))
  have h7:(t.list.take k).length<=t.list.length:=by simp;omega
  rw [List.length_append]
  omega
 refine BIf.dec (fun hlt=>?_) (fun hge=>?_)
 ·have hlt0:(k:Int)<t.list.length:=hlt
  have hkl:k<t.list.length:=by omega
  obtain ⟨x,hx,hxm⟩:=at_lt hkl
  have hu:=z_qx hx
  obtain ⟨ad,hA,hc⟩:=hr.hl.2 (by omega)
  have hr2:=hr.hl
  rw [hA] at hr2
  refine ⟨ad,k,hA,rfl,hkl,_,fun β w' hs=>Rd.cell1 (Rd.old hr2 (hs.get 2 rfl)) hu,?_⟩
  refine z_aa [0,1] (fun β w' hs=>z_uC w' b x A2 ((heads5 t).flatMap Bx.vint++(t.list.take k).flatMap Bx.vint) c2 (h6 _ hxm) (by omega) (hs.mem.take (js:=[0,1]) rfl)) ?_
  rintro v Fs ⟨rfl,A3,c3,rfl⟩
  refine ⟨((k+1:Nat):Int),by rw [wrap_i64 (by omega) (by omega)];rfl,?_⟩
  refine ⟨⟨k+1,A3,c3⟩,by show k+1<=t.list.length;omega,by show t.list.length - (k+1)<t.list.length - k;omega,Ent.mk' ⟨rfl,rfl,rfl,rfl,rfl,rfl,trivial⟩ rfl ?_⟩
  intro β w' hs
  show Sat _ _ _ _ (varF b A3 ((heads5 t).flatMap Bx.vint++(t.list.take (k+1)).flatMap Bx.vint) c3++_) _
  rw [z_q6 hx,<-List.append_assoc]
  exact hs
 have hge0: ¬(k:Int)<t.list.length:=hge
 have hke:k=t.list.length:=by omega
 subst hke
 have hpre2:(heads5 t).flatMap Bx.vint++(t.list.take t.list.length).flatMap Bx.vint=(heads5 t).flatMap Bx.vint++t.list.flatMap Bx.vint:=by rw [List.take_length]
 rw [hpre2] at hb2
 rw [hpre2]
 generalize hq:(heads5 t).flatMap Bx.vint++t.list.flatMap Bx.vint=q at hb2 ⊢
 have hcell: ∀(w':World) (A:Option Addr) (l:List UInt8) (c:Nat),(bkF b z_al [.slice A l.length c]).p w'->w'.cell? ⟨b,0,none⟩=some (.slice A l.length c):=fun w' A l c h=>by
  have hb:w'.heap[b]?=some (.cells #[.slice A l.length c] z_al (0,0)):=h
  rw [cell_of_row w' b 0 _ _ _ hb];rfl
 refine ⟨.slice A2 q.length c2,fun β w' hs=>hcell _ _ _ _ (hs.get 0 rfl),?_⟩
 intro b6
 have hkey:=hs.key
 have htext:=hs.text
 have hmask:=hs.mask
 have hfl:[q,t.key,t.text,t.mask].flatten=Bx.print t:=by
  rw [Bx.print,<-hq]
  simp [heads5]
 refine z_aa [] (R:=readOut (Bx.print t)) (fun β w' hs=>by
  have h:=z_sw w' b6 4 [.slice A2 q.length c2,.slice a.k t.key.length a.kc,.slice a.t t.text.length a.tc,.slice a.m t.mask.length a.mc] [q,t.key,t.text,t.mask] (z_aj (hs.get 0 rfl)) (fun i v l hv hl=>by
   match i,hv,hl with
   | 0,hv,hl=>obtain rfl:=Option.some.inj hv;obtain rfl:=Option.some.inj hl;exact Bs.holds (z_aj (hs.get 2 rfl)) _
   | 1,hv,hl=>obtain rfl:=Option.some.inj hv;obtain rfl:=Option.some.inj hl;exact Bs.holds (Rd.old hr.hk (hs.get 3 rfl)) _
   | 2,hv,hl=>obtain rfl:=Option.some.inj hv;obtain rfl:=Option.some.inj hl;exact Bs.holds (Rd.old hr.ht (hs.get 3 rfl)) _
   | 3,hv,hl=>obtain rfl:=Option.some.inj hv;obtain rfl:=Option.some.inj hl;exact Bs.holds (Rd.old hr.hm (hs.get 3 rfl)) _
   | n+4,hv,hl=>cases hv) (by show 2<=4;decide) (Nat.le_refl 4) (by show 4<=1000;decide) (by simp;omega)
  rw [hfl] at h
  exact h) ?_
 rintro v Fs ⟨A,c,rfl,h1,h2,rfl⟩
 refine ⟨Bx.print t,fun β w hs=>hs.get 0 rfl,?_⟩
 intro β w' hs
 exact hs.fin [] ⟨rfl,rfl⟩
theorem z_wR (l:List Nat): ∀u∈ints l,u.oneCell'=true:=by
 intro u hu
 obtain ⟨x,_,rfl⟩:=List.mem_map.1 hu
 rfl
abbrev irowF (A:Option Addr) (l:List Nat) (c:Nat):Fact:=rowF z_bE 1 (.slice A l.length c) l.length (ints l)
theorem z_wF (w:World) (A:Option Addr) (l:List Nat) (c:Nat) (hr:Rd 1 A l.length (ints l) w) (hn:l.length<=10000000000000):
  Con Tryz.prog 142 #[.slice A l.length c] w [] fun v Fs=> ∃A' c',v= .slice A' l.length c'/\l.length<=c'/\c'<=maxLen/\Fs=[irowF A' l c']:=by
 refine z_ac (cx:=z_dQ w (Un [])) (z_hk w (Un [])) z_iP rfl rfl (β:=Va.z) [.c (.v (.slice A l.length c))] 0 [] [rdF 1 A l.length (ints l)] rfl rfl ((Sat.start rfl).rd (fun _ h=>by cases h) hr) ?_
 refine BIf.mk (fun h=>?_) (fun h=>?_)
 ·intro β w' hs
  have hA:A=none:=by simpa using h
  subst hA
  have hl:l=[]:=by
   cases l with
   | nil=>rfl
   | cons x r=>obtain ⟨ad,q,_⟩:=hr.2 (by simp);cases q
  subst hl
  exact (hs.nilRow z_bE 1).fin [0] ⟨none,0,rfl,Nat.le_refl _,Nat.zero_le _,rfl⟩
 intro b
 refine ⟨0,0,l.length,[],ints l,_,rfl,fun β w hs=>hs.get 1 rfl,z_wR l,Nat.zero_add _,rfl,by rw [maxLen_eq];omega,by show l.length*8<=_;omega,?_⟩
 intro A' c' h1 h2 h3 β w' hs
 exact hs.fin [0] ⟨A',c',rfl,h1,h2,rfl⟩
def copyFs (t:Bx.Term) (a:TA):List Fact:=[browF z_ab a.m t.mask a.mc,irowF a.l t.list a.lc,browF z_ab a.t t.text a.tc,browF z_ab a.k t.key a.kc]
theorem z_wb (w:World) (t:Bx.Term) (a:TA) (hr:TRd t a w) (hs:TSz t):
  Con Tryz.prog z_ns #[.agg (termV t a).toArray] w [] fun v Fs=> ∃a',v= .agg (termV t a').toArray/\Fs=copyFs t a':=by
 have g:=z_o5 w (Un [])
 have hkey:=hs.key
 have htext:=hs.text
 have hmask:=hs.mask
 have hlist:=hs.list
 refine z_ac (cx:=z_ir w (Un [])) g z_re rfl rfl (β:=Va.z) [.agg (termS t a)] 0 [] [oldF w] rfl rfl (z_aS rfl) ?_
 have hS: ∀ {n:Nat} {F:List Fact},Sub (z_ir w (Un [])) n [⟨1,z_bm,ti152.zero.map SL.v⟩,⟨0,z_bm,termS t a⟩] F [⟨0,z_bm,termS t a⟩] []:=fun {n F}=>Sub.of (List.sublist_cons_self _ _) (List.nil_sublist _)
 refine z_af g z_pw (by kernel_rfl) [⟨0,z_bm,termS t a⟩] [] hS ?_
 refine z_aa [] (fun β w' hs=>z_lP w' a.k t.key a.kc (Rd.old hr.hk (hs.get 0 rfl)) (by omega)) ?_
 rintro v Fs ⟨A1,c1,rfl,_,_,rfl⟩
 refine ⟨hS,?_⟩
 refine z_aa [] (fun β w' hs=>z_lP w' a.t t.text a.tc (Rd.old hr.ht (hs.get 1 rfl)) (by omega)) ?_
 rintro v Fs ⟨A2,c2,rfl,_,_,rfl⟩
 refine ⟨hS,?_⟩
 refine z_aa [] (fun β w' hs=>z_wF w' a.l t.list a.lc (Rd.old hr.hl (hs.get 2 rfl)) (by omega)) ?_
 rintro v Fs ⟨A3,c3,rfl,_,_,rfl⟩
 refine ⟨hS,?_⟩
 refine z_aa [] (fun β w' hs=>z_lP w' a.m t.mask a.mc (Rd.old hr.hm (hs.get 3 rfl)) (by omega)) ?_
 rintro v Fs ⟨A4,c4,rfl,_,_,rfl⟩
 refine ⟨hS,?_⟩
 intro β w' hs
 exact (hs.keepB (List.nil_sublist _)).fin [0,1,2,3] ⟨⟨A1,A2,A3,A4,c1,c2,c3,c4⟩,rfl,rfl⟩ rfl rfl rfl ⟨rfl,rfl,rfl,rfl,trivial⟩
def str (l:List UInt8):ByteArray:=⟨l.toArray⟩
theorem str_inj {l m:List UInt8}:str l=str m↔l=m:=by
 constructor
 ·intro h
  have:=congrArg (fun s:ByteArray=>s.data.toList) h
  simpa [str] using this
 ·rintro rfl;rfl
def numV (n:Nat):Value:= .int .i64 (n:Int)
def mapL:List Bx.Term->Nat->ML
 | [],_=>[]
 | t::r,k=>(str (Bx.print t),numV (k+1))::mapL r (k+1)
theorem z_rb (t:Bx.Term): ∀(L:List Bx.Term) (k:Nat),mlook (mapL L k) (str (Bx.print t))=(Bx.place t L).map fun i=>numV (i+k+1)
 | [],_=>rfl
 | x::r,k=>by
  simp only [mapL,mlook,Bx.place]
  by_cases h:x=t
  ·subst h
   simp
  ·have h': ¬str (Bx.print x)=str (Bx.print t):=fun q=>h (Bx.print_inj (str_inj.1 q))
   rw [if_neg h',if_neg h,z_rb t r (k+1),Option.map_map]
   congr 1
   funext i
   simp only [Function.comp]
   rw [show i+(k+1)+1=i+1+k+1 by omega]
theorem z_ty: ∀ {l:ML} {s:ByteArray} {v:Value},mlook l s=none->mput l s v=l++[(s,v)]
 | [],_,_,_=>rfl
 | (k,u)::r,s,v,h=>by
  simp only [mlook] at h
  split at h
  ·cases h
  ·rename_i hne
   simp only [mput,if_neg hne,List.cons_append]
   rw [z_ty h]
theorem z_rp (t:Bx.Term): ∀(L:List Bx.Term) (k:Nat),mapL (L++[t]) k=mapL L k++[(str (Bx.print t),numV (L.length+k+1))]
 | [],k=>by simp [mapL]
 | x::r,k=>by
  simp only [List.cons_append,mapL,List.length_cons]
  rw [z_rp t r (k+1),show r.length+(k+1)+1=r.length+1+k+1 by omega]
def TD_ (t:Bx.Term) (a:TA) (k:Nat):Prop:=(bsF a.k t.key).D k\/(bsF a.t t.text).D k\/(rdF 1 a.l t.list.length (ints t.list)).D k\/(bsF a.m t.mask).D k
theorem TRd.st {t:Bx.Term} {a:TA} {w w':World} (hs: ∀k,TD_ t a k->w'.heap[k]?=w.heap[k]?) (h:TRd t a w):TRd t a w':=
 ⟨(bsF a.k t.key).st w w' (fun k hk=>hs k (.inl hk)) h.hk,(bsF a.t t.text).st w w' (fun k hk=>hs k (.inr (.inl hk))) h.ht,(rdF 1 a.l t.list.length (ints t.list)).st w w' (fun k hk=>hs k (.inr (.inr (.inl hk)))) h.hl,(bsF a.m t.mask).st w w' (fun k hk=>hs k (.inr (.inr (.inr hk)))) h.hm⟩
def trdF (t:Bx.Term) (a:TA):Fact where
 own:=false
 D:=TD_ t a
 p:=TRd t a
 st:=fun w w' hs h=>TRd.st hs h
def partsF (ts:List (Bx.Term×TA)):Fact where
 own:=true
 D:=fun k=> ∃p∈ts,TD_ p.1 p.2 k
 p:=fun w=> ∀p∈ts,TRd p.1 p.2 w
 st:=fun w w' hs h p hp=>TRd.st (fun k hk=>hs k ⟨p,hp,hk⟩) (h p hp)
structure Lay where
 A:Option Addr
 c:Nat
 m:Nat
 ts:List (Bx.Term×TA)
def boxCells (B:Bx.Box) (y:Lay):List Value:=[.bool B.sym,.bool B.full,.slice y.A B.L.length y.c,.map (some y.m)]
def termsV (ts:List (Bx.Term×TA)):List Value:=ts.flatMap fun p=>termV p.1 p.2
def bxFs (b:Nat) (B:Bx.Box) (y:Lay):List Fact:=[bkF b z_es (boxCells B y),rowF z_bm 6 (.slice y.A B.L.length y.c) B.L.length (termsV y.ts),mapF y.m (mapL B.L 0),partsF y.ts]
def bxF (b:Nat) (B:Bx.Box) (y:Lay):Fact:=sepF (bxFs b B y)
theorem z_mg {b:Nat} {B:Bx.Box} {y:Lay} {w:World} (h:(bkF b z_es (boxCells B y)).p w) {o:Nat} {v:Value} (ho:(boxCells B y)[o]?=some v):w.cell? ⟨b,o,none⟩=some v:=by
 have hb:w.heap[b]?=some (.cells (boxCells B y).toArray z_es (0,0)):=h
 rw [cell_of_row w b o _ _ _ hb]
 simpa using ho
theorem z_fX {b ty:Nat} {cs:List Value} {w:World} (h:(bkF b ty cs).p w) {o:Nat} {v:Value} (ho:cs[o]?=some v):w.cell? ⟨b,o,none⟩=some v:=by
 have hb:w.heap[b]?=some (.cells cs.toArray ty (0,0)):=h
 rw [cell_of_row w b o _ _ _ hb]
 simpa using ho
theorem z_jN (t:Bx.Term) (a:TA): ∀u∈termV t a,u.oneCell'=true:=by
 intro u hu
 simp only [termV,List.mem_cons,List.not_mem_nil,or_false] at hu
 rcases hu with rfl | rfl | rfl | rfl | rfl | rfl<;>rfl
theorem z_a9 {v:Value} (h:v.oneCell'=true): ∀u∈[v],u.oneCell'=true:=fun u hu=>by obtain rfl:=List.mem_singleton.1 hu;exact h
def tagOut (b:Nat) (B:Bx.Box) (t:Bx.Term) (v:Value) (Fs:List Fact):Prop:=
 ∃A c y',v= .slice A 32 c/\32<=c/\c<=maxLen/\y'.ts.map (·.1)=(B.tag t).2.L/\Fs=[browF z_ab A (B.tag t).1 c,bxF b (B.tag t).2 y']
theorem z_sW (w:World):(zeroValue z_bE).run Tryz.prog w= .ok (.int .i64 0) w:=by kernel_rfl
theorem tag_c (w:World) (b:Nat) (B:Bx.Box) (y:Lay) (t:Bx.Term) (a:TA) (hts:y.ts.map (·.1)=B.L) (hL:B.L.length<=4096) (hs:TSz t) (hm:Mem w [bxF b B y,trdF t a]):
  Con Tryz.prog z_mn #[.pointer (some ⟨b,0,none⟩),.agg (termV t a).toArray] w [bxF b B y] (tagOut b B t):=by
 have g:=z_nT w (Un [bxF b B y])
 have hs0:Sat (z_g4 w (Un [bxF b B y])) Va.z 0 [] [bxF b B y,trdF t a] w:=hm.sat0 rfl (fun f hf ho k hk=>by
  simp only [List.mem_cons,List.not_mem_nil,or_false] at hf
  rcases hf with rfl | rfl
  ·exact ⟨_,List.mem_singleton.2 rfl,hk⟩
  ·cases ho)
 have hs1:=hs0.unsep 0 rfl
 refine z_ac (cx:=z_g4 w (Un [bxF b B y])) g z_qa rfl rfl (β:=Va.z) [.c (.v (.pointer (some ⟨b,0,none⟩))),.agg (termS t a)] 0 [] (bxFs b B y++[trdF t a]) rfl rfl hs1 ?_
 refine z_ah (fun β w' hs'=>z_x1 w' t a (hs'.get 4 rfl) hs) ?_
 refine ⟨.map (some y.m),fun β w' hs'=>z_mg (hs'.get 0 rfl) (o:=3) rfl,?_⟩
 have hlook:=z_rb t B.L 0
 cases hpl:Bx.place t B.L with
 | some i=>
  rw [hpl] at hlook
  refine ⟨.int .i64 0,z_sW,mapL B.L 0,some (numV (i+1)),fun β w' hs'=>hs'.get 2 rfl,hlook,?_⟩
  refine z_aa [] (fun β w' hs'=>z_tj w' (i+1)) ?_
  rintro v Fs ⟨A1,c1,rfl,q1,q2,rfl⟩
  have htag:B.tag t=(Bx.handle (i+1),B):=by unfold Bx.Box.tag;rw [hpl]
  intro β w' hs'
  have hs2:=(hs'.keepB (List.nil_sublist _)).sep [1,2,3,4] rfl ⟨rfl,rfl,rfl,rfl,trivial⟩
  exact hs2.fin [1,0] ⟨A1,c1,y,rfl,q1,q2,by rw [htag];exact hts,by rw [htag];rfl⟩
 | none=>
  rw [hpl] at hlook
  refine ⟨.int .i64 0,z_sW,mapL B.L 0,none,fun β w' hs'=>hs'.get 2 rfl,hlook,?_⟩
  refine ⟨.slice y.A B.L.length y.c,fun β w' hs'=>z_mg (hs'.get 0 rfl) (o:=2) rfl,?_⟩
  refine BIf.dec (fun hge=>?_) (fun hlt=>?_)
  ·have hge0:(4096:Int)<=(B.L.length:Int):=hge
   have hge1:4096<=B.L.length:=by omega
   refine ⟨_,fun β w' hs'=>hs'.bkSet 0 (o:=1) (us:=[.bool true]) rfl (by show 2<=4;decide) (z_a9 rfl),?_⟩
   refine ⟨32,32,rfl,rfl,Nat.le_refl _,by decide,by decide,?_⟩
   intro b2
   have htag:B.tag t=(Bx.noughts,{B with full:=true}):=by unfold Bx.Box.tag;rw [hpl];simp only;rw [if_pos hge1]
   intro β w' hs'
   have hs2:=(hs'.keepB (List.nil_sublist _)).sep [1,2,3,4] rfl ⟨rfl,rfl,rfl,rfl,trivial⟩
   exact hs2.fin [1,0] ⟨some ⟨b2,0,none⟩,32,y,rfl,Nat.le_refl _,by decide,by rw [htag];exact hts,by rw [htag];rfl⟩
  ·have hlt0: ¬(4096:Int)<=(B.L.length:Int):=hlt
   have hlt1: ¬4096<=B.L.length:=by omega
   have htag:B.tag t=(Bx.handle (B.L.length+1),{B with L:=B.L++[t]}):=by unfold Bx.Box.tag;rw [hpl];simp only;rw [if_neg hlt1]
   refine z_af g z_pb (by kernel_rfl) [⟨0,z_bm,termS t a⟩] [bkF b z_es (boxCells B y)] (subPerm [0]) ?_
   refine ⟨.slice y.A B.L.length y.c,fun β w' hs'=>z_mg (hs'.get 0 rfl) (o:=2) rfl,?_⟩
   refine z_aa [] (fun β w' hs'=>z_wb w' t a (hs'.get 4 rfl) hs) ?_
   rintro v Fs ⟨a',rfl,rfl⟩
   refine ⟨subPerm [4],?_⟩
   intro b7
   refine ⟨subPerm [5],?_⟩
   refine ⟨6,B.L.length,B.L.length+1,termsV y.ts,termV t a',termsV (y.ts++[(t,a')]),rfl,fun β w' hs'=>z_aj (hs'.get 0 rfl),z_jN t a',rfl,by simp [termsV],by rw [maxLen_eq];omega,by show (B.L.length+1)*112<=_;omega,?_⟩
   intro A' c' q1 q2 q3
   refine ⟨subPerm [5],?_⟩
   refine ⟨subPerm [5],?_⟩
   refine ⟨_,fun β w' hs'=>hs'.bkSet 5 (o:=2) (us:=[.slice A' (B.L.length+1) c']) rfl (by show 3<=4;decide) (z_a9 rfl),?_⟩
   have hbx:putAll (boxCells B y) 2 [.slice A' (B.L.length+1) c']=[.bool B.sym,.bool B.full,.slice A' (B.L.length+1) c',.map (some y.m)]:=rfl
   rw [hbx]
   refine z_af g z_ph (by kernel_rfl) [⟨0,z_bm,termS t a⟩] [bkF b z_es [.bool B.sym,.bool B.full,.slice A' (B.L.length+1) c',.map (some y.m)]] (subPerm [5]) ?_
   refine ⟨.map (some y.m),fun β w' hs'=>z_fX (hs'.get 0 rfl) (o:=3) rfl,?_⟩
   refine ⟨.slice A' (B.L.length+1) c',fun β w' hs'=>z_fX (hs'.get 0 rfl) (o:=2) rfl,?_⟩
   refine ⟨_,fun _=>_,fun β w' hs'=>hs'.mapPutY g 7 rfl (t:=z_m7) (str (Bx.print t)) (numV (B.L.length+1)),fun _=>?_⟩
   refine ⟨subPerm [5],?_⟩
   refine ⟨.slice A' (B.L.length+1) c',fun β w' hs'=>z_fX (hs'.get 5 rfl) (o:=2) rfl,?_⟩
   refine z_aa [] (fun β w' hs'=>z_tj w' (B.L.length+1)) ?_
   rintro v Fs ⟨A9,c9,rfl,r1,r2,rfl⟩
   have hmap:mput (mapL B.L 0) (str (Bx.print t)) (numV (B.L.length+1))=mapL (B.L++[t]) 0:=by rw [z_ty hlook,z_rp]
   have hbF:bxF b {B with L:=B.L++[t]} ⟨A',c',y.m,y.ts++[(t,a')]⟩=sepF [bkF b z_es [.bool B.sym,.bool B.full,.slice A' (B.L.length+1) c',.map (some y.m)],rowF z_bm 6 (.slice A' (B.L.length+1) c') (B.L.length+1) (termsV (y.ts++[(t,a')])),mapF y.m (mapL (B.L++[t]) 0),partsF (y.ts++[(t,a')])]:=by
    simp [bxF,bxFs,boxCells]
   intro β w' hs'
   have hs2:=(hs'.keepB (List.nil_sublist _)).fuse [2,3,4,5,9] (partsF (y.ts++[(t,a')])) (fun w hm=>?_) (fun k hk=>?_) rfl ⟨rfl,rfl,rfl,rfl,rfl,trivial⟩
   ·have hs3:=hs2.sep [3,4,5,0] rfl ⟨rfl,rfl,rfl,rfl,trivial⟩
    refine hs3.fin [1,0] ⟨A9,c9,⟨A',c',y.m,y.ts++[(t,a')]⟩,rfl,r1,r2,?_,?_⟩
    ·rw [htag]
     show (y.ts++[(t,a')]).map (·.1)=B.L++[t]
     rw [List.map_append,hts]
     rfl
    ·rw [htag]
     show _=[browF z_ab A9 (Bx.handle (B.L.length+1)) c9,bxF b {B with L:=B.L++[t]} ⟨A',c',y.m,y.ts++[(t,a')]⟩]
     rw [hbF,<-hmap]
     rfl
   ·have hm':Mem w [browF z_ab a'.m t.mask a'.mc,irowF a'.l t.list a'.lc,browF z_ab a'.t t.text a'.tc,browF z_ab a'.k t.key a'.kc,partsF y.ts]:=hm
    intro p hp
    rcases List.mem_append.1 hp with hp | hp
    ·exact hm'.fact (partsF y.ts) (by simp) p hp
    ·obtain rfl:=List.mem_singleton.1 hp
     exact ⟨z_aj (hm'.fact (browF z_ab a'.k t.key a'.kc) (by simp)),z_aj (hm'.fact (browF z_ab a'.t t.text a'.tc) (by simp)),z_aj (hm'.fact (irowF a'.l t.list a'.lc) (by simp)),z_aj (hm'.fact (browF z_ab a'.m t.mask a'.mc) (by simp))⟩
   ·show Un [browF z_ab a'.m t.mask a'.mc,irowF a'.l t.list a'.lc,browF z_ab a'.t t.text a'.tc,browF z_ab a'.k t.key a'.kc,partsF y.ts] k
    obtain ⟨p,hp,hk⟩:=hk
    rcases List.mem_append.1 hp with hp | hp
    ·exact ⟨partsF y.ts,by simp,p,hp,hk⟩
    ·obtain rfl:=List.mem_singleton.1 hp
     have hrow: ∀ {size e n c:Nat} {A:Option Addr} {xs:List Value},(rdF size A n xs).D k->(rowF e size (.slice A n c) n xs).D k:=by
      rintro size e n c A xs ⟨_,ad,rfl,rfl⟩
      rfl
     rcases hk with hk | hk | hk | hk
     ·exact ⟨browF z_ab a'.k t.key a'.kc,by simp,hrow hk⟩
     ·exact ⟨browF z_ab a'.t t.text a'.tc,by simp,hrow hk⟩
     ·exact ⟨irowF a'.l t.list a'.lc,by simp,hrow hk⟩
     ·exact ⟨browF z_ab a'.m t.mask a'.mc,by simp,hrow hk⟩
theorem bx_bk {b:Nat} {B:Bx.Box} {y:Lay} {w:World} (h:(bxF b B y).p w):(bkF b z_es (boxCells B y)).p w:=h.1 _ (by simp [bxFs])
theorem z_vQ (w:World) (A:Option Addr):Rd 1 A 0 [] w:=⟨rfl,fun h=>by cases h⟩
theorem z_zN {x y:Nat} (hx:x<36028797018963968) (hy:y<256):bits .or .i64 ((x*256:Nat):Int) (y:Int)=((x*256+y:Nat):Int):=by
 show IntKind.i64.wrap (((BitVec.ofInt 64 ((x*256:Nat):Int)) ||| (BitVec.ofInt 64 (y:Int))).toNat:Int)=_
 have h1:(BitVec.ofInt 64 ((x*256:Nat):Int)).toNat=x<<<8:=by
  rw [BitVec.toNat_ofInt,Nat.shiftLeft_eq]
  omega
 have h2:(BitVec.ofInt 64 (y:Int)).toNat=y:=by
  rw [BitVec.toNat_ofInt]
  omega
 rw [BitVec.toNat_or,h1,h2,<-Nat.shiftLeft_add_eq_or_of_lt (by omega) x,Nat.shiftLeft_eq,wrap_i64 (by omega) (by omega)]
theorem z_yg {x:Nat} (hx:x<36028797018963968):IntKind.i64.wrap ((x:Int)*2^(min (8:Int).toNat IntKind.i64.bits))=((x*256:Nat):Int):=by
 have h1:min (8:Int).toNat IntKind.i64.bits=8:=rfl
 rw [h1,wrap_i64 (by omega) (by omega)]
 omega
theorem copyC (w:World) (A:Option Addr) (l:List UInt8) (c:Nat) (hr:Bs w A l) (hn:l.length<=lim):
  Con Tryz.prog z_c8 #[.slice A l.length c] w [] fun v Fs=> ∃A' c',v= .slice A' l.length c'/\l.length<=c'/\c'<=maxLen/\Fs=[browF z_ab A' l c']:=z_u9 (z_zw w A l c hr hn)
theorem Sat.ro {cx:Cx} {β:Va} {n:Nat} {H:List Bk} {F:List Fact} {w:World} (h:Sat cx β n H F w) (j:Nat) {e:Nat} {A:Option Addr} {l:List UInt8} {c:Nat} (hj:nth F j=some (browF e A l c)):Sat cx β n H (putAt F j (bsF A l)) w:=by
 have hp:=h.get j hj
 exact h.upd hj rfl (Chg.refl _ _) (z_aj hp) (fun k hk=> .inl (browRoD hp k hk))
theorem z_jm: ∀n,repl ti5.zero n=reps n 0
 | 0=>rfl
 | n+1=>by
  rw [repl,z_jm n]
  rfl
def rawK (k:List UInt8):List UInt8:=k++List.replicate (64 - k.length) 0
theorem z_n4 {k:List UInt8} (h:k.length<=64):(rawK k).length=64:=by simp [rawK];omega
def turnN (k:List UInt8) (x:UInt8) (i:Nat):List UInt8:=((rawK k).take i).map (· ^^^x)++(rawK k).drop i
theorem z_sK {k:List UInt8} {x y:UInt8} {i:Nat} (h:(rawK k)[i]?=some y):(turnN k x i)[i]?=some y:=by
 have hi:i<(rawK k).length:=(List.getElem?_eq_some_iff.1 h).1
 unfold turnN
 rw [List.getElem?_append_right (by simp only [List.length_map,List.length_take];omega)]
 simp only [List.length_map,List.length_take,List.getElem?_drop]
 rw [show i+(i - min i (rawK k).length)=i by omega]
 exact h
theorem z_rs {k:List UInt8} {x y:UInt8} {i:Nat} (h:(rawK k)[i]?=some y):(turnN k x i).set i (y^^^x)=turnN k x (i+1):=by
 have hi:i<(rawK k).length:=(List.getElem?_eq_some_iff.1 h).1
 unfold turnN
 rw [List.set_append_right _ _ (by simp only [List.length_map,List.length_take];omega)]
 simp only [List.length_map,List.length_take]
 rw [show i - min i (rawK k).length=0 by omega,List.drop_eq_getElem_cons hi,List.set_cons_zero,List.take_add_one,h]
 simp
theorem z_rT {k:List UInt8} {x:UInt8} (h:k.length<=64):turnN k x 64=k.map (x^^^ ·)++List.replicate (64 - k.length) x:=by
 unfold turnN
 rw [List.take_of_length_le (by rw [z_n4 h];omega),List.drop_of_length_le (by rw [z_n4 h];omega),List.append_nil]
 unfold rawK
 rw [List.map_append,List.map_replicate]
 congr 1
 ·exact List.map_congr_left fun y _=>UInt8.xor_comm _ _
 ·congr 1
  exact UInt8.zero_xor
set_option maxHeartbeats 1000000 in
theorem z_q2 (w:World) (A:Option Addr) (l:List UInt8) (c:Nat) (x:UInt8) (hr:Bs w A l) (hn:l.length<=1000000) (h1:(oddF 10).p w):
  Con Tryz.prog z_eD #[.slice A l.length c,byte x] w [] fun v Fs=> ∃b,v= .slice (some ⟨b,0,none⟩) (padL l x).length 64/\Fs=[browF z_ab (some ⟨b,0,none⟩) (padL l x) 64]:=by
 have g:=z_hF w (Un [])
 refine z_ac (cx:=z_bs w (Un [])) g z_jE rfl rfl (β:=Va.z) [.c (.v (.slice A l.length c)),.c (.v (byte x))] 0 [] [oldF w] rfl rfl (z_aS rfl) ?_
 refine BIf.dec (fun hlt=>?_) (fun hge=>?_)
 ·have hlt0:(64:Int)<(l.length:Int):=hlt
  obtain ⟨k,hks⟩: ∃k,Sha.sum l=k:=⟨_,rfl⟩
  have hk:keyL l=k:=by unfold keyL;rw [if_pos (by omega)];exact hks
  have hk64:k.length<=64:=by rw [<-hk];exact z_lZ
  refine z_aa [] (R:=fun v Fs=> ∃A' c',v= .slice A' k.length c'/\Fs=[browF z_ab A' k c']) (fun β w' hs=>(z_uL w' A l c (Rd.old hr (hs.get 0 rfl)) (Rd.old h1 (hs.get 0 rfl)) (by omega)).mono (by rintro v Fs ⟨A',c',rfl,_,_,rfl⟩;exact ⟨A',c',by rw [<-hks];rfl,by rw [hks]⟩)) ?_
  rintro v Fs ⟨A2,c2,rfl,rfl⟩
  have hkr: ∀ {w'},(browF z_ab A2 k c2).p w'->Bs w' A2 k:=fun h=>z_aj h
  refine ⟨64,64,rfl,rfl,Nat.le_refl _,by decide,by decide,?_⟩
  intro b
  have hk0:min k.length 64=k.length:=by omega
  refine ⟨[],[rowF z_ab 1 (.slice (some ⟨b,0,none⟩) 64 64) 64 ((rawK k).map byte),browF z_ab A2 k c2,oldF w],.c (.v (.int .i64 (k.length:Int))),fun β w' ty hs=>?_,trivial,?_⟩
  ·obtain ⟨w2,q1,q2⟩:=hs.copyRow g 0 (m:=k.length) (cs:=c2) rfl (hkr (hs.get 1 rfl)) (z_as k) ty (t:=z_al) #[false,false] hk0
   have e:putAll (repl ti5.zero 64) 0 ((k.map byte).take k.length)=(rawK k).map byte:=by
    rw [List.take_of_length_le (by simp)]
    have q:=z_hC [] (repl ti5.zero 64) (k.map byte) (by rw [z_jm,z_gT,List.length_map];omega)
    have q2:putAll (repl ti5.zero 64) 0 (k.map byte)=k.map byte++(repl ti5.zero 64).drop (k.map byte).length:=q
    rw [q2,z_jm,List.length_map]
    unfold rawK reps
    rw [List.map_append,<-List.map_drop,List.drop_replicate]
   rw [e] at q2
   exact ⟨w2,q1,q2⟩
  refine z_ag (ι:=Nat) 0 (fun i=>[(1,.c (.v (byte x))),(5,.c (.v (.slice (some ⟨b,0,none⟩) 64 64))),(17,.c (.v (.int .i64 64))),(18,.c (.v (.int .i64 (i:Int))))]) (fun _=>[]) (fun i=>[rowF z_ab 1 (.slice (some ⟨b,0,none⟩) 64 64) 64 ((turnN k x i).map byte),browF z_ab A2 k c2,oldF w])
   (fun i=>i<=64) (fun i=>64 - i) 0 (Nat.zero_le _) (Ent.same ⟨rfl,rfl,rfl,rfl,trivial⟩ rfl) g ?_
  intro i hi
  refine BIf.dec (fun hlt2=>?_) (fun hge2=>?_)
  ·have hlt0:(i:Int)<64:=hlt2
   have hik:i<(rawK k).length:=by rw [z_n4 hk64];omega
   obtain ⟨y,hy,_⟩:=at_lt hik
   have hat:=z_sK (x:=x) hy
   refine ⟨⟨b,0,none⟩,i,rfl,rfl,by omega,byte y,fun β w' hs=>by
    have h:Rd 1 (some ⟨b,0,none⟩) 64 ((turnN k x i).map byte) w':=z_aj (hs.get 0 rfl)
    exact Rd.cell1 h (by rw [List.getElem?_map,hat];rfl),_,xor8 y x,?_⟩
   refine ⟨⟨b,0,none⟩,i,rfl,rfl,by omega,[rowF z_ab 1 (.slice (some ⟨b,0,none⟩) 64 64) 64 ((turnN k x (i+1)).map byte),browF z_ab A2 k c2,oldF w],fun β w' hs=>?_,?_⟩
   ·obtain ⟨w2,q1,q2⟩:=hs.rowSet (j:=0) (o:=i) (us:=[byte (y^^^x)]) rfl (by simp only [List.length_singleton];omega) (fun u hu=>by obtain rfl:=List.mem_singleton.1 hu;rfl)
    have e:putAll ((turnN k x i).map byte) i [byte (y^^^x)]=(turnN k x (i+1)).map byte:=by
     rw [putAll,putAll,z_aT,<-z_rs hy,List.map_set]
    rw [e] at q2
    have q1':(storeCells ((⟨b,0,none⟩:Addr).add (i*1)) [byte (y^^^x)] 0).run (z_bs w (Un [])).P w'= .ok () w2:=by rw [Nat.mul_one];exact q1
    exact ⟨w2,q1',q2⟩
   ·refine ⟨((i+1:Nat):Int),by rw [wrap_i64 (by omega) (by omega)];rfl,?_⟩
    exact ⟨i+1,by omega,by omega,Ent.same ⟨rfl,rfl,rfl,rfl,trivial⟩ rfl⟩
  ·have hge0: ¬(i:Int)<64:=hge2
   obtain rfl:i=64:=by omega
   intro β w' hs
   have hp:padL l x=turnN k x 64:=by rw [z_rT hk64];unfold padL;rw [hk]
   refine hs.fin [0] ⟨b,by rw [z_kw];rfl,?_⟩
   show [rowF z_ab 1 (.slice (some ⟨b,0,none⟩) 64 64) 64 _]=[rowF z_ab 1 (.slice (some ⟨b,0,none⟩) (padL l x).length 64) (padL l x).length ((padL l x).map byte)]
   rw [z_kw,hp]
 ·have hge0: ¬(64:Int)<(l.length:Int):=hge
  obtain ⟨k,hks⟩: ∃k,l=k:=⟨_,rfl⟩
  have hk:keyL l=k:=by unfold keyL;rw [if_neg (by omega)];exact hks
  have hk64:k.length<=64:=by rw [<-hk];exact z_lZ
  have hr':Bs w A k:=by rw [<-hks];exact hr
  have hlk:l.length=k.length:=by rw [hks]
  rw [hlk]
  have hkr: ∀ {w'},(oldF w).p w'->Bs w' A k:=fun h=>Rd.old hr' h
  refine ⟨64,64,rfl,rfl,Nat.le_refl _,by decide,by decide,?_⟩
  intro b
  have hk0:min k.length 64=k.length:=by omega
  refine ⟨[],[rowF z_ab 1 (.slice (some ⟨b,0,none⟩) 64 64) 64 ((rawK k).map byte),oldF w],.c (.v (.int .i64 (k.length:Int))),fun β w' ty hs=>?_,trivial,?_⟩
  ·obtain ⟨w2,q1,q2⟩:=hs.copyRow g 0 (m:=k.length) (cs:=c) rfl (hkr (hs.get 1 rfl)) (z_as k) ty (t:=z_al) #[false,false] hk0
   have e:putAll (repl ti5.zero 64) 0 ((k.map byte).take k.length)=(rawK k).map byte:=by
    rw [List.take_of_length_le (by simp)]
    have q:=z_hC [] (repl ti5.zero 64) (k.map byte) (by rw [z_jm,z_gT,List.length_map];omega)
    have q2:putAll (repl ti5.zero 64) 0 (k.map byte)=k.map byte++(repl ti5.zero 64).drop (k.map byte).length:=q
    rw [q2,z_jm,List.length_map]
    unfold rawK reps
    rw [List.map_append,<-List.map_drop,List.drop_replicate]
   rw [e] at q2
   exact ⟨w2,q1,q2⟩
  refine z_ag (ι:=Nat) 0 (fun i=>[(1,.c (.v (byte x))),(5,.c (.v (.slice (some ⟨b,0,none⟩) 64 64))),(17,.c (.v (.int .i64 64))),(18,.c (.v (.int .i64 (i:Int))))]) (fun _=>[]) (fun i=>[rowF z_ab 1 (.slice (some ⟨b,0,none⟩) 64 64) 64 ((turnN k x i).map byte),oldF w])
   (fun i=>i<=64) (fun i=>64 - i) 0 (Nat.zero_le _) (Ent.same ⟨rfl,rfl,rfl,rfl,trivial⟩ rfl) g ?_
  intro i hi
  refine BIf.dec (fun hlt2=>?_) (fun hge2=>?_)
  ·have hlt0:(i:Int)<64:=hlt2
   have hik:i<(rawK k).length:=by rw [z_n4 hk64];omega
   obtain ⟨y,hy,_⟩:=at_lt hik
   have hat:=z_sK (x:=x) hy
   refine ⟨⟨b,0,none⟩,i,rfl,rfl,by omega,byte y,fun β w' hs=>by
    have h:Rd 1 (some ⟨b,0,none⟩) 64 ((turnN k x i).map byte) w':=z_aj (hs.get 0 rfl)
    exact Rd.cell1 h (by rw [List.getElem?_map,hat];rfl),_,xor8 y x,?_⟩
   refine ⟨⟨b,0,none⟩,i,rfl,rfl,by omega,[rowF z_ab 1 (.slice (some ⟨b,0,none⟩) 64 64) 64 ((turnN k x (i+1)).map byte),oldF w],fun β w' hs=>?_,?_⟩
   ·obtain ⟨w2,q1,q2⟩:=hs.rowSet (j:=0) (o:=i) (us:=[byte (y^^^x)]) rfl (by simp only [List.length_singleton];omega) (fun u hu=>by obtain rfl:=List.mem_singleton.1 hu;rfl)
    have e:putAll ((turnN k x i).map byte) i [byte (y^^^x)]=(turnN k x (i+1)).map byte:=by
     rw [putAll,putAll,z_aT,<-z_rs hy,List.map_set]
    rw [e] at q2
    have q1':(storeCells ((⟨b,0,none⟩:Addr).add (i*1)) [byte (y^^^x)] 0).run (z_bs w (Un [])).P w'= .ok () w2:=by rw [Nat.mul_one];exact q1
    exact ⟨w2,q1',q2⟩
   ·refine ⟨((i+1:Nat):Int),by rw [wrap_i64 (by omega) (by omega)];rfl,?_⟩
    exact ⟨i+1,by omega,by omega,Ent.same ⟨rfl,rfl,rfl,rfl,trivial⟩ rfl⟩
  ·have hge0: ¬(i:Int)<64:=hge2
   obtain rfl:i=64:=by omega
   intro β w' hs
   have hp:padL l x=turnN k x 64:=by rw [z_rT hk64];unfold padL;rw [hk]
   refine hs.fin [0] ⟨b,by rw [z_kw];rfl,?_⟩
   show [rowF z_ab 1 (.slice (some ⟨b,0,none⟩) 64 64) 64 _]=[rowF z_ab 1 (.slice (some ⟨b,0,none⟩) (padL l x).length 64) (padL l x).length ((padL l x).map byte)]
   rw [z_kw,hp]
theorem z_x7 (w:World) (A B:Option Addr) (key text:List UInt8) (c d:Nat) (hr:Bs w A key) (ht:Bs w B text) (hk:key.length<=1000000) (hn:text.length<=1000000) (h1:(oddF 10).p w):
  Con Tryz.prog z_g1 #[.slice A key.length c,.slice B text.length d] w [] fun v Fs=> ∃A' c',v= .slice A' 32 c'/\32<=c'/\c'<=maxLen/\Fs=[browF z_ab A' (hmL key text) c']:=by
 have g:=z_jL w (Un [])
 have hml:=maxLen_eq
 refine z_ac (cx:=z_fQ w (Un [])) g z_ml rfl rfl (β:=Va.z) [.c (.v (.slice A key.length c)),.c (.v (.slice B text.length d))] 0 [] [oldF w] rfl rfl (z_aS rfl) ?_
 refine z_aa [] (fun β w' hs=>z_q2 w' A key c 0x5c (Rd.old hr (hs.get 0 rfl)) hk (Rd.old h1 (hs.get 0 rfl))) ?_
 rintro v Fs ⟨p1,rfl,rfl⟩
 refine z_aa [] (fun β w' hs=>z_q2 w' A key c 0x36 (Rd.old hr (hs.get 1 rfl)) hk (Rd.old h1 (hs.get 1 rfl))) ?_
 rintro v Fs ⟨p2,rfl,rfl⟩
 have l64: ∀x,(padL key x).length=64:=z_kw key
 have e1:(padL key 0x36++text).length=64+text.length:=by rw [List.length_append,l64]
 refine ⟨0,(padL key 0x36).length,(padL key 0x36++text).length,(padL key 0x36).map byte,text.map byte,(padL key 0x36++text).map byte,rfl,fun β w' hs=>Rd.old ht (hs.get 2 rfl),z_as _,by rw [List.length_append],by rw [List.map_append],by omega,by show (padL key 0x36++text).length*1<=_;omega,?_⟩
 intro A1 c1 hc1 hm1 _
 refine z_aa [] (fun β w' hs=>z_uL w' A1 (padL key 0x36++text) c1 (z_aj (hs.get 0 rfl)) (Rd.old h1 (hs.get 2 rfl)) (by omega)) ?_
 rintro v Fs ⟨A2,c2,rfl,hc2,hm2,rfl⟩
 obtain ⟨s1,hs1⟩: ∃s1,Sha.sum (padL key 0x36++text)=s1:=⟨_,rfl⟩
 have hs1l:s1.length=32:=by rw [<-hs1];exact z_sd _
 have hhm:hmL key text=Sha.sum (padL key 0x5c++s1):=by unfold hmL;rw [hs1]
 have e2:(padL key 0x5c++s1).length=96:=by rw [List.length_append,l64,hs1l]
 have e0:(padL key 0x5c).length+32=(padL key 0x5c++s1).length:=by rw [List.length_append,hs1l]
 refine ⟨2,(padL key 0x5c).length,(padL key 0x5c++s1).length,(padL key 0x5c).map byte,s1.map byte,(padL key 0x5c++s1).map byte,rfl,fun β w' hs=>?_,z_as _,e0,by rw [List.map_append],by omega,by show (padL key 0x5c++s1).length*1<=_;omega,?_⟩
 ·have h:Bs w' A2 (Sha.sum (padL key 0x36++text)):=z_aj (hs.get 0 rfl)
  rw [hs1] at h
  have h':Rd 1 A2 s1.length (s1.map byte) w':=h
  rw [hs1l] at h'
  exact h'
 intro A3 c3 hc3 hm3 _
 refine z_aa [] (fun β w' hs=>z_uL w' A3 (padL key 0x5c++s1) c3 (z_aj (hs.get 2 rfl)) (Rd.old h1 (hs.get 3 rfl)) (by omega)) ?_
 rintro v Fs ⟨A4,c4,rfl,h5,h6,rfl⟩
 intro β w' hs
 exact hs.fin [0] ⟨A4,c4,rfl,h5,h6,by rw [hhm];rfl⟩
end Go.Proofs.YtfomhhkoamapmaaGreatDoor.Sx
namespace Go.Proofs.YtfomhhkoamapmaaGreatDoor.Sx
open Go Sha
attribute [local irreducible] Calls
def ptrB (b:Nat):Value:= .pointer (some ⟨b,0,none⟩)
end Go.Proofs.YtfomhhkoamapmaaGreatDoor.Sx
namespace Go.Proofs.YtfomhhkoamapmaaGreatDoor.Sx
open Go
attribute [local irreducible] Calls
abbrev Part:=Option Addr×List UInt8×Nat
def partV (p:Part):Value:= .slice p.1 p.2.1.length p.2.2
def partsT (ps:List Part):List UInt8:=ps.flatMap (·.2.1)
def partF (P:Option Addr) (ps:List Part):Fact where
 own:=false
 D:=fun k=>(rdF 1 P ps.length (ps.map partV)).D k\/ ∃p∈ps,(bsF p.1 p.2.1).D k
 p:=fun w=>Rd 1 P ps.length (ps.map partV) w/\ ∀p∈ps,Bs w p.1 p.2.1
 st:=fun w w' hs h=>⟨(rdF 1 P ps.length (ps.map partV)).st w w' (fun k hk=>hs k (.inl hk)) h.1,fun p hp=>(bsF p.1 p.2.1).st w w' (fun k hk=>hs k (.inr ⟨p,hp,hk⟩)) (h.2 p hp)⟩
end Go.Proofs.YtfomhhkoamapmaaGreatDoor.Sx
namespace Go.Proofs.YtfomhhkoamapmaaGreatDoor.Sx
open Go
attribute [local irreducible] Calls
section
variable {cx:Cx} {β:Va} {n:Nat} {H:List Bk} {F:List Fact} {w:World}
theorem Sat.subN (h:Sat cx β n H F w) (js:List Nat) (hno: ∀f∈takeIx F js,f.own=false) (g:Fact) (hgo:g.own=false) (hp:g.p w) (hD: ∀k,g.D k->Un (takeIx F js) k):Sat cx β n H (g::F) w:=by
 have hin: ∀k,g.D k-> ∃(i:Nat) (f:Fact),F[i]?=some f/\f.own=false/\f.D k:=fun k hk=>by
  obtain ⟨f,hf,hfk⟩:=hD k hk
  obtain ⟨i,_,hi⟩:=z_bK hf
  exact ⟨i,f,hi,hno f hf,hfk⟩
 refine h.old g hp (fun k hk=>?_) (fun b hb q=>?_) (fun q=>by rw [hgo] at q;cases q) (fun g' hg' ho k hk hk'=>?_) (fun p hpp q=>?_)
 ·obtain ⟨i,f,hi,_,hfk⟩:=hin k hk
  exact h.flt f (List.mem_of_getElem? hi) k hfk
 ·obtain ⟨i,f,hi,_,hfk⟩:=hin _ q
  exact h.sepb f (List.mem_of_getElem? hi) b hb hfk
 ·have ho':g'.own=true:=ho.resolve_left (by rw [hgo];decide)
  obtain ⟨i,f,hi,hfo,hfk⟩:=hin k hk
  obtain ⟨j,hj⟩:=List.getElem?_of_mem hg'
  have hne:j≠i:=fun q=>by subst q;rw [hj] at hi;obtain rfl:=Option.some.inj hi;rw [hfo] at ho';cases ho'
  exact h.apart hj hi hne (.inl ho') k hk' hfk
 ·obtain ⟨i,f,hi,_,hfk⟩:=hin _ q
  exact (h.pin p hpp).2.2 f (List.mem_of_getElem? hi) hfk
theorem rowD {e size:Nat} {A:Option Addr} {k c:Nat} {xs:List Value} {w:World} (h:(rowF e size (.slice A k c) k xs).p w): ∀b,(rdF size A k xs).D b->(rowF e size (.slice A k c) k xs).D b:=by
 rintro b ⟨h0,ad,q,rfl⟩
 have hk:0<k:=Nat.pos_of_ne_zero (fun q=>by rw [q,Nat.zero_mul] at h0;exact Nat.lt_irrefl _ h0)
 rcases h.2 with ⟨he,h0⟩ | ⟨g,cap,cur,he,_⟩
 ·omega
 ·have hA:A=some ⟨g,0,none⟩:=by injection he
  rw [q] at hA
  obtain rfl:=Option.some.inj hA
  show Value.ownBlock (.slice A k c)=_
  rw [q]
  rfl
theorem Sat.rowRd (h:Sat cx β n H F w) (j:Nat) {e size:Nat} {A:Option Addr} {k c:Nat} {xs:List Value} (hj:nth F j=some (rowF e size (.slice A k c) k xs)):Sat cx β n H (putAt F j (rdF size A k xs)) w:=by
 have hp:=h.get j hj
 exact h.upd hj rfl (Chg.refl _ _) (z_aj hp) (fun b hb=> .inl (rowD hp b hb))
theorem Sat.part1 {P A:Option Addr} {l:List UInt8} {c:Nat} (h:Sat cx β n H F w) (js:List Nat) (hj:takeIx F js=[rdF 1 P 1 [.slice A l.length c],bsF A l]):Sat cx β n H (partF P [(A,l,c)]::F) w:=by
 have hP:Rd 1 P 1 [.slice A l.length c] w:=h.fact _ (by
  have:rdF 1 P 1 [.slice A l.length c]∈takeIx F js:=by rw [hj];simp
  obtain ⟨i,_,hi⟩:=z_bK this
  exact List.mem_of_getElem? hi)
 have hA:Bs w A l:=h.fact (bsF A l) (by
  have:bsF A l∈takeIx F js:=by rw [hj];simp
  obtain ⟨i,_,hi⟩:=z_bK this
  exact List.mem_of_getElem? hi)
 refine h.subN js (fun f hf=>?_) _ rfl ⟨hP,fun p hp=>?_⟩ (fun k hk=>?_)
 ·rw [hj] at hf
  simp only [List.mem_cons,List.not_mem_nil,or_false] at hf
  rcases hf with rfl | rfl<;>rfl
 ·obtain rfl:=List.mem_singleton.1 hp;exact hA
 ·rw [hj]
  rcases hk with hk | ⟨p,hp,hk⟩
  ·exact ⟨_,List.mem_cons_self,hk⟩
  ·obtain rfl:=List.mem_singleton.1 hp
   exact ⟨_,List.mem_cons_of_mem _ List.mem_cons_self,hk⟩
theorem Sat.part2 {P A B:Option Addr} {l m:List UInt8} {c d:Nat} (h:Sat cx β n H F w) (js:List Nat) (hj:takeIx F js=[rdF 1 P 2 [.slice A l.length c,.slice B m.length d],bsF A l,bsF B m]):Sat cx β n H (partF P [(A,l,c),(B,m,d)]::F) w:=by
 have get: ∀f∈takeIx F js,f.p w:=fun f hf=>by obtain ⟨i,_,hi⟩:=z_bK hf;exact h.fact f (List.mem_of_getElem? hi)
 have hP:Rd 1 P 2 [.slice A l.length c,.slice B m.length d] w:=get (rdF 1 P 2 [.slice A l.length c,.slice B m.length d]) (by rw [hj];simp)
 have hA:Bs w A l:=get (bsF A l) (by rw [hj];simp)
 have hB:Bs w B m:=get (bsF B m) (by rw [hj];simp)
 refine h.subN js (fun f hf=>?_) _ rfl ⟨hP,fun p hp=>?_⟩ (fun k hk=>?_)
 ·rw [hj] at hf
  simp only [List.mem_cons,List.not_mem_nil,or_false] at hf
  rcases hf with rfl | rfl | rfl<;>rfl
 ·simp only [List.mem_cons,List.not_mem_nil,or_false] at hp
  rcases hp with rfl | rfl
  ·exact hA
  ·exact hB
 ·rw [hj]
  rcases hk with hk | ⟨p,hp,hk⟩
  ·exact ⟨_,List.mem_cons_self,hk⟩
  ·simp only [List.mem_cons,List.not_mem_nil,or_false] at hp
   rcases hp with rfl | rfl
   ·exact ⟨bsF A l,by simp,hk⟩
   ·exact ⟨bsF B m,by simp,hk⟩
end
end Go.Proofs.YtfomhhkoamapmaaGreatDoor.Sx
namespace Go.Proofs.YtfomhhkoamapmaaGreatDoor.Sx
open Go
attribute [local irreducible] Calls
def turnT (L:List Nat) (M:List UInt8):Bx.Term:=⟨4,[],[],0,L,M⟩
end Go.Proofs.YtfomhhkoamapmaaGreatDoor.Sx
namespace Go.Proofs.YtfomhhkoamapmaaGreatDoor.Sx
open Go
theorem z_rg {t:Bx.Term}: ∀ {L:List Bx.Term},t∉L->Bx.place t L=none
 | [],_=>rfl
 | x::r,h=>by
  unfold Bx.place
  rw [if_neg (show¬x=t from fun q=>h (by rw [q];exact List.mem_cons_self)),z_rg (fun q=>h (List.mem_cons_of_mem _ q))]
  rfl
theorem z_xV {B:Bx.Box} {n:Nat} {t:Bx.Term} (hs:B.sym=true) (hn:n<4294967296) (h0:1<=n) (hl:n<=B.L.length) (ht:B.L[n - 1]?=some t):B.opens (Bx.handle n)=if t.kind=4 then some (t.list,t.mask) else some ([n],Bx.noughts):=
 Bx.opens_in (Bx.handle_len n) hs (List.take_left' Bx.front_len) (by rw [show (Bx.handle n).drop 28=Bx.be4 n from List.drop_left' Bx.front_len,Bx.num_be4 hn]) (by omega) ht
end Go.Proofs.YtfomhhkoamapmaaGreatDoor.Sx
namespace Go.Proofs.YtfomhhkoamapmaaGreatDoor.Sx
open Go
attribute [local irreducible] Calls
theorem Sat.rdRow {cx:Cx} {β:Va} {n:Nat} {H:List Bk} {F:List Fact} {w:World} {e:TypeId} {A:Option Addr} {l:List UInt8} {c:Nat} (h:Sat cx β n H F w) (j:Nat) (hj:nth F j=some (browF e A l c)):Sat cx β n H (bsF A l::dropIx [j] 0 F) w:=by
 have q:takeIx F [j]=[browF e A l c]:=by simp only [takeIx,hj]
 refine h.fuse [j] (bsF A l) (fun w hm=>?_) (fun k hk=>?_) rfl (by rw [q];exact ⟨rfl,trivial⟩)
 ·rw [q] at hm
  exact z_aj (hm.fact _ List.mem_cons_self)
 ·rw [q]
  obtain ⟨_,ad,h,rfl⟩:=hk
  cases h
  exact ⟨_,List.mem_cons_self,rfl⟩
theorem z_xK (w:World) (sym:Bool):Con Tryz.prog z_rf #[.bool sym] w [] fun v Fs=> ∃b y,v= .pointer (some ⟨b,0,none⟩)/\y.ts=[]/\Fs=[bxF b ⟨sym,false,[]⟩ y]:=by
 refine z_ac (cx:=z_p0 w (Un [])) (z_qS w (Un [])) z_vX rfl rfl (β:=Va.z) [.c (.v (.bool sym))] 0 [] [] rfl rfl (Sat.start rfl) ?_
 intro m
 intro β w' hs
 have h2:=(hs.ofBk.nilRow z_bm 6).noMem (partsF []) (fun _ h=>(by cases h)) (fun k hk=>by obtain ⟨p,hp,_⟩:=hk;cases hp)
 exact (h2.sep [2,1,3,0] rfl ⟨rfl,rfl,rfl,rfl,trivial⟩).fin [0] ⟨_,⟨none,0,m,[]⟩,rfl,rfl,rfl⟩
def macT (k t:List UInt8):Bx.Term:=⟨2,k,t,0,[],[]⟩
noncomputable def macB (B:Bx.Box) (k t:List UInt8):List UInt8×Bx.Box:=if B.sym then B.tag (macT k t) else (hmL k t,B)
def boxOut (b:Nat) (r:List UInt8×Bx.Box) (v:Value) (Fs:List Fact):Prop:=
 ∃A c y',v= .slice A 32 c/\32<=c/\c<=maxLen/\y'.ts.map (·.1)=r.2.L/\Fs=[browF z_ab A r.1 c,bxF b r.2 y']
theorem Sat.unown {cx:Cx} {β:Va} {n:Nat} {H:List Bk} {F:List Fact} {w:World} (h:Sat cx β n H F w) (j:Nat) {size:Nat} {A:Option Addr} {k:Nat} {xs:List Value} (hj:nth F j=some (rdoF size A k xs)):Sat cx β n H (putAt F j (rdF size A k xs)) w:=
 h.upd hj rfl (Chg.refl _ _) (show (rdF size A k xs).p w from z_xv (h.get j hj)) (fun _ hk=> .inl hk)
theorem Sat.trd {cx:Cx} {β:Va} {n:Nat} {H:List Bk} {F:List Fact} {w:World} (h:Sat cx β n H F w) (js:List Nat) (t:Bx.Term) (a:TA) (hl:t.list=[]) (hm:t.mask=[]) (hj:takeIx F js=[bsF a.k t.key,bsF a.t t.text]):Sat cx β n H (trdF t a::F) w:=by
 have get: ∀f∈takeIx F js,f.p w:=fun f hf=>by obtain ⟨i,_,hi⟩:=z_bK hf;exact h.fact f (List.mem_of_getElem? hi)
 refine h.subN js (fun f hf=>?_) _ rfl ⟨get (bsF a.k t.key) (by rw [hj];simp),get (bsF a.t t.text) (by rw [hj];simp),by rw [hl];exact z_vQ w a.l,by rw [hm];exact Bs.nil w a.m⟩ (fun k hk=>?_)
 ·rw [hj] at hf
  simp only [List.mem_cons,List.not_mem_nil,or_false] at hf
  rcases hf with rfl | rfl<;>rfl
 ·rw [hj]
  rcases hk with hk | hk | hk | hk
  ·exact ⟨_,List.mem_cons_self,hk⟩
  ·exact ⟨bsF a.t t.text,by simp,hk⟩
  ·rw [hl] at hk
   exact absurd hk.1 (by simp)
  ·rw [hm] at hk
   exact absurd hk.1 (by simp)
theorem z_rw {ps:List Part}:(ps.map (·.2.1)).flatten=partsT ps:=by
 unfold partsT
 rw [List.flatMap_def]
theorem z_vR (w:World) (b0:Nat) (ps:List Part) (cP:Nat) (h:(partF (some ⟨b0,0,none⟩) ps).p w) (h0:ps≠[]) (hc:ps.length<=cP) (hl:ps.length<=1000) (hn:(partsT ps).length<=1000000):
  Con Tryz.prog z_bV #[.slice (some ⟨b0,0,none⟩) ps.length cP,.slice none 0 0] w [] (readOut (partsT ps)):=by
 match ps with
 | []=>exact absurd rfl h0
 | [p]=>
  have e:partsT [p]=p.2.1:=by simp [partsT]
  rw [e] at hn ⊢
  exact z_wD w (some ⟨b0,0,none⟩) p.1 cP p.2.2 p.2.1 h.1 (h.2 p List.mem_cons_self) (by omega)
 | p::q::r=>
  have k:=z_sw w b0 cP ((p::q::r).map partV) ((p::q::r).map (·.2.1)) (by rw [List.length_map];exact h.1) (fun i v l hv hl=>by
   rw [List.getElem?_map] at hv hl
   obtain ⟨x,hx,rfl⟩:=Option.map_eq_some_iff.1 hv
   obtain ⟨x',hx',rfl⟩:=Option.map_eq_some_iff.1 hl
   rw [hx] at hx'
   obtain rfl:=Option.some.inj hx'
   exact Bs.holds (h.2 x (List.mem_of_getElem? hx)) x.2.2) (by simp) (by rw [List.length_map];exact hc) (by rw [List.length_map];exact hl) (by rw [z_rw];omega)
  rw [List.length_map,z_rw] at k
  exact k
theorem partOld {P:Option Addr} {ps:List Part} {W w:World} (h:(partF P ps).p W) (ho:(oldF W).p w):(partF P ps).p w:=⟨Rd.old h.1 ho,fun p hp=>Rd.old (h.2 p hp) ho⟩
theorem z_sC {k t:List UInt8} (hk:k.length<=1000000) (hl:t.length<=1000000):TSz (macT k t):=⟨by show 2<1000;decide,by show 0<1000;decide,hk,hl,Nat.zero_le _,fun _ h=>(by cases h),Nat.zero_le _⟩
theorem z_xN (w:World) (b:Nat) (B:Bx.Box) (y:Lay) (K:Option Addr) (key:List UInt8) (cK:Nat) (b0:Nat) (ps:List Part) (cP:Nat) (hts:y.ts.map (·.1)=B.L) (hL:B.L.length<=4096) (hk:key.length<=1000000) (h0:ps≠[]) (hc:ps.length<=cP) (hl:ps.length<=1000) (hn:(partsT ps).length<=1000000) (hm:Mem w [bxF b B y,partF (some ⟨b0,0,none⟩) ps,bsF K key,oddF 3,firstF 1]):
  Con Tryz.prog z_fC #[ptrB b,.slice K key.length cK,.slice (some ⟨b0,0,none⟩) ps.length cP] w [bxF b B y] (boxOut b (macB B key (partsT ps))):=by
 have g:=z_n1 w (Un [bxF b B y])
 have hs0:Sat (z_hl w (Un [bxF b B y])) Va.z 0 [] [bxF b B y,partF (some ⟨b0,0,none⟩) ps,bsF K key,oddF 3,firstF 1] w:=hm.sat0 rfl (ownIn (Gs:=[bxF b B y]) (fun f hf=>by
  simp only [List.mem_cons,List.not_mem_nil,or_false] at hf
  rcases hf with rfl | rfl | rfl | rfl<;>rfl))
 refine z_ac (cx:=z_hl w (Un [bxF b B y])) g z_qr rfl rfl (β:=Va.z) [.c (.v (ptrB b)),.c (.v (.slice K key.length cK)),.c (.v (.slice (some ⟨b0,0,none⟩) ps.length cP))] 0 [] [bxF b B y,partF (some ⟨b0,0,none⟩) ps,bsF K key,oddF 3,firstF 1] rfl rfl hs0 ?_
 cases hsym:B.sym with
 | true=>
  refine ⟨.bool true,fun β w' hs=>z_mg (bx_bk (hs.get 0 rfl)) (o:=0) (by simp [boxCells,hsym]),?_⟩
  refine z_aa [] (fun β w' hs=>z_vR w' b0 ps cP (hs.get 1 rfl) h0 hc hl hn) ?_
  rintro v Fs ⟨A1,c1,rfl,q1,q2,rfl⟩
  refine z_aa [1] (R:=boxOut b (B.tag (macT key (partsT ps)))) (fun β w' hs=>by
   have k2:=(hs.unown 0 rfl).trd [3,0] (macT key (partsT ps)) ⟨K,A1,none,none,cK,c1,0,0⟩ rfl rfl rfl
   exact tag_c w' b B y (macT key (partsT ps)) ⟨K,A1,none,none,cK,c1,0,0⟩ hts hL (z_sC hk hn) (k2.mem.take (js:=[2,0]) rfl)) ?_
  rintro v Fs ⟨A2,c2,y2,rfl,r1,r2,r3,rfl⟩
  intro β w' hs
  have e:macB B key (partsT ps)=B.tag (macT key (partsT ps)):=by unfold macB;rw [hsym];rfl
  rw [e]
  exact hs.fin [0,1] ⟨A2,c2,y2,rfl,r1,r2,r3,rfl⟩
 | false=>
  refine ⟨.bool false,fun β w' hs=>z_mg (bx_bk (hs.get 0 rfl)) (o:=0) (by simp [boxCells,hsym]),?_⟩
  refine z_aa [] (fun β w' hs=>z_zh w' K (some ⟨b0,0,none⟩) key (partsT ps) cK ps.length cP (hs.get 2 rfl) hk hn (fun w2 ho=>z_vR w2 b0 ps cP (partOld (hs.get 1 rfl) ho) h0 hc hl hn) (hs.get 3 rfl) (hs.get 4 rfl)) ?_
  rintro v Fs ⟨A2,c2,rfl,r1,r2,rfl⟩
  intro β w' hs
  have e:macB B key (partsT ps)=(hmL key (partsT ps),B):=by unfold macB;rw [hsym];rfl
  rw [e]
  exact hs.fin [0,1] ⟨A2,c2,y,rfl,r1,r2,hts,rfl⟩
theorem z_wT (w:World):Con Tryz.prog z_e7 #[] w [] fun v Fs=> ∃A c,v= .slice A 28 c/\28<=c/\c<=maxLen/\Fs=[browF z_ab A Bx.front c]:=by
 refine z_ac (cx:=z_ex w (Un [])) (z_iu w (Un [])) z_kB rfl rfl (β:=Va.z) [] 0 [] [] rfl rfl (Sat.start rfl) ?_
 intro b
 refine ⟨0,4,24,28,_,_,Bx.front.map byte,rfl,⟨rfl,rfl,fun u hu=>by obtain rfl:=List.mem_singleton.1 hu;rfl⟩,rfl,rfl,by rw [maxLen_eq];decide,by decide,?_⟩
 intro A' c' h1 h2 _ β w' hs
 exact hs.fin [0] ⟨A',c',rfl,h1,h2,rfl⟩
theorem z_zE (n:Nat):be 4 n=Bx.be4 n:=by
 have key: ∀m:Nat,UInt8.ofNat (m%256)=UInt8.ofNat m:=fun m=>by
  apply UInt8.toNat_inj.1
  simp
 simp [be,Bx.be4,key,Nat.div_div_eq_div_mul]
theorem z_lW (w:World) (n:Nat) (hn:n<4294967296):Con Tryz.prog z_eU #[.int .i64 n] w [] fun v Fs=> ∃A c,v= .slice A 32 c/\32<=c/\c<=maxLen/\Fs=[browF z_ab A (Bx.handle n) c]:=by
 refine z_ac (cx:=z_d5 w (Un [])) (z_hL w (Un [])) z_jo rfl rfl (β:=Va.z) [.c (.v (.int .i64 n))] 0 [] [] rfl rfl (Sat.start rfl) ?_
 refine z_aa [] (fun β w' hs=>z_wT w') ?_
 rintro v Fs ⟨A,c,rfl,h1,h2,rfl⟩
 refine ⟨(n:Int),by rw [z_lV];omega,?_⟩
 refine ⟨(n:Int),by rw [z_aD];omega,?_⟩
 refine z_aa [] (fun β w' hs=>z_nE w' n 4 (by omega) (by decide)) ?_
 rintro v Fs ⟨A2,c2,rfl,_,_,rfl⟩
 refine ⟨1,28,32,Bx.front.map byte,(be 4 n).map byte,(Bx.handle n).map byte,rfl,fun β w hs=>z_aj (hs.get 0 rfl),z_as _,rfl,by rw [z_zE,<-List.map_append];rfl,by rw [maxLen_eq];decide,by decide,?_⟩
 intro A' c' q1 q2 _ β w' hs
 exact hs.fin [1] ⟨A',c',rfl,q1,q2,rfl⟩
theorem z_yf (w:World) (A B:Option Addr) (l m:List Nat) (c d:Nat) (hl:Rd 1 A l.length (ints l) w) (hm:Rd 1 B m.length (ints m) w) (hn:l.length<=1000000):
  Pu Tryz.prog z_fW #[.slice A l.length c,.slice B m.length d] w (.bool (decide (l=m))):=by
 have g:=z_i3 w (Un [])
 refine z_ac (cx:=z_fp w (Un [])) g z_lF rfl rfl (β:=Va.z) [.c (.v (.slice A l.length c)),.c (.v (.slice B m.length d))] 0 [] [oldF w] rfl rfl (z_aS rfl) ?_
 refine BIf.not (BIf.dec (fun h0=>?_) (fun h0=>?_))
 ·have hlen:l.length=m.length:=by omega
  refine z_ag 0 (fun k:Nat=>[(0,.c (.v (.slice A l.length c))),(1,.c (.v (.slice B m.length d))),(12,.c (.v (.int .i64 l.length))),(13,.c (.v (.int .i64 k)))]) (fun _=>[]) (fun _=>[oldF w])
   (fun k=>k<=l.length/\l.take k=m.take k) (fun k=>l.length - k) 0 ⟨Nat.zero_le _,by simp⟩ (Ent.same ⟨rfl,rfl,rfl,rfl,trivial⟩ rfl) g ?_
  rintro k ⟨hk,htk⟩
  refine BIf.dec (fun hlt=>?_) (fun hge=>?_)
  ·have hlt0:(k:Int)<l.length:=hlt
   have hkl:k<l.length:=by omega
   have hkm:k<m.length:=by omega
   obtain ⟨x,hx,_⟩:=at_lt hkl
   obtain ⟨y,hy,_⟩:=at_lt hkm
   obtain ⟨ad,hA,_⟩:=hl.2 (by omega)
   obtain ⟨bd,hB,_⟩:=hm.2 (by omega)
   refine z_af g z_kg (by kernel_rfl) [] [oldF w] Sub.refl ?_
   refine ⟨ad,k,hA,rfl,hkl,.int .i64 (x:Int),fun β w' hs=>Rd.cell1 (by have h:=Rd.old hl (hs.get 0 rfl);rw [hA] at h;exact h) (z_qx hx),?_⟩
   refine ⟨bd,k,hB,rfl,hkm,.int .i64 (y:Int),fun β w' hs=>Rd.cell1 (by have h:=Rd.old hm (hs.get 0 rfl);rw [hB] at h;exact h) (z_qx hy),?_⟩
   have hsn: ∀(l:List Nat) (x:Nat),l[k]?=some x->l.take (k+1)=l.take k++[x]:=fun l x h=>by rw [List.take_add_one,h];rfl
   refine BIf.not (BIf.dec (fun he=>?_) (fun he=>?_))
   ·have he0:x=y:=by have:(x:Int)=(y:Int):=he;omega
    refine ⟨((k+1:Nat):Int),by rw [wrap_i64 (by omega) (by omega)];rfl,?_⟩
    refine ⟨k+1,⟨hkl,by rw [hsn l x hx,hsn m y hy,htk,he0]⟩,by omega,Ent.same ⟨rfl,rfl,rfl,rfl,trivial⟩ rfl⟩
   ·have he0: ¬x=y:=fun q=>he (by rw [q])
    intro β w' hs
    refine hs.fin [] ⟨?_,rfl⟩
    show Value.bool false=_
    congr 1
    refine (decide_eq_false fun q=>he0 ?_).symm
    rw [q,hy] at hx
    exact (Option.some.inj hx).symm
  ·have hge0: ¬(k:Int)<l.length:=hge
   obtain rfl:k=l.length:=by omega
   rw [List.take_length,List.take_of_length_le (by omega)] at htk
   intro β w' hs
   refine hs.fin [] ⟨?_,rfl⟩
   show Value.bool true=_
   congr 1
   exact (decide_eq_true htk).symm
 ·intro β w' hs
  refine hs.fin [] ⟨?_,rfl⟩
  show Value.bool false=_
  congr 1
  exact (decide_eq_false (fun h=>h0 (by rw [h]))).symm
open Classical in
theorem z_yA (w:World) (s t:Bx.Term) (a b:TA) (hs:TRd s a w) (ht:TRd t b w) (hz:TSz s):
  Pu Tryz.prog z_gq #[.agg (termV s a).toArray,.agg (termV t b).toArray] w (.bool (decide (s=t))):=by
 have g:=z_iO w (Un [])
 have hlist:=hz.list
 refine z_ac (cx:=z_cV w (Un [])) g z_lA rfl rfl (β:=Va.z) [.agg (termS s a),.agg (termS t b)] 0 [] [oldF w] rfl rfl (z_aS rfl) ?_
 have no: ∀ {n:Nat} {H:List Bk},¬s=t-> ∀β w',Sat (z_cV w (Un [])) β n H [oldF w] w'->Fin w [] (fun u Fs=>u= .bool (decide (s=t))/\Fs=[]) (.bool false) w':=fun h β w' hs=>by
  refine (hs.keepB (List.nil_sublist _)).fin [] ⟨?_,rfl⟩
  show Value.bool false=_
  congr 1
  exact (decide_eq_false h).symm
 obtain ⟨k1,hk1⟩: ∃k1:Int,(s.kind:Int)=k1:=⟨_,rfl⟩
 obtain ⟨k2,hk2⟩: ∃k2:Int,(t.kind:Int)=k2:=⟨_,rfl⟩
 obtain ⟨r1,hr1⟩: ∃r1:Int,(s.rounds:Int)=r1:=⟨_,rfl⟩
 obtain ⟨r2,hr2⟩: ∃r2:Int,(t.rounds:Int)=r2:=⟨_,rfl⟩
 rw [show termS s a=[.v (.int .i64 k1),.v (.slice a.k s.key.length a.kc),.v (.slice a.t s.text.length a.tc),.v (.int .i64 r1),.v (.slice a.l s.list.length a.lc),.v (.slice a.m s.mask.length a.mc)] by rw [<-hk1,<-hr1];rfl,show termS t b=[.v (.int .i64 k2),.v (.slice b.k t.key.length b.kc),.v (.slice b.t t.text.length b.tc),.v (.int .i64 r2),.v (.slice b.l t.list.length b.lc),.v (.slice b.m t.mask.length b.mc)] by rw [<-hk2,<-hr2];rfl]
 conv=>whnf
 generalize h1:decide (k1=k2)=b1
 cases b1 with
 | false=>exact no (fun q=>of_decide_eq_false h1 (by rw [<-hk1,<-hk2,q]))
 | true=>
 obtain ⟨b2,h2⟩: ∃x,decide (s.key=t.key)=x:=⟨_,rfl⟩
 refine z_ah (v:= .bool b2) (fun β w' hs'=>by
  have h:=pu_of (z_ra w' a.k b.k s.key t.key a.kc b.kc (Rd.old hs.hk (hs'.get 0 rfl)) (Rd.old ht.hk (hs'.get 0 rfl)))
  rw [h2] at h
  exact h) ?_
 cases b2 with
 | false=>exact no (fun q=>of_decide_eq_false h2 (by rw [q]))
 | true=>
 obtain ⟨b3,h3⟩: ∃x,decide (s.text=t.text)=x:=⟨_,rfl⟩
 refine z_ah (v:= .bool b3) (fun β w' hs'=>by
  have h:=pu_of (z_ra w' a.t b.t s.text t.text a.tc b.tc (Rd.old hs.ht (hs'.get 0 rfl)) (Rd.old ht.ht (hs'.get 0 rfl)))
  rw [h3] at h
  exact h) ?_
 cases b3 with
 | false=>exact no (fun q=>of_decide_eq_false h3 (by rw [q]))
 | true=>
 conv=>whnf
 generalize h4:decide (r1=r2)=b4
 cases b4 with
 | false=>exact no (fun q=>of_decide_eq_false h4 (by rw [<-hr1,<-hr2,q]))
 | true=>
 obtain ⟨b5,h5⟩: ∃x,decide (s.list=t.list)=x:=⟨_,rfl⟩
 refine z_ah (v:= .bool b5) (fun β w' hs'=>by
  have h:=z_yf w' a.l b.l s.list t.list a.lc b.lc (Rd.old hs.hl (hs'.get 0 rfl)) (Rd.old ht.hl (hs'.get 0 rfl)) (by omega)
  rw [h5] at h
  exact h) ?_
 cases b5 with
 | false=>exact no (fun q=>of_decide_eq_false h5 (by rw [q]))
 | true=>
 obtain ⟨b6,h6⟩: ∃x,decide (s.mask=t.mask)=x:=⟨_,rfl⟩
 refine z_ah (v:= .bool b6) (fun β w' hs'=>by
  have h:=pu_of (z_ra w' a.m b.m s.mask t.mask a.mc b.mc (Rd.old hs.hm (hs'.get 0 rfl)) (Rd.old ht.hm (hs'.get 0 rfl)))
  rw [h6] at h
  exact h) ?_
 cases b6 with
 | false=>exact no (fun q=>of_decide_eq_false h6 (by rw [q]))
 | true=>
 intro β w' hs'
 refine (hs'.keepB (List.nil_sublist _)).fin [] ⟨?_,rfl⟩
 show Value.bool true=_
 congr 1
 refine (decide_eq_true ?_).symm
 have e1:s.kind=t.kind:=by have:=of_decide_eq_true h1;omega
 have e4:s.rounds=t.rounds:=by have:=of_decide_eq_true h4;omega
 have e2:=of_decide_eq_true h2
 have e3:=of_decide_eq_true h3
 have e5:=of_decide_eq_true h5
 have e6:=of_decide_eq_true h6
 obtain ⟨sk,skk,st,sr,sl,sm⟩:=s
 obtain ⟨tk,tkk,tt,tr,tl,tm⟩:=t
 simp only at e1 e2 e3 e4 e5 e6
 subst e1 e2 e3 e4 e5 e6
 rfl
def rCells (B:Bx.Box) (y:Lay):List Value:=[.bool B.sym,.slice y.A B.L.length y.c,.bool B.full]
def rbxFs (b:Nat) (B:Bx.Box) (y:Lay):List Fact:=[bkF b z_aY (rCells B y),rowF z_aJ 6 (.slice y.A B.L.length y.c) B.L.length (termsV y.ts),partsF y.ts]
def rbxF (b:Nat) (B:Bx.Box) (y:Lay):Fact:=sepF (rbxFs b B y)
def rtagOut (b:Nat) (r:List UInt8×Bx.Box) (v:Value) (Fs:List Fact):Prop:=
 ∃A c y',v= .slice A 32 c/\32<=c/\c<=maxLen/\y'.ts.map (·.1)=r.2.L/\Fs=[browF z_ab A r.1 c,rbxF b r.2 y']
theorem z_tb {t:Bx.Term}: ∀ {L:List Bx.Term} {k:Nat},L[k]?=some t->t∉L.take k->Bx.place t L=some k
 | x::r,0,h,_=>by
  obtain rfl:x=t:=by simpa using h
  simp [Bx.place]
 | x::r,k+1,h,hn=>by
  have hx: ¬x=t:=fun q=>hn (by simp [q])
  have h2:=z_tb (L:=r) (k:=k) (by simpa using h) (fun q=>hn (by simp [q]))
  simp only [Bx.place,if_neg hx,h2]
  rfl
open Classical in
theorem z_zx (w:World) (b:Nat) (B:Bx.Box) (y:Lay) (t:Bx.Term) (a:TA) (hts:y.ts.map (·.1)=B.L) (hL:B.L.length<=4096) (hsz: ∀t∈B.L,TSz t) (hs:TSz t) (hm:Mem w [rbxF b B y,partsF [(t,a)]]):
  Con Tryz.prog z_gZ #[ptrB b,.agg (termV t a).toArray] w [rbxF b B y,partsF [(t,a)]] (rtagOut b (B.tag t)):=by
 have g:=z_j5 w (Un [rbxF b B y,partsF [(t,a)]])
 have hs0:Sat (z_bY w (Un [rbxF b B y,partsF [(t,a)]])) Va.z 0 [] [rbxF b B y,partsF [(t,a)]] w:=hm.sat0 rfl (fun f hf _ k hk=>⟨f,hf,hk⟩)
 have hs1:=hs0.unsep 0 rfl
 have hlen:y.ts.length=B.L.length:=by rw [<-hts,List.length_map]
 refine z_ac (cx:=z_bY w (Un [rbxF b B y,partsF [(t,a)]])) g z_my rfl rfl (β:=Va.z) [.c (.v (ptrB b)),.agg (termS t a)] 0 [] (rbxFs b B y++[partsF [(t,a)]]) rfl rfl hs1 ?_
 refine ⟨.slice y.A B.L.length y.c,fun β w' hs'=>z_fX (hs'.get 0 rfl) (o:=1) rfl,?_⟩
 refine z_ag 1 (fun k:Nat=>[(0,.c (.v (ptrB b))),(3,.c (.p 0 0)),(10,.c (.v (.slice y.A B.L.length y.c))),(11,.c (.v (.int .i64 B.L.length))),(12,.c (.v (.int .i64 k)))]) (fun _=>[⟨0,z_aJ,termS t a⟩]) (fun _=>rbxFs b B y++[partsF [(t,a)]])
  (fun k=>k<=B.L.length/\t∉B.L.take k) (fun k=>B.L.length - k) 0 ⟨Nat.zero_le _,by simp⟩ (Ent.same ⟨rfl,rfl,rfl,rfl,rfl,trivial⟩ rfl) g ?_
 rintro k ⟨hk,hno⟩
 refine BIf.dec (fun hlt=>?_) (fun hge=>?_)
 ·have hlt0:(k:Int)<B.L.length:=hlt
  have hkl:k<B.L.length:=by omega
  obtain ⟨q,hq,hqm⟩:=at_lt (l:=y.ts) (k:=k) (by omega)
  have hqL:B.L[k]?=some q.1:=by rw [<-hts,List.getElem?_map,hq];rfl
  have hqB:q.1∈B.L:=List.mem_of_getElem? hqL
  have hrd: ∀w',(rowF z_aJ 6 (.slice y.A B.L.length y.c) B.L.length (termsV y.ts)).p w'->Rd 6 y.A B.L.length (termsV y.ts) w':=fun w' h=>z_aj h
  obtain ⟨ad,hA,_⟩:=(hrd w (hs1.get 1 rfl)).2 (by omega)
  refine ⟨ad,k,hA,rfl,hkl,?_⟩
  refine ⟨termV q.1 q.2,rfl,fun β w' hs'=>?_,?_⟩
  ·have h:=hrd w' (hs'.get 1 rfl)
   rw [<-hlen] at h
   obtain ⟨hil,hie⟩:=List.getElem?_eq_some_iff.1 hq
   have h2:=Rd.elem (f:=fun p:Bx.Term×TA=>termV p.1 p.2) (fun _=>rfl) h hA hil
   rw [hie] at h2
   exact h2
  refine z_ah (fun β w' hs'=>z_yA w' q.1 t q.2 a ((show (partsF y.ts).p w' from hs'.get 2 rfl) q hqm) ((show (partsF [(t,a)]).p w' from hs'.get 3 rfl) (t,a) (List.mem_singleton.2 rfl)) (hsz _ hqB)) ?_
  refine BIf.dec (fun he=>?_) (fun he=>?_)
  ·have he0:q.1=t:=he
   refine ⟨((k+1:Nat):Int),by rw [wrap_i64 (by omega) (by omega)];rfl,?_⟩
   refine z_aa [] (fun β w' hs'=>z_lW w' (k+1) (by omega)) ?_
   rintro v Fs ⟨A1,c1,rfl,q1,q2,rfl⟩
   have htag:B.tag t=(Bx.handle (k+1),B):=by unfold Bx.Box.tag;rw [z_tb (by rw [hqL,he0]) hno]
   intro β w' hs'
   have hs2:=(hs'.keepB (List.nil_sublist _)).sep [1,2,3] rfl ⟨rfl,rfl,rfl,trivial⟩
   exact hs2.fin [1,0] ⟨A1,c1,y,rfl,q1,q2,by rw [htag];exact hts,by rw [htag];rfl⟩
  ·have he0: ¬q.1=t:=he
   refine ⟨((k+1:Nat):Int),by rw [wrap_i64 (by omega) (by omega)];rfl,?_⟩
   refine ⟨k+1,⟨hkl,?_⟩,by omega,?_⟩
   ·rw [List.take_add_one,hqL]
    intro q'
    rcases List.mem_append.1 q' with q' | q'
    ·exact hno q'
    ·exact he0 (List.mem_singleton.1 q').symm
   ·exact Ent.mk' ⟨rfl,rfl,rfl,rfl,rfl,trivial⟩ rfl (fun β w' hs'=>(hs'.keepB (List.sublist_cons_self _ _)).lower)
 have hge0: ¬(k:Int)<B.L.length:=hge
 obtain rfl:k=B.L.length:=by omega
 rw [List.take_length] at hno
 have hpl:=z_rg hno
 refine ⟨.slice y.A B.L.length y.c,fun β w' hs'=>z_fX (hs'.get 0 rfl) (o:=1) rfl,?_⟩
 refine BIf.dec (fun hge=>?_) (fun hlt=>?_)
 ·have hge0:(4096:Int)<=(B.L.length:Int):=hge
  have hge1:4096<=B.L.length:=by omega
  refine ⟨_,fun β w' hs'=>hs'.bkSet 0 (o:=2) (us:=[.bool true]) rfl (by show 3<=3;decide) (z_a9 rfl),?_⟩
  refine ⟨32,32,rfl,rfl,Nat.le_refl _,by decide,by decide,?_⟩
  intro b2
  have htag:B.tag t=(Bx.noughts,{B with full:=true}):=by unfold Bx.Box.tag;rw [hpl];simp only;rw [if_pos hge1]
  intro β w' hs'
  have hs2:=(hs'.keepB (List.nil_sublist _)).sep [1,2,3] rfl ⟨rfl,rfl,rfl,trivial⟩
  exact hs2.fin [1,0] ⟨some ⟨b2,0,none⟩,32,y,rfl,Nat.le_refl _,by decide,by rw [htag];exact hts,by rw [htag];rfl⟩
 have hlt0: ¬(4096:Int)<=(B.L.length:Int):=hlt
 have hlt1: ¬4096<=B.L.length:=by omega
 have htag:B.tag t=(Bx.handle (B.L.length+1),{B with L:=B.L++[t]}):=by unfold Bx.Box.tag;rw [hpl];simp only;rw [if_neg hlt1]
 have hone: ∀u∈termsV y.ts,u.oneCell'=true:=by
  intro u hu
  obtain ⟨p,_,hp⟩:=List.mem_flatMap.1 hu
  exact z_jN _ _ u hp
 have fin_: ∀ {A':Option Addr} {c':Nat} {β:Va} {w':World} {n:Nat} {H:List Bk} {F:List Fact} {A9:Option Addr} {c9:Nat} (_:32<=c9) (_:c9<=maxLen) (js:List Nat),nodupB js=true->takeIx F js=[browF z_ab A9 (Bx.handle (B.L.length+1)) c9,bkF b z_aY [.bool B.sym,.slice A' (B.L.length+1) c',.bool B.full],rowF z_aJ 6 (.slice A' (B.L.length+1) c') (B.L.length+1) (termsV (y.ts++[(t,a)])),partsF y.ts,partsF [(t,a)]]->
   Sat (z_bY w (Un [rbxF b B y,partsF [(t,a)]])) β n H F w'->Fin w [rbxF b B y,partsF [(t,a)]] (rtagOut b (B.tag t)) (.slice A9 32 c9) w':=by
  intro A' c' β w' n H F A9 c9 q1 q2 js hnd hjs hs'
  have hs2:=(hs'.keepB (List.nil_sublist _)).perm js hnd
  rw [hjs] at hs2
  have hs3:=hs2.fuse [3,4] (partsF (y.ts++[(t,a)])) (fun w hm=>?_) (fun k hk=>?_) rfl ⟨rfl,rfl,trivial⟩
  ·have hs4:=hs3.sep [2,3,0] rfl ⟨rfl,rfl,rfl,trivial⟩
   refine hs4.fin [1,0] ⟨A9,c9,⟨A',c',0,y.ts++[(t,a)]⟩,rfl,q1,q2,?_,?_⟩
   ·rw [htag]
    show (y.ts++[(t,a)]).map (·.1)=B.L++[t]
    rw [List.map_append,hts]
    rfl
   ·rw [htag]
    have e:rbxF b {B with L:=B.L++[t]} ⟨A',c',0,y.ts++[(t,a)]⟩=sepF [bkF b z_aY [.bool B.sym,.slice A' (B.L.length+1) c',.bool B.full],rowF z_aJ 6 (.slice A' (B.L.length+1) c') (B.L.length+1) (termsV (y.ts++[(t,a)])),partsF (y.ts++[(t,a)])]:=by
     simp [rbxF,rbxFs,rCells]
    show _=[browF z_ab A9 (Bx.handle (B.L.length+1)) c9,rbxF b {B with L:=B.L++[t]} ⟨A',c',0,y.ts++[(t,a)]⟩]
    rw [e]
    rfl
  ·have hm':Mem w [partsF y.ts,partsF [(t,a)]]:=hm
   intro p hp
   rcases List.mem_append.1 hp with hp | hp
   ·exact hm'.fact (partsF y.ts) (by simp) p hp
   ·exact hm'.fact (partsF [(t,a)]) (by simp) p hp
  ·show Un [partsF y.ts,partsF [(t,a)]] k
   obtain ⟨p,hp,hk⟩:=hk
   rcases List.mem_append.1 hp with hp | hp
   ·exact ⟨partsF y.ts,by simp,p,hp,hk⟩
   ·exact ⟨partsF [(t,a)],by simp,p,hp,hk⟩
 refine z_af g z_j3 (by kernel_rfl) [⟨0,z_aJ,termS t a⟩] [bkF b z_aY (rCells B y)] (subPerm [0]) ?_
 refine ⟨.slice y.A B.L.length y.c,fun β w' hs'=>z_fX (hs'.get 0 rfl) (o:=1) rfl,?_⟩
 have hcap:B.L.length+1<=maxLen:=by rw [maxLen_eq];omega
 have hbx: ∀(A':Option Addr) (c':Nat),putAll (rCells B y) 1 [.slice A' (B.L.length+1) c']=[.bool B.sym,.slice A' (B.L.length+1) c',.bool B.full]:=fun _ _=>rfl
 refine ⟨?_,?_⟩
 ·intro b1
  refine ⟨subPerm [1],?_⟩
  refine ⟨?_,?_⟩
  ·refine ⟨0,0,B.L.length,[],termsV y.ts,termsV y.ts,rfl,fun β w' hs'=>z_aj (hs'.get 2 rfl),hone,Nat.zero_add _,rfl,by omega,by show B.L.length*112<=_;omega,?_⟩
   intro A1 c1 q1 q2 q3
   refine ⟨subPerm [1],?_⟩
   intro b7
   refine ⟨subPerm [2],?_⟩
   refine ⟨1,B.L.length,B.L.length+1,termsV y.ts,termV t a,termsV (y.ts++[(t,a)]),rfl,fun β w' hs'=>z_aj (hs'.get 0 rfl),z_jN t a,rfl,by simp [termsV],hcap,by show (B.L.length+1)*112<=_;omega,?_⟩
   intro A' c' q4 q5 q6
   refine ⟨subPerm [2],?_⟩
   refine ⟨subPerm [2],?_⟩
   refine ⟨_,fun β w' hs'=>hs'.bkSet 2 (o:=1) (us:=[.slice A' (B.L.length+1) c']) rfl (by show 2<=3;decide) (z_a9 rfl),?_⟩
   rw [hbx]
   refine ⟨.slice A' (B.L.length+1) c',fun β w' hs'=>z_fX (hs'.get 2 rfl) (o:=1) rfl,?_⟩
   refine z_aa [] (fun β w' hs'=>z_lW w' (B.L.length+1) (by omega)) ?_
   rintro v Fs ⟨A9,c9,rfl,r1,r2,rfl⟩
   intro β w' hs'
   exact fin_ r1 r2 [0,3,2,5,6] rfl rfl hs'
  ·intro b7
   refine ⟨subPerm [2],?_⟩
   refine ⟨1,0,B.L.length,[],termsV y.ts,termsV y.ts,rfl,fun β w' hs'=>z_aj (hs'.get 3 rfl),hone,Nat.zero_add _,rfl,by omega,by show B.L.length*112<=_;omega,?_⟩
   intro A1 c1 q1 q2 q3
   refine ⟨subPerm [2],?_⟩
   refine ⟨1,B.L.length,B.L.length+1,termsV y.ts,termV t a,termsV (y.ts++[(t,a)]),rfl,fun β w' hs'=>z_aj (hs'.get 0 rfl),z_jN t a,rfl,by simp [termsV],hcap,by show (B.L.length+1)*112<=_;omega,?_⟩
   intro A' c' q4 q5 q6
   refine ⟨subPerm [2],?_⟩
   refine ⟨subPerm [2],?_⟩
   refine ⟨_,fun β w' hs'=>hs'.bkSet 2 (o:=1) (us:=[.slice A' (B.L.length+1) c']) rfl (by show 2<=3;decide) (z_a9 rfl),?_⟩
   rw [hbx]
   refine ⟨.slice A' (B.L.length+1) c',fun β w' hs'=>z_fX (hs'.get 2 rfl) (o:=1) rfl,?_⟩
   refine z_aa [] (fun β w' hs'=>z_lW w' (B.L.length+1) (by omega)) ?_
   rintro v Fs ⟨A9,c9,rfl,r1,r2,rfl⟩
   intro β w' hs'
   exact fin_ r1 r2 [0,3,2,5,6] rfl rfl hs'
 ·intro b7
  refine ⟨subPerm [1],?_⟩
  intro b1
  refine ⟨subPerm [2],?_⟩
  refine ⟨0,0,B.L.length,[],termsV y.ts,termsV y.ts,rfl,fun β w' hs'=>z_aj (hs'.get 3 rfl),hone,Nat.zero_add _,rfl,by omega,by show B.L.length*112<=_;omega,?_⟩
  intro A1 c1 q1 q2 q3
  refine ⟨subPerm [2],?_⟩
  refine ⟨0,B.L.length,B.L.length+1,termsV y.ts,termV t a,termsV (y.ts++[(t,a)]),rfl,fun β w' hs'=>z_aj (hs'.get 1 rfl),z_jN t a,rfl,by simp [termsV],hcap,by show (B.L.length+1)*112<=_;omega,?_⟩
  intro A' c' q4 q5 q6
  refine ⟨subPerm [2],?_⟩
  refine ⟨subPerm [2],?_⟩
  refine ⟨_,fun β w' hs'=>hs'.bkSet 2 (o:=1) (us:=[.slice A' (B.L.length+1) c']) rfl (by show 2<=3;decide) (z_a9 rfl),?_⟩
  rw [hbx]
  refine ⟨.slice A' (B.L.length+1) c',fun β w' hs'=>z_fX (hs'.get 2 rfl) (o:=1) rfl,?_⟩
  refine z_aa [] (fun β w' hs'=>z_lW w' (B.L.length+1) (by omega)) ?_
  rintro v Fs ⟨A9,c9,rfl,r1,r2,rfl⟩
  intro β w' hs'
  exact fin_ r1 r2 [0,3,1,5,6] rfl rfl hs'
theorem row_D {size e n c k:Nat} {A:Option Addr} {xs:List Value} (h:(rdF size A n xs).D k):(rowF e size (.slice A n c) n xs).D k:=by
 obtain ⟨_,ad,rfl,rfl⟩:=h
 rfl
theorem Sat.part2o {cx:Cx} {β:Va} {n:Nat} {H:List Bk} {F:List Fact} {w:World} (h:Sat cx β n H F w) (js:List Nat) (t:Bx.Term) (a:TA) (hl:t.list=[]) (hm:t.mask=[]) (hj:takeIx F js=[browF z_ab a.k t.key a.kc,browF z_ab a.t t.text a.tc]) (hn:nodupB js=true:=by rfl):Sat cx β n H (partsF [(t,a)]::dropIx js 0 F) w:=
 h.fuse js (partsF [(t,a)]) (fun w hw p hp=>by
  rw [hj] at hw
  obtain rfl:=List.mem_singleton.1 hp
  exact ⟨z_aj (hw.fact (browF z_ab a.k t.key a.kc) (by simp)),z_aj (hw.fact (browF z_ab a.t t.text a.tc) (by simp)),by rw [hl];exact z_vQ w a.l,by rw [hm];exact Bs.nil w a.m⟩) (fun k hk=>by
  rw [hj]
  obtain ⟨p,hp,hk⟩:=hk
  obtain rfl:=List.mem_singleton.1 hp
  rcases hk with hk | hk | hk | hk
  ·exact ⟨_,List.mem_cons_self,row_D hk⟩
  ·exact ⟨browF z_ab a.t t.text a.tc,by simp,row_D hk⟩
  ·rw [hl] at hk
   exact absurd hk.1 (by simp)
  ·rw [hm] at hk
   exact absurd hk.1 (by simp)) hn (by rw [hj];exact ⟨rfl,rfl,trivial⟩)
theorem z_xS {b:Nat} {B:Bx.Box} {y:Lay} {w:World} (h:(rbxF b B y).p w):(bkF b z_aY (rCells B y)).p w:=h.1 _ (by simp [rbxFs])
theorem z_zi (w:World) (b:Nat) (B:Bx.Box) (y:Lay) (K P:Option Addr) (key text:List UInt8) (cK cP:Nat) (hts:y.ts.map (·.1)=B.L) (hL:B.L.length<=4096) (hsz: ∀t∈B.L,TSz t) (hk:key.length<=1000000) (hn:text.length<=1000000) (hm:Mem w [rbxF b B y,bsF K key,bsF P text,oddF 10]):
  Con Tryz.prog z_dS #[ptrB b,.slice K key.length cK,.slice P text.length cP] w [rbxF b B y] (rtagOut b (macB B key text)):=by
 have g:=z_jA w (Un [rbxF b B y])
 have hs0:Sat (z_c9 w (Un [rbxF b B y])) Va.z 0 [] [rbxF b B y,bsF K key,bsF P text,oddF 10] w:=hm.sat0 rfl (ownIn (Gs:=[rbxF b B y]) (fun f hf=>by
  simp only [List.mem_cons,List.not_mem_nil,or_false] at hf
  rcases hf with rfl | rfl | rfl | rfl<;>rfl))
 refine z_ac (cx:=z_c9 w (Un [rbxF b B y])) g z_me rfl rfl (β:=Va.z) [.c (.v (ptrB b)),.c (.v (.slice K key.length cK)),.c (.v (.slice P text.length cP))] 0 [] _ rfl rfl hs0 ?_
 cases hsym:B.sym with
 | true=>
  have e:macB B key text=B.tag (macT key text):=by unfold macB;rw [hsym];rfl
  rw [e]
  refine ⟨.bool true,fun β w' hs=>z_fX (z_xS (hs.get 0 rfl)) (o:=0) (by simp [rCells,hsym]),?_⟩
  refine z_aa [] (fun β w' hs=>copyC w' K key cK (hs.get 1 rfl) (by rw [z_o8];omega)) ?_
  rintro v Fs ⟨A1,c1,rfl,q1,q2,rfl⟩
  refine z_oF [] (fun β w' hs=>copyC w' P text cP (hs.get 3 rfl) (by rw [z_o8];omega)) ?_
  rintro v Fs ⟨A2,c2,rfl,q3,q4,rfl⟩
  refine ⟨_,_,fun β w' hs=>hs.part2o [1,0] (macT key text) ⟨A1,A2,none,none,c1,c2,0,0⟩ rfl rfl rfl,?_⟩
  refine z_aa [1,0] (R:=rtagOut b (B.tag (macT key text))) (fun β w' hs=>z_zx w' b B y (macT key text) ⟨A1,A2,none,none,c1,c2,0,0⟩ hts hL hsz (z_sC hk hn) (hs.mem.take (js:=[1,0]) rfl)) ?_
  rintro v Fs ⟨A3,c3,y2,rfl,r1,r2,r3,rfl⟩
  intro β w' hs
  exact hs.fin [0,1] ⟨A3,c3,y2,rfl,r1,r2,r3,rfl⟩
 | false=>
  have e:macB B key text=(hmL key text,B):=by unfold macB;rw [hsym];rfl
  rw [e]
  refine ⟨.bool false,fun β w' hs=>z_fX (z_xS (hs.get 0 rfl)) (o:=0) (by simp [rCells,hsym]),?_⟩
  refine z_aa [] (fun β w' hs=>z_x7 w' K P key text cK cP (hs.get 1 rfl) (hs.get 2 rfl) hk hn (hs.get 3 rfl)) ?_
  rintro v Fs ⟨A2,c2,rfl,r1,r2,rfl⟩
  intro β w' hs
  exact hs.fin [0,1] ⟨A2,c2,y,rfl,r1,r2,hts,rfl⟩
structure Nf (B:Bx.Box) (l:List Nat) (m:List UInt8):Prop where
 mask:m.length=32
 sorted:l.Pairwise (· < ·)
 nums: ∀n∈l,1<=n/\n<=B.L.length
 base: ∀n∈l,∀u,B.L[n - 1]?=some u->u.kind≠4
structure K4 (B:Bx.Box) (t:Bx.Term):Prop where
 nf:Nf B t.list t.mask
 form:t=turnT t.list t.mask
 one: ¬(t.list.length=1/\t.mask=Bx.noughts)
 raw: ¬(t.list=[]/\ ¬t.mask.take 28=Bx.front)
structure BInv (B:Bx.Box):Prop where
 sz: ∀t∈B.L,TSz t
 nodup:B.L.Nodup
 k4: ∀t∈B.L,t.kind=4->K4 B t
 plain:B.sym=false->B.L=[]
 len:B.L.length<=4096
structure Ext (B B':Bx.Box):Prop where
 sym:B'.sym=B.sym
 full:B'.full=B.full
 len:B'.L.length<=B.L.length+1
 inv:BInv B'
 mono: ∀h r,B.opens h=some r->B'.opens h=some r
theorem Ext.refl {B:Bx.Box} (h:BInv B):Ext B B:=⟨rfl,rfl,Nat.le_succ _,h,fun _ _ h=>h⟩
theorem Nf.grow {B:Bx.Box} {l:List Nat} {m:List UInt8} (t:Bx.Term) (h:Nf B l m):Nf {B with L:=B.L++[t]} l m:=by
 refine ⟨h.mask,h.sorted,fun n hn=>?_,fun n hn u hu=>?_⟩
 ·have:=h.nums n hn
  simp only [List.length_append,List.length_cons,List.length_nil]
  omega
 ·have:=h.nums n hn
  refine h.base n hn u ?_
  simp only at hu
  rw [List.getElem?_append_left (by omega)] at hu
  exact hu
theorem z_t5 {B:Bx.Box} {t:Bx.Term} {h:List UInt8} {r:List Nat×List UInt8} (h0:B.opens h=some r):({B with L:=B.L++[t]}:Bx.Box).opens h=some r:=by
 unfold Bx.Box.opens at h0 ⊢
 split at h0
 ·rename_i h32
  rw [if_pos h32]
  split at h0
  ·rename_i hs
   rw [if_pos hs]
   split at h0
   ·cases h0
   ·rename_i hn
    have hn': ¬(Bx.num (h.drop 28)<1\/(B.L++[t]).length<Bx.num (h.drop 28)):=by
     rw [List.length_append]
     omega
    rw [if_neg hn']
    simp only
    rw [List.getElem?_append_left (by omega)]
    exact h0
  ·rename_i hs
   rw [if_neg hs]
   exact h0
 ·cases h0
theorem K4.grow {B:Bx.Box} {t:Bx.Term} (u:Bx.Term) (h:K4 B t):K4 {B with L:=B.L++[u]} t:=⟨h.nf.grow u,h.form,h.one,h.raw⟩
theorem z_yB {B:Bx.Box} (hi:BInv B) (hs:B.sym=true) (hl:B.L.length<4096) {t:Bx.Term} (hz:TSz t) (h4:t.kind=4->K4 B t):Ext B (B.tag t).2/\ ∃k,(B.tag t).1=Bx.handle (k+1)/\(B.tag t).2.L[k]?=some t:=by
 unfold Bx.Box.tag
 cases hp:Bx.place t B.L with
 | some i=>exact ⟨Ext.refl hi,i,rfl,Bx.place_some hp⟩
 | none=>
  simp only
  rw [if_neg (by omega)]
  refine ⟨⟨rfl,rfl,by simp,⟨fun u hu=>?_,?_,fun u hu hk=>?_,fun q=>?_,?_⟩,fun h r q=>z_t5 q⟩,B.L.length,rfl,by simp⟩
  ·rcases List.mem_append.1 hu with hu | hu
   ·exact hi.sz u hu
   ·obtain rfl:=List.mem_singleton.1 hu
    exact hz
  ·refine List.nodup_append.2 ⟨hi.nodup,List.nodup_cons.2 ⟨fun q=>(by cases q),List.nodup_nil⟩,fun a ha b hb q=>?_⟩
   obtain rfl:=List.mem_singleton.1 hb
   exact Bx.place_none hp (q▸ha)
  ·rcases List.mem_append.1 hu with hu | hu
   ·exact (hi.k4 u hu hk).grow t
   ·obtain rfl:=List.mem_singleton.1 hu
    exact (h4 hk).grow u
  ·rw [show ({B with L:=B.L++[t]}:Bx.Box).sym=B.sym from rfl,hs] at q
   cases q
  ·simp only [List.length_append,List.length_cons,List.length_nil]
   omega
theorem z_cN {l:List Value} {n:Nat} (h:l.length=n+1): ∃a r,l=a::r/\r.length=n:=by
 cases l with
 | nil=>cases h
 | cons a r=>exact ⟨a,r,rfl,by simpa using h⟩
theorem cut_D {A:Option Addr} {l m:List UInt8} {c i k:Nat} (hm:m.length<=l.length) (h:(bsF (cutA A c i 1) m).D k):(bsF A l).D k:=by
 obtain ⟨h0,ad,hA,rfl⟩:=h
 have h0':0<m.length*1:=h0
 unfold cutA at hA
 split at hA
 ·exact ⟨by show 0<l.length*1;omega,ad,hA,rfl⟩
 ·cases A with
  | none=>cases hA
  | some a=>
   have hA':a.add (i*1)=ad:=by simpa using hA
   exact ⟨by show 0<l.length*1;omega,a,rfl,by rw [<-hA'];unfold Addr.add;split<;>rfl⟩
def GoodT (B:Bx.Box) (r:List UInt8×Bx.Box):Prop:=Ext B r.2/\r.1.length=32/\ ∃q,r.2.opens r.1=some q
theorem z_wu {B:Bx.Box} (hi:BInv B) (hs:B.sym=true) (hl:B.L.length<4096) {t:Bx.Term} (hz:TSz t) (h4:t.kind≠4):GoodT B (B.tag t):=by
 obtain ⟨he,k,hk,hkt⟩:=z_yB hi hs hl hz (fun q=>absurd q h4)
 refine ⟨he,by rw [hk];rfl,?_⟩
 rw [hk]
 have hlen:=he.inv.len
 have hlt:=(List.getElem?_eq_some_iff.1 hkt).1
 exact ⟨_,(z_xV (he.sym.trans hs) (by omega) (by omega) (by omega) hkt).trans (if_neg h4)⟩
theorem z_xm {B:Bx.Box} (hi:BInv B) (hs:B.sym=false) {h:List UInt8} (hh:h.length=32):GoodT B (h,B):=
 ⟨Ext.refl hi,hh,_,Bx.opens_raw hh (fun q=>by rw [hs] at q;cases q.1)⟩
theorem z_ev {B:Bx.Box} (hi:BInv B) (hl:B.L.length<4096) {k t:List UInt8} (hk:k.length<=1000000) (ht:t.length<=1000000):GoodT B (macB B k t):=by
 cases hs:B.sym with
 | true=>rw [show macB B k t=B.tag (macT k t) by unfold macB;rw [hs];rfl];exact z_wu hi hs hl (z_sC hk ht) (by show¬2=4;decide)
 | false=>rw [show macB B k t=(hmL k t,B) by unfold macB;rw [hs];rfl];exact z_xm hi hs (z_xX k t)
theorem z_yG (op:BinOp) (x y:Int): ∃b:UInt8,bits op .u8 x y=(b.toNat:Int):=by
 have h: ∀z:Int,∃b:UInt8,IntKind.u8.wrap z=(b.toNat:Int):=fun z=>by
  refine ⟨UInt8.ofNat (z%256).toNat,?_⟩
  rw [UInt8.toNat_ofNat',wrap_u8]
  omega
 unfold bits
 split<;>exact h _
theorem z_w3 {cx:Cx} {n:Nat} {env:Env} {H:List Bk} {F:List Fact} {c:Code} {Q:Exit->KT} {p:Prop} (h: ∀β w,Sat cx β n H F w->p) (k:p->Tri cx c Q n env H F):Tri cx c Q n env H F:=
 ⟨fun β a w hi=>(k (h β w hi.sat)).run β a w hi⟩
def cutP (url:Bool) (s:List UInt8):List UInt8:=match url with
 | true=>s
 | false=>unpad s
def decX (url:Bool) (s:List UInt8):Option (List UInt8):=match url with
 | true=>decU s
 | false=>decP s
theorem shr5 {X m:Nat} (hm:m<=5):((X:Int)).fdiv (2^min (5 - (m:Int)).toNat IntKind.i64.bits)=((X/2^(5 - m):Nat):Int):=by
 rw [show (5 - (m:Int)).toNat=5 - m by omega,show min (5 - m) IntKind.i64.bits=5 - m from Nat.min_eq_left (by show _<=64;omega),show ((2:Int)^(5 - m))=((2^(5 - m):Nat):Int) by simp]
 rw [Int.fdiv_eq_ediv_of_nonneg _ (Int.natCast_nonneg _)]
 rfl
theorem z_xf {v m:Nat} (hm:m<=5):(rbits v)[m]?=some (u8n (v/2^(5 - m)%2)):=by
 match m,hm with
 | 0,_=>rfl
 | 1,_=>rfl
 | 2,_=>rfl
 | 3,_=>rfl
 | 4,_=>rfl
 | 5,_=>show some (u8n (v%2))=some (u8n (v/1%2));rw [Nat.div_one]
theorem z_pR: ∀ {l:List UInt8},l.length<8->chop l=([],l)
 | [],_=>rfl
 | [_],_=>rfl
 | [_,_],_=>rfl
 | [_,_,_],_=>rfl
 | [_,_,_,_],_=>rfl
 | [_,_,_,_,_],_=>rfl
 | [_,_,_,_,_,_],_=>rfl
 | [_,_,_,_,_,_,_],_=>rfl
 | _::_::_::_::_::_::_::_::_,h=>absurd h (by simp only [List.length_cons];omega)
theorem z_u7 {l:List UInt8} (h:8<=l.length):chop l=(fold8 (l.take 8)::(chop (l.drop 8)).1,(chop (l.drop 8)).2):=by
 have:=chop8 (l.take 8) (by rw [List.length_take];omega) (l.drop 8)
 rwa [List.take_append_drop] at this
theorem z_ui {A:Option Addr} {c s:Nat}:cutA A c 0 s=A:=by
 cases A<;>simp [cutA,Addr.add]
theorem z_uj (l:List UInt8) (x:UInt8):fold8 (l++[x])=fold8 l*2+x:=by simp [fold8]
theorem z_uv {ι:Type} {cx:Cx} {c:Code} {Q:Exit->KT} {G:Prop} (T:ι->Prop) (n':Nat) (E:ι->Env) (HH:ι->List Bk) (FF:ι->List Fact) (body:(∀i,T i->Tri cx c Q n' (E i) (HH i) (FF i))->G) (hk: ∀i,T i->Tri cx c Q n' (E i) (HH i) (FF i)):G:=body hk
def DecT (url:Bool) (s:List UInt8) (n:Nat):Prop:=n=(cutP url s).length/\n<=s.length/\s.take n=cutP url s/\(url=false->s.length%4=0)/\(url=true->s.length%4≠1)
def decE (url:Bool) (s:List UInt8) (n:Nat):Env:=[(0,.c (.v (.string (mkS s)))),(1,.c (.v (.bool url))),(6,.c (.v (.int .i64 (n:Int))))]
theorem z_we (s:List UInt8) (h:s.length%4≠1):DecT true s s.length:=⟨rfl,Nat.le_refl _,List.take_length,(fun q=>by cases q),fun _=>h⟩
theorem z_uH {s:List UInt8} {k:Nat} {b:UInt8} (hk:k+1=s.length) (hb:s[k]?=some b):s.getLast?=some b:=by
 rw [List.getLast?_eq_getElem?,<-hk]
 exact hb
theorem z_xI {s:List UInt8} (h:s.length%4=0) (hno:s.getLast?≠some 61):DecT false s s.length:=by
 have e:unpad s=s:=by unfold unpad;rw [if_neg hno]
 exact ⟨by show _=(unpad s).length;rw [e],Nat.le_refl _,by show _=unpad s;rw [e,List.take_length],fun _=>h,(fun q=>by cases q)⟩
theorem z_yY {s:List UInt8} (h:s.length%4=0) (h1:s.getLast?=some 61) (hno:s.dropLast.getLast?≠some 61):DecT false s (s.length - 1):=by
 have e:unpad s=s.dropLast:=by unfold unpad;rw [if_pos h1,if_neg hno]
 exact ⟨by show _=(unpad s).length;rw [e,List.length_dropLast],Nat.sub_le _ _,by show _=unpad s;rw [e,List.dropLast_eq_take],fun _=>h,(fun q=>by cases q)⟩
theorem z_y2 {s:List UInt8} (h:s.length%4=0) (h1:s.getLast?=some 61) (h2:s.dropLast.getLast?=some 61):DecT false s (s.length - 1 - 1):=by
 have e:unpad s=s.dropLast.dropLast:=by unfold unpad;rw [if_pos h1,if_pos h2]
 refine ⟨by show _=(unpad s).length;rw [e,List.length_dropLast,List.length_dropLast],by omega,?_,fun _=>h,(fun q=>by cases q)⟩
 show _=unpad s
 rw [e,List.dropLast_eq_take,List.dropLast_eq_take,List.take_take,List.length_take]
 congr 1
 omega
theorem z_rd (w:World) (s:List UInt8) (url:Bool) (hL:s.length<=1000000):Con Tryz.prog z_eO #[.string (mkS s),.bool url] w [] (decOutP (decX url s)):=by
 have g:=z_hG w (Un [])
 refine z_ds (cx:=z_cc w (Un [])) g z_j2 rfl rfl (β:=Va.z) [.c (.v (.string (mkS s))),.c (.v (.bool url))] 0 [] [] rfl rfl (Sat.start rfl) ?_
 have hml:=maxLen_eq
 have hsz:=z_gN s
 apply z_uv (cx:=z_cc w (Un [])) (DecT url s) 0 (decE url s) (fun _=>[]) (fun _=>[])
 ·intro hkey
  refine z_ae g ?_
  refine z_ae g ?_
  refine BIf.mk (fun hu:(!url)=true=>?_) (fun hu=>?_)
  ·have hu0:url=false:=by simpa using hu
   refine ⟨by first | decide | omega,?_⟩
   refine ⟨(((mkS s).size%4:Nat):Int),Int.ofNat_tmod _ _,?_⟩
   refine BIf.not (BIf.dec (fun h4=>?_) (fun h4=>?_))
   ·have h40:(((mkS s).size%4:Nat):Int)=0:=h4
    refine BIf.no hu0 ?_
    refine z_ae g ?_
    refine z_ae g ?_
    refine BIf.yes hu ?_
    refine BIf.dec (fun h0=>?_) (fun h0=>?_)
    ·have h00:(0:Int)<((mkS s).size:Int):=h0
     obtain ⟨b,hb, -⟩:=at_lt (show s.length - 1<s.length by omega)
     have hla:=z_uH (k:=s.length - 1) (by omega) hb
     refine ⟨((((mkS s).size - 1):Nat):Int),by rw [wrap_i64 (by omega) (by omega)];omega,?_⟩
     refine ⟨(mkS s).size - 1,b,rfl,by rw [hsz];exact hb,?_⟩
     have hs4:s.length%4=0:=by omega
     refine BIf.dec (fun hb1=>?_) (fun hb1=>?_)
     ·obtain rfl:b=61:=UInt8.toNat_inj.1 (Int.ofNat_inj.1 hb1)
      obtain ⟨b2,hb2, -⟩:=at_lt (show s.length - 2<s.length by omega)
      have hla2:s.dropLast.getLast?=some b2:=z_uH (k:=s.length - 2) (by rw [List.length_dropLast];omega) (by rw [List.getElem?_dropLast,if_pos (by omega)];exact hb2)
      refine ⟨((((mkS s).size - 1):Nat):Int),by rw [wrap_i64 (by omega) (by omega)];omega,?_⟩
      refine ⟨((((mkS s).size - 2):Nat):Int),by rw [wrap_i64 (by omega) (by omega)];omega,?_⟩
      refine ⟨(mkS s).size - 2,b2,rfl,by rw [hsz];exact hb2,?_⟩
      refine BIf.dec (fun hb3=>?_) (fun hb3=>?_)
      ·obtain rfl:b2=61:=UInt8.toNat_inj.1 (Int.ofNat_inj.1 hb3)
       refine ⟨((((s.length - 1 - 1):Nat)):Int),by rw [wrap_i64 (by omega) (by omega)];omega,?_⟩
       refine z_gW (ι:=Nat) (DecT url s) 0 (decE url s) (fun _=>[]) (fun _=>[]) hkey (EntX.of (s.length - 1 - 1) (by rw [hu0];exact z_y2 hs4 hla hla2) (Ent.mk' ⟨rfl,rfl,rfl,trivial⟩ rfl (fun β w' hs=>hs)))
      ·have hb30:b2≠61:=fun q=>hb3 (by rw [q];rfl)
       rw [hsz]
       refine z_gW (ι:=Nat) (DecT url s) 0 (decE url s) (fun _=>[]) (fun _=>[]) hkey (EntX.of (s.length - 1) (by rw [hu0];exact z_yY hs4 hla (by rw [hla2];intro q;cases q;exact hb30 rfl)) (Ent.mk' ⟨rfl,rfl,rfl,trivial⟩ rfl (fun β w' hs=>hs)))
     ·have hb10:b≠61:=fun q=>hb1 (by rw [q];rfl)
      refine z_gW (ι:=Nat) (DecT url s) 0 (decE url s) (fun _=>[]) (fun _=>[]) hkey (EntX.of (s.length) (by rw [hu0];exact z_xI hs4 (by rw [hla];intro q;cases q;exact hb10 rfl)) (Ent.mk' ⟨rfl,rfl,rfl,trivial⟩ rfl (fun β w' hs=>hs)))
    ·have h00: ¬(0:Int)<((mkS s).size:Int):=h0
     have hs0:s=[]:=List.length_eq_zero_iff.1 (by omega)
     refine z_gW (ι:=Nat) (DecT url s) 0 (decE url s) (fun _=>[]) (fun _=>[]) hkey (EntX.of s.length (by rw [hu0];exact z_xI (by omega) (by rw [hs0];decide)) (Ent.mk' ⟨rfl,rfl,rfl,trivial⟩ rfl (fun β w' hs=>hs)))
   ·have h40: ¬(((mkS s).size%4:Nat):Int)=0:=h4
    intro β w' hs
    refine (hs.nilRow z_ab 1).fin [0] ⟨none,[],0,2,rfl,.inr ⟨by decide,?_⟩,Nat.le_refl _,rfl⟩
    rw [hu0]
    show decP s=none
    unfold decP
    rw [if_pos (by omega)]
  ·have hu0:url=true:=by simpa using hu
   refine BIf.mk (fun hu2=>?_) (fun hu2=>absurd (hu2.symm.trans hu0) (by decide))
   refine ⟨by first | decide | omega,?_⟩
   refine ⟨(((mkS s).size%4:Nat):Int),Int.ofNat_tmod _ _,?_⟩
   refine BIf.dec (fun h1=>?_) (fun h1=>?_)
   ·have h10:(((mkS s).size%4:Nat):Int)=1:=h1
    intro β w' hs
    refine (hs.nilRow z_ab 1).fin [0] ⟨none,[],0,2,rfl,.inr ⟨by decide,?_⟩,Nat.le_refl _,rfl⟩
    rw [hu0]
    show decU s=none
    unfold decU
    rw [if_pos (by omega)]
   ·have h10: ¬(((mkS s).size%4:Nat):Int)=1:=h1
    refine z_ae g ?_
    refine z_ae g ?_
    refine BIf.no hu ?_
    refine z_gW (ι:=Nat) (DecT url s) 0 (decE url s) (fun _=>[]) (fun _=>[]) hkey (EntX.of s.length (by rw [hu0];exact z_we s (by omega)) (Ent.mk' ⟨rfl,rfl,rfl,trivial⟩ rfl (fun β w' hs=>hs)))
 ·rintro n ⟨hn1,hn2,hn3,hn4,hn5⟩
  refine z_aQ g ?_
  refine ⟨by first | decide | omega,?_⟩
  refine ⟨((n%4:Nat):Int),Int.ofNat_tmod _ _,?_⟩
  refine BIf.dec (fun h1=>?_) (fun h1=>?_)
  ·have h10:((n%4:Nat):Int)=1:=h1
   intro β w' hs
   refine (hs.nilRow z_ab 1).fin [0] ⟨none,[],0,5,rfl,.inr ⟨by decide,?_⟩,Nat.le_refl _,rfl⟩
   cases url with
   | true=>
    have h2:=hn5 rfl
    have h3:n=s.length:=hn1
    omega
   | false=>
    have h3:n=(unpad s).length:=hn1
    show decP s=none
    unfold decP
    rw [if_neg (by have:=hn4 rfl;omega),if_pos (by omega)]
  ·have h10: ¬((n%4:Nat):Int)=1:=h1
   have hdx:decX url s=decS url (cutP url s):=by
    cases url with
    | true=>
     show decU s=_
     unfold decU
     rw [if_neg (hn5 rfl)]
     rfl
    | false=>
     have h3:n=(unpad s).length:=hn1
     show decP s=_
     unfold decP
     rw [if_neg (by have:=hn4 rfl;omega),if_neg (by omega)]
     rfl
   rw [hdx,<-hn3]
   obtain ⟨U,hU⟩: ∃U,s.take n=U:=⟨_,rfl⟩
   have hUl:U.length=n:=by rw [<-hU,List.length_take];omega
   have hUat: ∀i,i<n->s[i]?=U[i]?:=fun i hi=>by rw [<-hU,List.getElem?_take,if_pos hi]
   rw [hU]
   refine z_ag (ι:=Nat×Option Addr×Nat×List Nat) 0 (fun j=>[(0,.c (.v (.string (mkS s)))),(1,.c (.v (.bool url))),(6,.c (.v (.int .i64 (n:Int)))),(7,.c (.v (.slice j.2.1 (j.2.2.2.flatMap rbits).length j.2.2.1))),(8,.c (.v (.int .i64 (j.1:Int))))]) (fun _=>[]) (fun j=>[browF z_ab j.2.1 (j.2.2.2.flatMap rbits) j.2.2.1])
    (fun j=>j.1<=n/\valsA url (U.take j.1)=some j.2.2.2) (fun j=>n - j.1) (0,none,0,[]) ⟨Nat.zero_le _,rfl⟩ (Ent.mk' ⟨rfl,rfl,rfl,rfl,rfl,trivial⟩ rfl (fun β w' hs=>hs.nilRow z_ab 1)) g ?_
   rintro ⟨i,A,c,vs⟩ ⟨hi,hvs⟩
   simp only at hi hvs
   have hvl:=z_gi hvs
   have hvl1:vs.length=i:=by rw [hvl.1,List.length_take];omega
   have hbl:(vs.flatMap rbits).length=6*i:=by
    rw [<-hvl1]
    clear hvl hvl1 hvs
    induction vs with
    | nil=>rfl
    | cons a r ih=>rw [List.flatMap_cons,List.length_append,ih,List.length_cons];simp [rbits];omega
   refine BIf.dec (fun hlt=>?_) (fun hge=>?_)
   ·have hlt0:(i:Int)<(n:Int):=hlt
    obtain ⟨y,hy,hyU⟩:=at_lt (show i<U.length by omega)
    refine ⟨i,y,rfl,by show s[i]?=_;rw [hUat i (by omega)];exact hy,?_⟩
    refine z_ah (fun β w' hs=>z_vj w' y url) ?_
    cases hv:valA url y with
    | none=>
     have hvv:valV url y= -1:=by unfold valV;rw [hv]
     rw [hvv]
     intro β w' hs
     refine (hs.nilRow z_ab 1).fin [0] ⟨none,[],0,5,rfl,.inr ⟨by decide,?_⟩,Nat.le_refl _,rfl⟩
     unfold decS
     rw [z_mY hv hyU]
     rfl
    | some v=>
     have hvv:valV url y=(v:Int):=by unfold valV;rw [hv]
     have hv64:=z_sh hv
     rw [hvv]
     have hrl:(rbits v).length=6:=rfl
     refine z_ag (ι:=Option Addr×Nat×Nat) 0 (fun j=>[(0,.c (.v (.string (mkS s)))),(1,.c (.v (.bool url))),(6,.c (.v (.int .i64 (n:Int)))),(7,.c (.v (.slice j.1 (vs.flatMap rbits++(rbits v).take j.2.2).length j.2.1))),(8,.c (.v (.int .i64 (i:Int)))),(9,.c (.v (.int .i64 (v:Int)))),(10,.c (.v (.int .i64 (5 - (j.2.2:Int)))))]) (fun _=>[]) (fun j=>[browF z_ab j.1 (vs.flatMap rbits++(rbits v).take j.2.2) j.2.1])
      (fun j=>j.2.2<=6) (fun j=>6 - j.2.2) (A,c,0) (Nat.zero_le _) (Ent.mk' ⟨rfl,rfl,rfl,by simp only [List.take_zero,List.append_nil];rfl,rfl,rfl,rfl,trivial⟩ rfl (fun β w' hs=>by simp only [List.take_zero,List.append_nil];exact hs)) g ?_
     rintro ⟨A1,c1,m⟩ hm
     simp only at hm
     refine BIf.dec (fun hlt2=>?_) (fun hge2=>?_)
     ·have hlt20:(5 - (m:Int))>=0:=hlt2
      refine ⟨by first | decide | omega,?_⟩
      refine ⟨((v/2^(5 - m):Nat):Int),shr5 (by omega),?_⟩
      have hvd:v/2^(5 - m)<64:=Nat.lt_of_le_of_lt (Nat.div_le_self _ _) hv64
      refine ⟨((v/2^(5 - m)%2:Nat):Int),z_sm (k:=1) (by omega) (by decide),?_⟩
      refine ⟨((u8n (v/2^(5 - m)%2)).toNat:Int),z_mm _,?_⟩
      intro b1
      obtain ⟨B,hB⟩: ∃B,B=vs.flatMap rbits++(rbits v).take m:=⟨_,rfl⟩
      have hBn:vs.flatMap rbits++(rbits v).take (m+1)=B++[u8n (v/2^(5 - m)%2)]:=by
       rw [hB,List.take_add_one,z_xf (by omega),List.append_assoc]
       rfl
      have hBl:B.length=6*i+m:=by rw [hB,List.length_append,hbl,List.length_take,hrl];omega
      rw [<-hB]
      obtain ⟨B2,hB2⟩: ∃B2,B2=B++[u8n (v/2^(5 - m)%2)]:=⟨_,rfl⟩
      have hB2l:B.length+1=B2.length:=by rw [hB2,List.length_append];rfl
      rw [<-hB2] at hBn
      refine ⟨1,B.length,B2.length,B.map byte,[u8n (v/2^(5 - m)%2)].map byte,B2.map byte,rfl,fun β w' hs=>z_aj (hs.get 0 rfl),z_as _,hB2l,by rw [hB2,List.map_append],by rw [hml];omega,by show B2.length*1<=_;omega,?_⟩
      intro A2 c2 r1 r2 r3
      refine ⟨_,wrap_i64 (by omega) (by omega),?_⟩
      have e5:(5 - (m:Int) - 1)=5 - ((m+1:Nat):Int):=by omega
      refine ⟨(A2,c2,m+1),by show m+1<=6;omega,by show 6 - (m+1)<6 - m;omega,?_⟩
      simp only [hBn]
      exact Ent.mk' ⟨rfl,rfl,rfl,rfl,rfl,rfl,by rw [<-e5];rfl,trivial⟩ rfl (fun β w' hs=>hs.perm [1])
     ·have hge20: ¬(5 - (m:Int))>=0:=hge2
      obtain rfl:m=6:=by omega
      refine ⟨(((i+1):Nat):Int),by rw [wrap_i64 (by omega) (by omega)];rfl,?_⟩
      have hnx:(vs++[v]).flatMap rbits=vs.flatMap rbits++(rbits v).take 6:=by rw [List.flatMap_append,List.take_of_length_le (Nat.le_of_eq hrl)];simp
      refine ⟨(i+1,A1,c1,vs++[v]),⟨by show i+1<=n;omega,?_⟩,by show n - (i+1)<n - i;omega,?_⟩
      ·show valsA url (U.take (i+1))=some (vs++[v])
       rw [List.take_add_one,hy,z_mE,hvs]
       show (match (some vs),(valsA url [y]) with | some x,some y=>some (x++y) | _,_=>none)=_
       have:valsA url [y]=some [v]:=by unfold valsA;rw [hv];rfl
       rw [this]
      ·simp only [hnx]
       exact Ent.mk' ⟨rfl,rfl,rfl,rfl,rfl,trivial⟩ rfl (fun β w' hs=>hs)
   ·have hge0: ¬(i:Int)<(n:Int):=hge
    obtain rfl:i=n:=by omega
    rw [List.take_of_length_le (by omega)] at hvs
    have hdS:decS url U=refG vs:=by
     unfold decS
     rw [hvs]
     exact (z_vV vs (fun v hv=>hvl.2 v hv) (by omega)).symm
    rw [hdS]
    obtain ⟨bits,hbits⟩: ∃bits,vs.flatMap rbits=bits:=⟨_,rfl⟩
    have hrG:refG vs=if (chop bits).2.all (fun x=>decide (x=0)) then some (chop bits).1 else none:=by unfold refG;rw [hbits]
    rw [hrG]
    rw [hbits] at hbl ⊢
    refine z_w3 (p:=bits.length<=c/\(0<bits.length-> ∃ad,A=some ad)) (fun β w' hs=>⟨z_ic (hs.get 0 rfl),fun h=>Bs.addr (show Bs w' A bits from z_aj (hs.get 0 rfl)) h⟩) ?_
    rintro ⟨hcap,hadr⟩
    refine z_ag (ι:=(Option Addr×Nat×List UInt8)×(Option Addr×Nat×List UInt8)) 0 (fun j=>[(7,.c (.v (.slice j.2.1 j.2.2.2.length j.2.2.1))),(11,.c (.v (.slice j.1.1 j.1.2.2.length j.1.2.1)))]) (fun _=>[]) (fun j=>[browF z_ab j.1.1 j.1.2.2 j.1.2.1,bsF j.2.1 j.2.2.2])
     (fun j=>chop bits=(j.1.2.2++(chop j.2.2.2).1,(chop j.2.2.2).2)/\j.2.2.2.length<=j.2.2.1/\8*j.1.2.2.length+j.2.2.2.length=bits.length/\(0<j.2.2.2.length-> ∃ad,j.2.1=some ad)) (fun j=>j.2.2.2.length) ((none,0,[]),(A,c,bits)) ⟨rfl,hcap,by simp,hadr⟩ (Ent.mk' ⟨rfl,rfl,trivial⟩ rfl (fun β w' hs=>((hs.nilRow z_ab 1).rdRow 1 rfl).perm [1,0])) g ?_
    rintro ⟨⟨O,oc,out⟩,⟨A3,c3,rem⟩⟩ ⟨hch,hcap3,hlen3,hadr3⟩
    simp only at hch hcap3 hlen3 hadr3
    refine BIf.dec (fun hlt=>?_) (fun hge=>?_)
    ·have hlt0:(rem.length:Int)>=8:=hlt
     obtain ⟨ad,hAd⟩: ∃ad,A3=some ad:=hadr3 (by omega)
     refine ⟨c3,8,0,8,c3,A3,rfl,rfl,rfl,Nat.le_refl _,by omega,Nat.zero_le _,rfl,rfl,z_ui,?_⟩
     refine z_ag (ι:=Nat×UInt8) 0 (fun j=>[(7,.c (.v (.slice A3 rem.length c3))),(11,.c (.v (.slice O out.length oc))),(12,.c (.v (byte j.2))),(89,.c (.v (.slice A3 8 c3))),(90,.c (.v (.int .i64 8))),(91,.c (.v (.int .i64 (j.1:Int))))]) (fun _=>[]) (fun j=>[browF z_ab O out oc,bsF A3 rem])
      (fun j=>j.1<=8/\j.2=fold8 (rem.take j.1)) (fun j=>8 - j.1) (0,0) ⟨Nat.zero_le _,rfl⟩ (Ent.mk' ⟨rfl,rfl,rfl,rfl,rfl,rfl,trivial⟩ rfl (fun β w' hs=>hs)) g ?_
     rintro ⟨i2,b⟩ ⟨hi2,hb⟩
     simp only at hi2 hb
     refine BIf.dec (fun hlt2=>?_) (fun hge2=>?_)
     ·have hlt20:(i2:Int)<8:=hlt2
      obtain ⟨z,hz, -⟩:=at_lt (show i2<rem.length by omega)
      refine ⟨ad,i2,hAd,rfl,by omega,?_⟩
      refine ⟨byte z,fun β w' hs=>Rd.cell1 (show Rd 1 (some ad) rem.length (rem.map byte) w' from hAd▸hs.get 1 rfl) (by rw [List.getElem?_map,hz];rfl),?_⟩
      refine ⟨((b*2:UInt8).toNat:Int),by rw [IntKind.wrap_u8,UInt8.toNat_mul];show ((b.toNat:Int)*2)%256=((b.toNat *2%256:Nat):Int);omega,?_⟩
      refine ⟨((b*2+z:UInt8).toNat:Int),by rw [IntKind.wrap_u8,UInt8.toNat_add];show (((b*2:UInt8).toNat:Int)+(z.toNat:Int))%256=(((b*2:UInt8).toNat+z.toNat)%256:Nat);omega,?_⟩
      refine ⟨((i2+1:Nat):Int),by rw [wrap_i64 (by omega) (by omega)];rfl,?_⟩
      exact ⟨(i2+1,b*2+z),⟨by show i2+1<=8;omega,by show b*2+z=fold8 (rem.take (i2+1));rw [List.take_add_one,hz,hb];exact (z_uj _ _).symm⟩,by show 8 - (i2+1)<8 - i2;omega,Ent.mk' ⟨rfl,rfl,rfl,rfl,rfl,rfl,trivial⟩ rfl (fun β w' hs=>hs)⟩
     ·have hge20: ¬(i2:Int)<8:=hge2
      obtain rfl:i2=8:=by omega
      refine z_af g z_hr (by kernel_rfl) [] [] (Sub.of (List.Sublist.refl _) (List.nil_sublist _)) ?_
      refine ⟨c3,rem.length,8,rem.length - 8,c3 - 8,_,rfl,rfl,rfl,Nat.le_refl _,hcap3,by omega,rfl,rfl,rfl,?_⟩
      intro b3
      refine ⟨subPerm [],?_⟩
      obtain ⟨out2,hout2⟩: ∃out2,out2=out++[b]:=⟨_,rfl⟩
      have hol:out.length+1=out2.length:=by rw [hout2,List.length_append];rfl
      refine ⟨1,out.length,out2.length,out.map byte,[b].map byte,out2.map byte,rfl,fun β w' hs=>z_aj (hs.get 0 rfl),z_as _,hol,by rw [hout2,List.map_append],by rw [hml];omega,by show out2.length*1<=_;omega,?_⟩
      intro O2 oc2 r1 r2 r3
      refine ⟨subPerm [],?_⟩
      have hrl8:(rem.drop 8).length=rem.length - 8:=List.length_drop ..
      have hcl:=z_u7 (l:=rem) (by omega)
      refine ⟨((O2,oc2,out2),(cutA A3 c3 8 1,c3 - 8,rem.drop 8)),⟨?_,by show (rem.drop 8).length<=c3 - 8;omega,by show 8*out2.length+(rem.drop 8).length=_;omega,fun _=>?_⟩,by show (rem.drop 8).length<rem.length;omega,?_⟩
      ·show chop bits=(out2++(chop (rem.drop 8)).1,(chop (rem.drop 8)).2)
       rw [hch,hcl,hout2,hb,List.append_assoc]
       rfl
      ·show∃ad,cutA A3 c3 8 1=some ad
       rw [hAd]
       unfold cutA
       split<;>exact ⟨_,rfl⟩
      ·simp only [hrl8]
       exact Ent.mk' ⟨rfl,rfl,trivial⟩ rfl (fun β w' hs=>(hs.sub 2 rfl rfl (bsF (cutA A3 c3 8 1) (rem.drop 8)) rfl (by
        have h:=Bs.cutB (show Bs _ A3 rem from hs.get 2 rfl) (i:=8) (j:=rem.length) hcap3 (by omega) (Nat.le_refl _) (List.take_of_length_le (Nat.le_of_eq hrl8))
        exact h) (fun k hk=>cut_D (by omega) hk)).perm [2,0])
    ·have hge0: ¬(rem.length:Int)>=8:=hge
     refine z_ag (ι:=Nat) 0 (fun j=>[(11,.c (.v (.slice O out.length oc))),(106,.c (.v (.slice A3 rem.length c3))),(107,.c (.v (.int .i64 (rem.length:Int)))),(108,.c (.v (.int .i64 (j:Int))))]) (fun _=>[]) (fun j=>[browF z_ab O out oc,bsF A3 rem])
      (fun j=>j<=rem.length/\(rem.take j).all (fun x=>decide (x=0))=true) (fun j=>rem.length - j) (0:Nat) ⟨Nat.zero_le _,rfl⟩ (Ent.mk' ⟨rfl,rfl,rfl,rfl,trivial⟩ rfl (fun β w' hs=>hs)) g ?_
     rintro j ⟨hj,hz0⟩
     refine BIf.dec (fun hlt2=>?_) (fun hge2=>?_)
     ·have hlt20:(j:Int)<(rem.length:Int):=hlt2
      obtain ⟨ad,hAd⟩:=hadr3 (by omega)
      obtain ⟨z,hz,hzm⟩:=at_lt (show j<rem.length by omega)
      refine ⟨ad,j,hAd,rfl,by omega,?_⟩
      refine ⟨byte z,fun β w' hs=>Rd.cell1 (show Rd 1 (some ad) rem.length (rem.map byte) w' from hAd▸hs.get 1 rfl) (by rw [List.getElem?_map,hz];rfl),?_⟩
      refine BIf.not (BIf.dec (fun he=>?_) (fun hne=>?_))
      ·obtain rfl:z=0:=UInt8.toNat_inj.1 (Int.ofNat_inj.1 he)
       refine ⟨((j+1:Nat):Int),by rw [wrap_i64 (by omega) (by omega)];rfl,?_⟩
       exact ⟨j+1,⟨by omega,by rw [List.take_add_one,hz,List.all_append,hz0];rfl⟩,by omega,Ent.mk' ⟨rfl,rfl,rfl,rfl,trivial⟩ rfl (fun β w' hs=>hs)⟩
      ·have hz1:z≠0:=fun q=>hne (by rw [q];rfl)
       intro β w' hs
       refine (hs.nilRow z_ab 1).fin [0] ⟨none,[],0,4,rfl,.inr ⟨by decide,?_⟩,Nat.le_refl _,rfl⟩
       rw [hch,z_pR (l:=rem) (by omega),if_neg]
       intro q
       exact hz1 (of_decide_eq_true (List.all_eq_true.1 q z hzm))
     ·have hge20: ¬(j:Int)<(rem.length:Int):=hge2
      rw [List.take_of_length_le (by omega)] at hz0
      intro β w' hs
      refine hs.fin [0] ⟨O,out,oc,0,rfl,.inl ⟨rfl,?_⟩,z_ic (hs.get 0 rfl),rfl⟩
      rw [hch,z_pR (l:=rem) (by omega),if_pos hz0,List.append_nil]
def eqs (n:Nat):List UInt8:=List.replicate n 61
end Go.Proofs.YtfomhhkoamapmaaGreatDoor.Sx
namespace Go.Proofs.YtfomhhkoamapmaaGreatDoor.Sx
open Go
open Go.ChangeMaps (setBlock)
variable {kk:IntKind}
def itIP (kk:IntKind) (b r:Nat) (l ss:MLI) (cur:Option (Int×Value)) (w:World):Prop:=
 ∃(es ds:List MEI) (k since c0:Nat) (seen:Array Nat),w.heap[b]?=some (.map (es.map (MEI.ent kk)).toArray k)/\MapIOk es k l/\w.heap[r]?=some (.mapIter (some b) since seen c0)/\r≠b/\(∀e∈es,e.2.2<since)/\since<=c0/\since<=k/\
  ds.map MEI.cut=ss/\seen.toList=ds.map (·.2.2)/\(∀d∈ds,d∈es)/\(ds.map (·.2.2)).Nodup/\
  ∀x,cur=some x-> ∃(d:MEI) (s0:Array Nat),d∈es/\d.cut=x/\seen=s0.push d.2.2/\c0=k
def itIF (kk:IntKind) (b r:Nat) (l ss:MLI) (cur:Option (Int×Value)):Fact where
 own:=true
 D:=fun g=>g=b\/g=r
 p:=itIP kk b r l ss cur
 st:=fun w w' hs ⟨es,ds,k,since,c0,seen,h1,h2,h3,h4⟩=>⟨es,ds,k,since,c0,seen,by rw [hs b (.inl rfl)];exact h1,h2,by rw [hs r (.inr rfl)];exact h3,h4⟩
theorem z_tk {es:List MEI} {k:Nat} {l:MLI} (h:MapIOk es k l) {d e:MEI} (hd:d∈es) (he:e∈es) (q:d.2.2=e.2.2):d=e:=by
 have hp:=List.pairwise_map.1 h.inc
 clear h
 induction es with
 | nil=>cases hd
 | cons a r ih=>
  obtain ⟨h1,h2⟩:=List.pairwise_cons.1 hp
  rcases List.mem_cons.1 hd with rfl | hd'
  ·rcases List.mem_cons.1 he with rfl | he'
   ·rfl
   ·have:=h1 e he'
    omega
  ·rcases List.mem_cons.1 he with rfl | he'
   ·have:=h1 d hd'
    omega
   ·exact ih hd' he' h2
theorem z_pT {es:List MEI} {k:Nat} {l:MLI} (h:MapIOk es k l):(es.map (·.2.2)).Nodup:=h.inc.imp fun h=>Nat.ne_of_lt h
theorem z_rV: ∀ {xs ys:List Nat},xs.Nodup->(∀x∈xs,x∈ys)->xs.length<=ys.length
 | [],_,_,_=>Nat.zero_le _
 | x::r,ys,hn,hs=>by
  obtain ⟨h1,h2⟩:=List.nodup_cons.1 hn
  have hx:=hs x (by simp)
  have ih:=z_rV (xs:=r) (ys:=ys.erase x) h2 fun y hy=>(List.mem_erase_of_ne (fun q:y=x=>h1 (q▸hy))).2 (hs y (by simp [hy]))
  have hl:=List.length_erase_of_mem hx
  have hp:=List.length_pos_of_mem hx
  simp only [List.length_cons]
  omega
def nxtV (kk:IntKind):Option (Int×Value)->Value
 | none=> .tuple #[.bool false]
 | some x=> .tuple #[.bool true,.int kk x.1,x.2]
def NxtI (l ss:MLI):Option (Int×Value)->Prop
 | none=>ss.Perm l
 | some x=>x∈l/\ss.length<l.length
def nxtF (kk:IntKind) (b r:Nat) (l ss:MLI) (cur:Option (Int×Value)):Option (Int×Value)->Fact
 | none=>itIF kk b r l ss cur
 | some x=>itIF kk b r l (ss++[x]) (some x)
theorem z_x9 {es ds:List MEI} (h1:(es.map (·.2.2)).Nodup) (h2:(ds.map (·.2.2)).Nodup) (hs: ∀d∈ds,d∈es) (ha: ∀e∈es,e∈ds):ds.Perm es:=by
 have n1:es.Nodup:=(List.pairwise_map.1 h1).imp fun {a b} q e=>q (by rw [e])
 have n2:ds.Nodup:=(List.pairwise_map.1 h2).imp fun {a b} q e=>q (by rw [e])
 exact (List.perm_ext_iff_of_nodup n2 n1).2 fun x=>⟨hs x,ha x⟩
section
variable {cx:Cx} {β:Va} {n:Nat} {H:List Bk} {F:List Fact} {w:World}
theorem Sat.rangeI (h:Sat cx β n H F w) (g:Good cx) (j:Nat) {b:Nat} {l:MLI} (hj:nth F j=some (mapIF kk b l)) {t kt et:TypeId} {i:TI} (hi:lk cx.tt t=some i:=by rfl) (hd:i.desc= .map kt et:=by rfl):
  ∃r w',(Instr.range t (.map (some b))).run cx.P w= .ok (.pointer (some ⟨r,0,none⟩)) w'/\Sat cx β n H (putAt F j (itIF kk b r l [] none)) w':=by
 obtain ⟨es,k,hb,hm⟩:=h.get j hj
 have hlt:b<w.heap.size:=(Array.getElem?_eq_some_iff.1 hb).1
 refine ⟨w.heap.size,_,run_range_map w t kt et b _ k ((g.ti hi).real (d:= .map _ _) hd rfl) hb,h.upd hj rfl ((Chg.alloc w _).mono fun _ _ h=>h.elim) ⟨es,[],k,k,k,#[],?_,hm,heap_alloc_new w _,by omega,hm.lt,Nat.le_refl _,Nat.le_refl _,rfl,rfl,(fun d h=>by cases h),List.nodup_nil,fun x h=>by cases h⟩ (fun q hq=>?_)⟩
 ·exact ((MapKept.heap_alloc w _).2 b hlt).trans hb
 ·rcases hq with rfl | rfl
  ·exact .inl rfl
  ·exact .inr ⟨Nat.le_refl _,by simp⟩
theorem Sat.nextI (h:Sat cx β n H F w) (j:Nat) {b r:Nat} {l ss:MLI} {cur:Option (Int×Value)} (hj:nth F j=some (itIF kk b r l ss cur)) (ty:TypeId):
  ∃(o: {o:Option (Int×Value)//NxtI l ss o}) (w':World),(Instr.next (.pointer (some ⟨r,0,none⟩)) false ty).run cx.P w= .ok (nxtV kk o.1) w'/\Sat cx β n H (putAt F j (nxtF kk b r l ss cur o.1)) w':=by
 have hp:=h.get j hj
 obtain ⟨es,ds,k,since,c0,seen,hb,hm,hr,hne,hold,hsc,hsk,hss,hseen,hsub,hnd,hcur⟩:=hp
 have hold': ∀x∈(es.map (MEI.ent kk)).toArray.toList,x.born<since:=by
  intro x hx
  rw [List.toList_toArray] at hx
  obtain ⟨e,he,rfl⟩:=List.mem_map.1 hx
  exact hold e he
 have hin: ∀e∈es,seen.contains e.2.2=true->e∈ds:=by
  intro e he q
  have q2:e.2.2∈ds.map (·.2.2):=by rw [<-hseen];simpa using q
  obtain ⟨d,hd,e2⟩:=List.mem_map.1 q2
  rwa [<-z_tk hm (hsub d hd) he e2]
 rcases run_next_at (P:=cx.P) w ty r b since c0 seen _ k hr hb hold' hsc with ⟨h0,hrun⟩ | ⟨e,he,w1,hal,hrun⟩
 ·have hall: ∀e∈es,e∈ds:=by
   intro e he
   refine hin e he ?_
   cases q:seen.contains e.2.2 with
   | true=>rfl
   | false=>
    have:(MEI.ent kk e)∈leftOf (es.map (MEI.ent kk)).toArray seen:=by
     unfold leftOf
     rw [Array.mem_filter]
     exact ⟨by rw [List.mem_toArray];exact List.mem_map.2 ⟨e,he,rfl⟩,by show (!seen.contains e.2.2)=true;rw [q];rfl⟩
    have e0:=Array.eq_empty_of_size_eq_zero h0
    rw [e0] at this
    simp at this
  have hperm:ss.Perm l:=by
   rw [<-hss,<-hm.cut]
   exact (z_x9 (z_pT hm) hnd hsub hall).map _
  refine ⟨⟨none,hperm⟩,w,hrun,?_⟩
  show Sat cx β n H (putAt F j (itIF kk b r l ss cur)) w
  exact h.upd hj rfl (Chg.refl _ _) (h.get j hj) (fun q hq=> .inl hq)
 ·unfold leftOf at he
  rw [Array.mem_toList_iff,Array.mem_filter] at he
  obtain ⟨he1,he2⟩:=he
  obtain ⟨d,hd,rfl⟩: ∃d∈es,MEI.ent kk d=e:=by simpa using he1
  have hns: ¬seen.contains d.2.2=true:=by
   intro q
   have q2:(!seen.contains d.2.2)=true:=he2
   rw [q] at q2
   cases q2
  have hnd2:d∉ds:=fun q=>hns (by
   have:d.2.2∈seen.toList:=by rw [hseen];exact List.mem_map.2 ⟨d,q,rfl⟩
   simpa using this)
  have hlen:ss.length<l.length:=by
   have hx:=z_rV (xs:=d.2.2::ds.map (·.2.2)) (ys:=es.map (·.2.2)) (List.nodup_cons.2 ⟨fun q=>?_,hnd⟩) (fun x hx=>?_)
   ·rw [<-hss,<-hm.cut,List.length_map,List.length_map]
    simp only [List.length_cons,List.length_map] at hx
    omega
   ·obtain ⟨d',hd',e2⟩:=List.mem_map.1 q
    rw [z_tk hm (hsub d' hd') hd e2] at hd'
    exact hnd2 hd'
   ·rcases List.mem_cons.1 hx with rfl | hx
    ·exact List.mem_map.2 ⟨d,hd,rfl⟩
    ·obtain ⟨d',hd',rfl⟩:=List.mem_map.1 hx
     exact List.mem_map.2 ⟨d',hsub d' hd',rfl⟩
  have hmem:d.cut∈l:=by rw [<-hm.cut];exact List.mem_map.2 ⟨d,hd,rfl⟩
  refine ⟨⟨some d.cut,hmem,hlen⟩,_,hrun,?_⟩
  have hr1:w1.heap[r]?=some (.mapIter (some b) since seen c0):=by rcases hal with rfl | rfl<;>exact hr
  have hb1:w1.heap[b]?=some (.map (es.map (MEI.ent kk)).toArray k):=by rcases hal with rfl | rfl<;>exact hb
  have hset:=MapKept.heap_set (o':= .mapIter (some b) since (seen.push d.2.2) k) hr1
  refine h.upd hj rfl ?_ ?_ (fun q hq=> .inl hq)
  ·rcases hal with rfl | rfl<;>exact ⟨rfl,rfl,rfl,by simp [setBlock],fun i _ hi=>hset.2 i (fun e1=>hi (.inr e1))⟩
  ·refine ⟨es,ds++[d],k,since,k,seen.push d.2.2,(hset.2 b (fun e1=>hne e1.symm)).trans hb1,hm,hset.1,hne,hold,hsk,hsk,?_,?_,?_,?_,?_⟩
   ·rw [List.map_append,hss]
    rfl
   ·rw [Array.toList_push,hseen,List.map_append]
    rfl
   ·intro x hx
    rcases List.mem_append.1 hx with hx | hx
    ·exact hsub x hx
    ·obtain rfl:=List.mem_singleton.1 hx
     exact hd
   ·rw [List.map_append]
    refine List.nodup_append.2 ⟨hnd,by simp,fun x hx y hy q=>?_⟩
    simp only [List.map_cons,List.map_nil,List.mem_singleton] at hy
    subst hy q
    rw [<-hseen] at hx
    exact hns (by simpa using hx)
   ·intro x hx
    cases hx
    exact ⟨d,seen,hd,rfl,rfl,rfl⟩
theorem Sat.entryI (h:Sat cx β n H F w) (j:Nat) {b r:Nat} {l ss:MLI} {x:Int×Value} (hj:nth F j=some (itIF kk b r l ss (some x))):
  (Instr.entry (.pointer (some ⟨r,0,none⟩))).run cx.P w= .ok (.tuple #[.int kk x.1,x.2]) w:=by
 obtain ⟨es,ds,k,since,c0,seen,hb,hm,hr,hne,hold,hsc,hsk,hss,hseen,hsub,hnd,hcur⟩:=h.get j hj
 obtain ⟨d,s0,hd,rfl,rfl,rfl⟩:=hcur x rfl
 have hn:((es.map (MEI.ent kk)).toArray.toList.map (·.born)).Nodup:=by
  rw [List.toList_toArray,List.map_map]
  exact z_pT hm
 exact run_entry_at w r b since s0 _ c0 (MEI.ent kk d) hr hb (by rw [List.toList_toArray];exact List.mem_map.2 ⟨d,hd,rfl⟩) hn
end
end Go.Proofs.YtfomhhkoamapmaaGreatDoor.Sx
namespace Go.Proofs.YtfomhhkoamapmaaGreatDoor.Sx
open Go
attribute [local irreducible] Calls
theorem z_td: ∀ {vs:List Nat} {l:List UInt8},decG vs=some l->l.length<=vs.length
 | [],l,h=>by
  simp only [decG] at h
  obtain rfl:=Option.some.inj h
  exact Nat.le_refl _
 | [a],l,h=>by simp [decG] at h
 | [a,b],l,h=>by
  simp only [decG] at h
  split at h
  ·obtain rfl:=Option.some.inj h
   simp
  ·cases h
 | [a,b,c],l,h=>by
  simp only [decG] at h
  split at h
  ·obtain rfl:=Option.some.inj h
   simp
  ·cases h
 | a::b::c::d::r,l,h=>by
  simp only [decG] at h
  cases hr:decG r with
  | none=>rw [hr] at h;cases h
  | some m=>
   rw [hr] at h
   obtain rfl:=Option.some.inj h
   have:=z_td hr
   simp only [List.length_cons]
   omega
theorem z_w4 {url:Bool} {s l:List UInt8} (h:decS url s=some l):l.length<=s.length:=by
 unfold decS at h
 cases hv:valsA url s with
 | none=>rw [hv] at h;cases h
 | some vs=>
  rw [hv] at h
  have h1:=z_td (show decG vs=some l from h)
  rw [(z_gi hv).1] at h1
  exact h1
theorem z_ts {s l:List UInt8} (h:decU s=some l):l.length<=s.length:=by
 unfold decU at h
 split at h
 ·cases h
 ·exact z_w4 h
theorem z_xc (m:Nat):eqs m++[61]=eqs (m+1):=by
 unfold eqs
 rw [List.replicate_succ']
theorem z_xY (m:Nat):(eqs m).length=m:=by simp [eqs]
def bitA (p:List UInt8) (i:Nat):Nat:=(p.getD (i/8) 0).toNat/2^(7 - i%8)%2
def sixM (p:List UInt8) (a m:Nat):Nat:=(List.range m).foldl (fun n j=>n*2+bitA p (a+j)) 0
theorem z_kd (p:List UInt8) (a m:Nat):sixM p a (m+1)=sixM p a m*2+bitA p (a+m):=by
 unfold sixM
 rw [List.range_succ,List.foldl_append]
 rfl
def encG:List UInt8->List Nat
 | x::y::z::r=>x.toNat/4::(x.toNat%4*16+y.toNat/16)::(y.toNat%16*4+z.toNat/64)::(z.toNat%64)::encG r
 | [x,y]=>[x.toNat/4,x.toNat%4*16+y.toNat/16,y.toNat%16*4]
 | [x]=>[x.toNat/4,x.toNat%4*16]
 | []=>[]
theorem z_p4 (x:UInt8):u8n x.toNat=x:=UInt8.ofNat_toNat
theorem z_r7: ∀(p:List UInt8),∀v∈encG p,v<64
 | x::y::z::r,v,h=>by
  have hx:=x.toNat_lt
  have hy:=y.toNat_lt
  have hz:=z.toNat_lt
  simp only [encG,List.mem_cons] at h
  rcases h with rfl | rfl | rfl | rfl | h
  ·omega
  ·omega
  ·omega
  ·omega
  ·exact z_r7 r v h
 | [x,y],v,h=>by
  have hx:=x.toNat_lt
  have hy:=y.toNat_lt
  simp only [encG,List.mem_cons,List.not_mem_nil,or_false] at h
  rcases h with rfl | rfl | rfl<;>omega
 | [x],v,h=>by
  have hx:=x.toNat_lt
  simp only [encG,List.mem_cons,List.not_mem_nil,or_false] at h
  rcases h with rfl | rfl<;>omega
 | [],v,h=>by cases h
theorem z_uX: ∀(p:List UInt8),decG (encG p)=some p
 | x::y::z::r=>by
  have hx:=x.toNat_lt
  have hy:=y.toNat_lt
  have hz:=z.toNat_lt
  simp only [encG,decG,z_uX r,Option.map_some]
  have e1:x.toNat/4*4+(x.toNat%4*16+y.toNat/16)/16=x.toNat:=by omega
  have e2:(x.toNat%4*16+y.toNat/16)%16*16+(y.toNat%16*4+z.toNat/64)/4=y.toNat:=by omega
  have e3:(y.toNat%16*4+z.toNat/64)%4*64+z.toNat%64=z.toNat:=by omega
  rw [e1,e2,e3,z_p4,z_p4,z_p4]
 | [x,y]=>by
  have hx:=x.toNat_lt
  have hy:=y.toNat_lt
  simp only [encG,decG]
  have e0:y.toNat%16*4%4=0:=by omega
  have e1:x.toNat/4*4+(x.toNat%4*16+y.toNat/16)/16=x.toNat:=by omega
  have e2:(x.toNat%4*16+y.toNat/16)%16*16+(y.toNat%16*4)/4=y.toNat:=by omega
  rw [if_pos e0,e1,e2,z_p4,z_p4]
 | [x]=>by
  have hx:=x.toNat_lt
  simp only [encG,decG]
  have e0:x.toNat%4*16%16=0:=by omega
  have e1:x.toNat/4*4+x.toNat%4*16/16=x.toNat:=by omega
  rw [if_pos e0,e1,z_p4]
 | []=>rfl
theorem z_mh: ∀(p:List UInt8),(encG p).length=(8*p.length+5)/6
 | x::y::z::r=>by
  have:=z_mh r
  simp only [encG,List.length_cons]
  omega
 | [x,y]=>by simp [encG]
 | [x]=>by simp [encG]
 | []=>by simp [encG]
theorem z_jX (p:List UInt8) (a:Nat):sixM p a 6=((((bitA p a*2+bitA p (a+1))*2+bitA p (a+2))*2+bitA p (a+3))*2+bitA p (a+4))*2+bitA p (a+5):=by
 simp only [z_kd]
 simp [sixM]
theorem z_vO (x y z:UInt8) (r:List UInt8) (i:Nat):bitA (x::y::z::r) (24+i)=bitA r i:=by
 unfold bitA
 rw [show (24+i)/8=i/8+1+1+1 by omega,show (24+i)%8=i%8 by omega]
 simp only [List.getD_cons_succ]
theorem z_xM: ∀(p:List UInt8) (k:Nat),k<(encG p).length->(encG p)[k]?=some (sixM p (6*k) 6)
 | x::y::z::r,k,h=>by
  have hx:=x.toNat_lt
  have hy:=y.toNat_lt
  have hz:=z.toNat_lt
  match k,h with
  | 0,_=>
   rw [z_jX]
   simp only [encG,bitA,List.getElem?_cons_zero]
   simp
   omega
  | 1,_=>
   rw [z_jX]
   simp only [encG,bitA,List.getElem?_cons_succ,List.getElem?_cons_zero]
   simp
   omega
  | 2,_=>
   rw [z_jX]
   simp only [encG,bitA,List.getElem?_cons_succ,List.getElem?_cons_zero]
   simp
   omega
  | 3,_=>
   rw [z_jX]
   simp only [encG,bitA,List.getElem?_cons_succ,List.getElem?_cons_zero]
   simp
   omega
  | k+4,h=>
   have ih:=z_xM r k (by simp only [encG,List.length_cons] at h;omega)
   simp only [encG,List.getElem?_cons_succ]
   rw [ih,z_jX,z_jX,show 6*(k+4)=24+6*k by omega]
   simp only [Nat.add_assoc,z_vO]
 | [x,y],k,h=>by
  have hx:=x.toNat_lt
  have hy:=y.toNat_lt
  match k,h with
  | 0,_=>rw [z_jX];simp only [encG,bitA,List.getElem?_cons_zero];simp;omega
  | 1,_=>rw [z_jX];simp only [encG,bitA,List.getElem?_cons_succ,List.getElem?_cons_zero];simp;omega
  | 2,_=>rw [z_jX];simp only [encG,bitA,List.getElem?_cons_succ,List.getElem?_cons_zero];simp;omega
  | k+3,h=>simp only [encG,List.length_cons,List.length_nil] at h;omega
 | [x],k,h=>by
  have hx:=x.toNat_lt
  match k,h with
  | 0,_=>rw [z_jX];simp only [encG,bitA,List.getElem?_cons_zero];simp;omega
  | 1,_=>rw [z_jX];simp only [encG,bitA,List.getElem?_cons_succ,List.getElem?_cons_zero];simp;omega
  | k+2,h=>simp only [encG,List.length_cons,List.length_nil] at h;omega
 | [],k,h=>by cases h
def b64L (url:Bool) (p:List UInt8):List UInt8:=(encG p).map (letA url)
def encS (url:Bool) (p:List UInt8):List UInt8:=match url with
 | true=>b64L true p
 | false=>b64L false p++eqs ((4 - (b64L false p).length%4)%4)
theorem z_uQ (p:List UInt8) (i:Nat):bitA p i<2:=Nat.mod_lt _ (by decide)
theorem z_xl {p:List UInt8} {i:Nat} (h: ¬i<8*p.length):bitA p i=0:=by
 unfold bitA
 rw [List.getD_eq_getElem?_getD,List.getElem?_eq_none (by omega)]
 simp
theorem z_u3 (p:List UInt8) (a:Nat): ∀m,m<=6->sixM p a m<2^m
 | 0,_=>Nat.one_pos
 | m+1,h=>by
  have:=z_u3 p a m (by omega)
  have:=z_uQ p (a+m)
  rw [z_kd,Nat.pow_succ]
  omega
theorem z_x4 {x:Nat} (hx:x<256):bits .and .u8 (x:Int) 1=((x%2:Nat):Int):=by
 show IntKind.u8.wrap (((BitVec.ofInt 8 (x:Int))&&&(BitVec.ofInt 8 1)).toNat:Int)=_
 have h1:(BitVec.ofInt 8 (x:Int)).toNat=x:=by
  rw [BitVec.toNat_ofInt]
  omega
 have h2:(BitVec.ofInt 8 1).toNat=2^1 - 1:=by decide
 rw [BitVec.toNat_and,h1,h2,Nat.and_two_pow_sub_one_eq_mod,IntKind.wrap_u8]
 omega
theorem z_rF (w:World) (A:Option Addr) (p:List UInt8) (c:Nat) (url:Bool) (hl:p.length<=1000000) (hm:Mem w [bsF A p]):Con Tryz.prog z_eS #[.slice A p.length c,.bool url] w [] fun v Fs=>v= .string (mkS (encS url p))/\Fs=[]:=by
 have g:=z_hK w (Un [])
 have hml:=maxLen_eq
 have hs0:Sat (z_ce w (Un [])) Va.z 0 [] [bsF A p] w:=hm.sat0 rfl (fun f hf ho k hk=>by obtain rfl:=List.mem_singleton.1 hf;cases ho)
 have hp:Bs w A p:=hm.fact (bsF A p) (by simp)
 refine z_ac (cx:=z_ce w (Un [])) g z_jn rfl rfl (β:=Va.z) [.c (.v (.slice A p.length c)),.c (.v (.bool url))] 0 [] _ rfl rfl hs0 ?_
 refine ⟨(((8*p.length):Nat):Int),by rw [wrap_i64 (by omega) (by omega)];rfl,?_⟩
 have hEl:(b64L url p).length=(8*p.length+5)/6:=by unfold b64L;rw [List.length_map,z_mh]
 obtain ⟨E,hE⟩: ∃E,b64L url p=E:=⟨_,rfl⟩
 rw [hE] at hEl
 refine z_ag (ι:=Nat×Option Addr×Nat) 0 (fun j=>[(0,.c (.v (.slice A p.length c))),(1,.c (.v (.bool url))),(5,.c (.v (.slice j.2.1 (E.take j.1).length j.2.2))),(6,.c (.v (.int .i64 ((8*p.length:Nat):Int)))),(7,.c (.v (.int .i64 ((6*j.1:Nat):Int))))]) (fun _=>[]) (fun j=>[browF z_ab j.2.1 (E.take j.1) j.2.2,bsF A p])
  (fun j=>j.1<=E.length) (fun j=>E.length - j.1) (0,none,0) (Nat.zero_le _) (Ent.mk' ⟨rfl,rfl,rfl,rfl,rfl,trivial⟩ rfl (fun β w' hs=>hs.nilRow z_ab 1)) g ?_
 rintro ⟨k,B,d⟩ hk
 simp only at hk
 have hkl:(E.take k).length=k:=by rw [List.length_take];omega
 refine BIf.dec (fun hlt=>?_) (fun hge=>?_)
 ·have hlt0:((6*k:Nat):Int)<((8*p.length:Nat):Int):=hlt
  have hkE:k<E.length:=by omega
  have hEk:E[k]?=some (letA url (sixM p (6*k) 6)):=by
   rw [<-hE]
   unfold b64L
   rw [List.getElem?_map,z_xM p k (by rw [z_mh];omega)]
   rfl
  refine z_ag (ι:=Nat) 0 (fun j=>[(0,.c (.v (.slice A p.length c))),(1,.c (.v (.bool url))),(5,.c (.v (.slice B (E.take k).length d))),(6,.c (.v (.int .i64 ((8*p.length:Nat):Int)))),(7,.c (.v (.int .i64 ((6*k:Nat):Int)))),(8,.c (.v (.int .i64 (sixM p (6*k) j:Int)))),(9,.c (.v (.int .i64 ((6*k+j:Nat):Int))))]) (fun _=>[]) (fun j=>[browF z_ab B (E.take k) d,bsF A p])
   (fun j=>j<=6) (fun j=>6 - j) (0:Nat) (Nat.zero_le _) (Ent.mk' ⟨rfl,rfl,rfl,rfl,rfl,rfl,rfl,trivial⟩ rfl (fun β w' hs=>hs)) g ?_
  intro m hm6
  have h6:=z_u3 p (6*k) m hm6
  have h64:2^m<=64:=Nat.pow_le_pow_right (by decide) hm6
  refine ⟨((6*k+6:Nat):Int),by rw [wrap_i64 (by omega) (by omega)];rfl,?_⟩
  refine BIf.dec (fun hlt2=>?_) (fun hge2=>?_)
  ·have hlt20:((6*k+m:Nat):Int)<((6*k+6:Nat):Int):=hlt2
   refine ⟨((sixM p (6*k) m*2:Nat):Int),by rw [wrap_i64 (by omega) (by omega)];rfl,?_⟩
   refine BIf.dec (fun hin=>?_) (fun hout=>?_)
   ·have hin0:((6*k+m:Nat):Int)<((8*p.length:Nat):Int):=hin
    obtain ⟨y,hy, -⟩:=at_lt (show (6*k+m)/8<p.length by omega)
    obtain ⟨ad,hA⟩:=Bs.addr hp (by omega)
    have hbit:bitA p (6*k+m)=y.toNat/2^(7 - (6*k+m)%8)%2:=by
     unfold bitA
     rw [List.getD_eq_getElem?_getD,hy]
     rfl
    refine ⟨by first | decide | omega,?_⟩
    refine ⟨(((6*k+m)/8:Nat):Int),by rw [show (((6*k+m:Nat):Int)).tdiv 8=(((6*k+m)/8:Nat):Int) from (Int.ofNat_tdiv _ _).symm,wrap_i64 (by omega) (by omega)],?_⟩
    refine ⟨ad,(6*k+m)/8,hA,rfl,by omega,?_⟩
    refine ⟨byte y,fun β w' hs=>Rd.cell1 (show Rd 1 (some ad) p.length (p.map byte) w' from hA▸hs.get 1 rfl) (by rw [List.getElem?_map,hy];rfl),?_⟩
    refine ⟨by first | decide | omega,?_⟩
    refine ⟨(((6*k+m)%8:Nat):Int),Int.ofNat_tmod _ _,?_⟩
    refine ⟨((7 - (6*k+m)%8:Nat):Int),by rw [wrap_i64 (by omega) (by omega)];omega,?_⟩
    refine ⟨by first | decide | omega,?_⟩
    obtain ⟨sh,hsh⟩: ∃sh,7 - (6*k+m)%8=sh:=⟨_,rfl⟩
    rw [hsh] at hbit ⊢
    refine ⟨((y.toNat/2^sh:Nat):Int),by
     rw [Int.toNat_natCast,show min sh IntKind.u8.bits=sh from Nat.min_eq_left (by show sh<=8;omega),show ((2:Int)^sh)=((2^sh:Nat):Int) by simp,Int.fdiv_eq_ediv_of_nonneg _ (Int.natCast_nonneg _)]
     rfl,?_⟩
    have hyl:=y.toNat_lt
    have hdv:y.toNat/2^sh<256:=Nat.lt_of_le_of_lt (Nat.div_le_self _ _) hyl
    refine ⟨((y.toNat/2^sh%2:Nat):Int),z_x4 hdv,?_⟩
    rw [<-hbit]
    have hb2:=z_uQ p (6*k+m)
    refine BIf.dec (fun h1=>?_) (fun h1=>?_)
    ·have h10:((bitA p (6*k+m):Nat):Int)=1:=h1
     have hb1:bitA p (6*k+m)=1:=by omega
     refine ⟨((sixM p (6*k) m*2+1:Nat):Int),by rw [wrap_i64 (by omega) (by omega)];rfl,?_⟩
     refine ⟨((6*k+(m+1):Nat):Int),by rw [wrap_i64 (by omega) (by omega)];rfl,?_⟩
     exact ⟨m+1,by omega,by omega,Ent.mk' ⟨rfl,rfl,rfl,rfl,rfl,by rw [z_kd,hb1];rfl,rfl,trivial⟩ rfl (fun β w' hs=>hs)⟩
    ·have h10: ¬((bitA p (6*k+m):Nat):Int)=1:=h1
     have hb0:bitA p (6*k+m)=0:=by omega
     refine ⟨((6*k+(m+1):Nat):Int),by rw [wrap_i64 (by omega) (by omega)];rfl,?_⟩
     exact ⟨m+1,by omega,by omega,Ent.mk' ⟨rfl,rfl,rfl,rfl,rfl,by rw [z_kd,hb0];rfl,rfl,trivial⟩ rfl (fun β w' hs=>hs)⟩
   ·have hout0: ¬((6*k+m:Nat):Int)<((8*p.length:Nat):Int):=hout
    have hb0:=z_xl (p:=p) (i:=6*k+m) (by omega)
    refine ⟨((6*k+(m+1):Nat):Int),by rw [wrap_i64 (by omega) (by omega)];rfl,?_⟩
    exact ⟨m+1,by omega,by omega,Ent.mk' ⟨rfl,rfl,rfl,rfl,rfl,by rw [z_kd,hb0];rfl,rfl,trivial⟩ rfl (fun β w' hs=>hs)⟩
  ·have hge20: ¬((6*k+m:Nat):Int)<((6*k+6:Nat):Int):=hge2
   obtain rfl:m=6:=by omega
   refine z_ah (fun β w' hs=>z_tp w' (sixM p (6*k) 6) url (by omega)) ?_
   intro b1
   have hE1:E.take (k+1)=E.take k++[letA url (sixM p (6*k) 6)]:=by rw [List.take_add_one,hEk];rfl
   have hE1l:(E.take k).length+1=(E.take (k+1)).length:=by rw [hE1,List.length_append];rfl
   refine ⟨1,(E.take k).length,(E.take (k+1)).length,(E.take k).map byte,[letA url (sixM p (6*k) 6)].map byte,(E.take (k+1)).map byte,rfl,fun β w' hs=>z_aj (hs.get 0 rfl),z_as _,hE1l,by rw [hE1,List.map_append],by rw [hml];omega,by show (E.take (k+1)).length*1<=_;omega,?_⟩
   intro B2 d2 r1 r2 r3
   refine ⟨((6*(k+1):Nat):Int),by rw [wrap_i64 (by omega) (by omega)];omega,?_⟩
   exact ⟨(k+1,B2,d2),by show k+1<=_;omega,by show E.length - (k+1)<E.length - k;omega,Ent.mk' ⟨rfl,rfl,rfl,rfl,rfl,trivial⟩ rfl (fun β w' hs=>hs.perm [1,2])⟩
 ·have hge0: ¬((6*k:Nat):Int)<((8*p.length:Nat):Int):=hge
  obtain rfl:k=E.length:=by omega
  rw [List.take_length]
  have hxs: ∃q,q=(if url=true then 0 else (4 - E.length%4)%4):=⟨_,rfl⟩
  obtain ⟨q,hq⟩:=hxs
  have hS:encS url p=E++eqs q:=by
   rw [hq,<-hE]
   cases url with
   | true=>show b64L true p=_;simp [eqs]
   | false=>rfl
  rw [hS]
  refine z_ag (ι:=Nat×Option Addr×Nat) 0 (fun j=>[(1,.c (.v (.bool url))),(5,.c (.v (.slice j.2.1 (E++eqs j.1).length j.2.2)))]) (fun _=>[]) (fun j=>[browF z_ab j.2.1 (E++eqs j.1) j.2.2])
   (fun j=>j.1<=q) (fun j=>4 - j.1) (0,B,d) (Nat.zero_le _) (Ent.mk' ⟨rfl,by simp only [eqs,List.replicate_zero,List.append_nil];rfl,trivial⟩ rfl (fun β w' hs=>by simp only [eqs,List.replicate_zero,List.append_nil];exact hs.perm [0])) g ?_
  rintro ⟨m,B,d⟩ hmq
  simp only at hmq
  have hEm:(E++eqs m).length=E.length+m:=by rw [List.length_append,z_xY]
  refine BIf.mk (fun hu=>?_) (fun hu=>?_)
  ·have hu0:url=false:=by simpa using hu
   rw [hu0,if_neg (by decide)] at hq
   refine ⟨by first | decide | omega,?_⟩
   refine ⟨(((E++eqs m).length%4:Nat):Int),Int.ofNat_tmod _ _,?_⟩
   refine BIf.not (BIf.dec (fun h4=>?_) (fun h4=>?_))
   ·have h40:(((E++eqs m).length%4:Nat):Int)=0:=h4
    obtain rfl:m=q:=by omega
    refine ⟨_,fun β w' hs=>z_aj (hs.get 0 rfl),?_⟩
    intro β w' hs
    exact hs.fin [] ⟨rfl,rfl⟩
   ·have h40: ¬(((E++eqs m).length%4:Nat):Int)=0:=h4
    intro b1
    have hE2:E++eqs (m+1)=(E++eqs m)++[61]:=by rw [<-z_xc,List.append_assoc]
    obtain ⟨E2,hE2d⟩: ∃E2,E++eqs (m+1)=E2:=⟨_,rfl⟩
    have hE2l:(E++eqs m).length+1=E2.length:=by rw [<-hE2d,hE2];simp;omega
    refine ⟨1,(E++eqs m).length,E2.length,(E++eqs m).map byte,[(61:UInt8)].map byte,E2.map byte,rfl,fun β w' hs=>z_aj (hs.get 0 rfl),z_as _,hE2l,by rw [<-hE2d,hE2];simp,by rw [hml];omega,by show E2.length*1<=_;omega,?_⟩
    intro B2 d2 r1 r2 r3
    refine ⟨(m+1,B2,d2),by show m+1<=q;omega,by show 4 - (m+1)<4 - m;omega,?_⟩
    simp only [hE2d]
    exact Ent.mk' ⟨rfl,rfl,trivial⟩ rfl (fun β w' hs=>hs.perm [1])
  ·have hu0:url=true:=by simpa using hu
   rw [hu0,if_pos rfl] at hq
   obtain rfl:m=q:=by omega
   refine ⟨_,fun β w' hs=>z_aj (hs.get 0 rfl),?_⟩
   intro β w' hs
   exact hs.fin [] ⟨rfl,rfl⟩
def mlF:Fact where
 own:=false
 D:=fun k=>k=0
 p:=fun w=> ∃m:Int,w.cell? ⟨0,0,none⟩=some (.int .i64 m)
 st:=fun w w' hs ⟨m,h⟩=>⟨m,by rw [<-h];exact World.cell?_of_block (hs _ rfl)⟩
end Go.Proofs.YtfomhhkoamapmaaGreatDoor.Sx
namespace Go.Proofs.YtfomhhkoamapmaaGreatDoor.Sx
open Go
theorem z_ha {cx:Cx} {c:Code} {Q:Exit->KT} {n:Nat} {env:Env} {H:List Bk} {F F':List Fact} (hS: ∀β w,Sat cx β n H F w->Sat cx β n H F' w) (h:Tri cx c Q n env H F'):Tri cx c Q n env H F:=
 ⟨fun β a w hi=>h.run β a w ⟨hi.ag,hi.size,hi.df,hi.lte,hS β w hi.sat⟩⟩
theorem z_fI {cx:Cx} {c:Code} {Q:Exit->KT} {n:Nat} {env:Env} {H:List Bk} {F:List Fact} (id:Nat) {ty:TypeId} {cs:List SL} (vs:Nat->List Value) (h1:tyAt H id=some ty) (h2:cellsAt H id=some cs) (h3: ∀b,allV (cs.map (SL.re id b))=some (vs b))
  (h: ∀b,Tri cx c Q n (envRe id b env) (bksRe id b H) (bkF b ty (vs b)::F)):Tri cx c Q n env H F:=
 z_gW (ι:=Nat) (fun _=>True) n (fun b=>envRe id b env) (fun b=>bksRe id b H) (fun b=>bkF b ty (vs b)::F) (fun b _=>h b) (EntX.reify id vs h1 h2 h3 (fun b=>EntX.of b trivial ⟨fun β a w hi=>⟨β,rfl,rfl,hi⟩⟩))
end Go.Proofs.YtfomhhkoamapmaaGreatDoor.Sx
namespace Go.Proofs.YtfomhhkoamapmaaGreatDoor.Sx
open Go
attribute [local irreducible] Calls
end Go.Proofs.YtfomhhkoamapmaaGreatDoor.Sx
namespace Go.Proofs.YtfomhhkoamapmaaGreatDoor.Sx
open Go
section
variable {cx:Cx} {β:Va} {n:Nat} {env:Env} {H:List Bk} {F:List Fact} {w:World}
end
end Go.Proofs.YtfomhhkoamapmaaGreatDoor.Sx
namespace Go.Proofs.YtfomhhkoamapmaaGreatDoor.Sx
open Go
attribute [local irreducible] Calls
theorem z_xh (url:Bool) {n:Nat} (h:n<64):runC (letA url n)=true:=by
 have key: ∀u:Bool,∀n:_root_.Fin 64,runC (letA u n.1)=true:=by decide+kernel
 exact key url ⟨n,h⟩
theorem z_wY (url:Bool) {n:Nat} (h:n<64):valA url (letA url n)=some n:=by
 have key: ∀u:Bool,∀n:_root_.Fin 64,valA u (letA u n.1)=some n.1:=by decide+kernel
 exact key url ⟨n,h⟩
theorem z_q9 (url:Bool): ∀(vs:List Nat),(∀v∈vs,v<64)->valsA url (vs.map (letA url))=some vs
 | [],_=>rfl
 | v::r,h=>by
  have ih:=z_q9 url r (fun x hx=>h x (List.mem_cons_of_mem _ hx))
  rw [List.map_cons,valsA,z_wY url (h v List.mem_cons_self),ih]
theorem z_xq (url:Bool) (p:List UInt8):decS url (b64L url p)=some p:=by
 unfold decS b64L
 rw [z_q9 url _ (z_r7 p)]
 exact z_uX p
theorem z_wh (url:Bool) (p:List UInt8): ∀x∈b64L url p,runC x=true:=by
 intro x hx
 obtain ⟨v,hv,rfl⟩:=List.mem_map.1 hx
 exact z_xh url (z_r7 p v hv)
theorem z_fE (url:Bool) (p:List UInt8):(b64L url p).length=(8*p.length+5)/6:=by unfold b64L;rw [List.length_map,z_mh]
def triL:List UInt8->List (List UInt8)
 | a::b::c::r=>[a,b,c]::triL r
 | []=>[]
 | l=>[l]
theorem z_vy (url:Bool): ∀(p:List UInt8),b64L url p=(triL p).flatMap (b64L url)
 | []=>rfl
 | [a]=>by simp [triL]
 | [a,b]=>by simp [triL]
 | a::b::c::r=>by
  have ih:=z_vy url r
  show b64L url (a::b::c::r)=b64L url [a,b,c]++(triL r).flatMap (b64L url)
  rw [<-ih]
  unfold b64L
  rw [<-List.map_append]
  congr 1
theorem z_v4: ∀(p:List UInt8),∀q∈triL p,1<=q.length/\q.length<=3
 | [],q,h=>by cases h
 | [a],q,h=>by
  obtain rfl:q=[a]:=by simpa [triL] using h
  exact ⟨by simp,by simp⟩
 | [a,b],q,h=>by
  obtain rfl:q=[a,b]:=by simpa [triL] using h
  exact ⟨by simp,by simp⟩
 | a::b::c::r,q,h=>by
  rcases List.mem_cons.1 h with rfl | h
  ·exact ⟨by simp,by simp⟩
  ·exact z_v4 r q h
theorem z_tq {p:List UInt8} (h:p≠[]):triL p=p.take 3::triL (p.drop 3):=by
 match p,h with
 | [a],_=>rfl
 | [a,b],_=>rfl
 | a::b::c::r,_=>rfl
def trV (p:List UInt8):Nat->Nat
 | 0=>0
 | j+1=>trV p j*256+(p.getD j 0).toNat
theorem z_xE (p:List UInt8): ∀j,trV p j<256^j
 | 0=>Nat.one_pos
 | j+1=>by
  have:=z_xE p j
  have h:=(p.getD j 0).toNat_lt
  rw [trV,Nat.pow_succ]
  omega
theorem z_xW {p:List UInt8} {j:Nat} (h:p.length<=j):trV p (j+1)=trV p j*256:=by
 rw [trV,List.getD_eq_getElem?_getD,List.getElem?_eq_none h]
 exact Nat.add_zero _
theorem z_ye: ∀ {p:List UInt8} {i:Nat},p.length<=3->1<=p.length->i<p.length+1->(encG p)[i]?=some (trV p 3/64^(3 - i)%64)
 | [x],i,_,_,h=>by
  have hx:=x.toNat_lt
  match i,h with
  | 0,_=>simp [encG,trV];omega
  | 1,_=>simp [encG,trV];omega
 | [x,y],i,_,_,h=>by
  have hx:=x.toNat_lt
  have hy:=y.toNat_lt
  match i,h with
  | 0,_=>simp [encG,trV];omega
  | 1,_=>simp [encG,trV];omega
  | 2,_=>simp [encG,trV];omega
 | [x,y,z],i,_,_,h=>by
  have hx:=x.toNat_lt
  have hy:=y.toNat_lt
  have hz:=z.toNat_lt
  match i,h with
  | 0,_=>simp [encG,trV];omega
  | 1,_=>simp [encG,trV];omega
  | 2,_=>simp [encG,trV];omega
  | 3,_=>simp [encG,trV];omega
theorem z_w8 {p:List UInt8} (h3:p.length<=3) (h1:1<=p.length):(encG p).length=p.length+1:=by
 rw [z_mh]
 omega
theorem shr64 {X i:Nat} (hi:i<=3):(X:Int).fdiv (2^min (6*(i:Int)).toNat IntKind.i64.bits)=((X/64^i:Nat):Int):=by
 rw [show (6*(i:Int)).toNat=6*i by omega,show min (6*i) IntKind.i64.bits=6*i from Nat.min_eq_left (by show _<=64;omega),show ((2:Int)^(6*i))=((64^i:Nat):Int) by rw [show (64:Nat)=2^6 from rfl,<-Nat.pow_mul];simp]
 rw [Int.fdiv_eq_ediv_of_nonneg _ (Int.natCast_nonneg _)]
 rfl
theorem cutZ {A:Option Addr} {c s:Nat}:cutA A c 0 s=A:=by
 cases A<;>simp [cutA,Addr.add]
structure Lies (A A':Option Addr) (p p':List UInt8):Prop where
 rd: ∀w,Bs w A p->Bs w A' p'
 d: ∀k,(bsF A' p').D k->(bsF A p).D k
theorem Lies.trans {A A' A'':Option Addr} {p p' p'':List UInt8} (h:Lies A A' p p') (h2:Lies A' A'' p' p''):Lies A A'' p p'':=⟨fun w q=>h2.rd w (h.rd w q),fun k q=>h.d k (h2.d k q)⟩
theorem Lies.refl (A:Option Addr) (p:List UInt8):Lies A A p p:=⟨fun _ q=>q,fun _ q=>q⟩
theorem Lies.nil (A A':Option Addr) (p:List UInt8):Lies A A' p []:=⟨fun w _=>Bs.nil w A',fun k h=>absurd h.1 (by decide)⟩
theorem Lies.drop {A:Option Addr} {p:List UInt8} {c n:Nat} (hc:p.length<=c) (hn:n<=p.length):Lies A (cutA A c n 1) p (p.drop n):=
 ⟨fun w q=>Bs.cutB q hc hn (Nat.le_refl _) (List.take_of_length_le (by rw [List.length_drop];exact Nat.le_refl _)),fun k hk=>cut_D (by rw [List.length_drop];omega) hk⟩
theorem Lies.take (A:Option Addr) (p:List UInt8) (n:Nat):Lies A A p (p.take n):=by
 refine ⟨fun w q=>?_,fun k hk=>?_⟩
 ·have h:=Bs.cutB (i:=0) (j:=min n p.length) q (Nat.le_refl _) (Nat.zero_le _) (Nat.min_le_right _ _) (by rw [List.drop_zero,Nat.sub_zero,<-List.take_eq_take_min])
  rwa [cutZ] at h
 ·have h:(bsF (cutA A 1 0 1) (p.take n)).D k:=by rw [cutZ];exact hk
  exact cut_D (by rw [List.length_take];omega) h
def AlphE (al:ByteArray) (url:Bool):Prop:= ∀n,n<64->al.data.toList[n]?=some (letA url n)
theorem z_wG (w:World) (al:ByteArray) (url:Bool) (hal:AlphE al url) (A:Option Addr) (p:List UInt8) (c:Nat) (h1:1<=p.length) (h3:p.length<=3) (hm:Mem w [bsF A p]):
  Con Tryz.prog z_nx #[.string al,.slice A p.length c] w [] fun v Fs=> ∃A c,v= .slice A (b64L url p).length c/\(b64L url p).length<=c/\Fs=[browF z_ab A (b64L url p) c]:=by
 have g:=z_o6 w (Un [])
 have hml:=maxLen_eq
 have hr:Bs w A p:=hm.fact (bsF A p) (by simp)
 obtain ⟨ad,hA⟩:=Bs.addr hr (by omega)
 refine z_dN (cx:=z_lS w (Un [])) g z_rm [.c (.v (.string al)),.c (.v (.slice A p.length c))] [bsF A p] hm ?_
 refine z_ag (ι:=Nat) 0 (fun j=>[(0,.c (.v (.string al))),(1,.c (.v (.slice A p.length c))),(5,.c (.v (.int .i64 (trV p j:Int)))),(9,.c (.v (.int .i64 (j:Int))))]) (fun _=>[]) (fun _=>[bsF A p]) (fun j=>j<=3) (fun j=>3 - j) (0:Nat) (Nat.zero_le _) (Ent.mk' ⟨rfl,rfl,rfl,rfl,trivial⟩ rfl (fun β w' hs=>hs)) g ?_
 intro j hj
 have hv:trV p j<16777216:=Nat.lt_of_lt_of_le (z_xE p j) (show 256^j<=256^3 from Nat.pow_le_pow_right (by decide) hj)
 refine BIf.dec (fun hlt=>?_) (fun hge=>?_)
 ·have hlt0:(j:Int)<3:=hlt
  refine ⟨by decide,_,z_yg (by omega),?_⟩
  refine BIf.dec (fun hl=>?_) (fun hl=>?_)
  ·have hl0:(j:Int)<(p.length:Int):=hl
   obtain ⟨x,hx,_⟩:=at_lt (l:=p) (k:=j) (by omega)
   have hxl:=x.toNat_lt
   have hnx:trV p (j+1)=trV p j*256+x.toNat:=by rw [trV,List.getD_eq_getElem?_getD,hx];rfl
   refine ⟨ad,j,hA,rfl,by omega,byte x,fun β w' hs=>Rd.cell1 (show Rd 1 (some ad) p.length (p.map byte) w' from hA▸hs.get 0 rfl) (by rw [List.getElem?_map,hx];rfl),?_⟩
   refine ⟨(x.toNat:Int),by rw [wrap_i64 (by omega) (by omega)],?_⟩
   refine ⟨_,z_zN (by omega) (by omega),?_⟩
   refine ⟨((j+1:Nat):Int),by rw [wrap_i64 (by omega) (by omega)];rfl,?_⟩
   exact ⟨j+1,by show j+1<=3;omega,by show 3 - (j+1)<3 - j;omega,Ent.mk' ⟨rfl,rfl,by rw [hnx];rfl,rfl,trivial⟩ rfl (fun β w' hs=>hs)⟩
  ·have hl0: ¬(j:Int)<(p.length:Int):=hl
   refine ⟨((j+1:Nat):Int),by rw [wrap_i64 (by omega) (by omega)];rfl,?_⟩
   exact ⟨j+1,by show j+1<=3;omega,by show 3 - (j+1)<3 - j;omega,Ent.mk' ⟨rfl,rfl,by rw [z_xW (by omega)];rfl,rfl,trivial⟩ rfl (fun β w' hs=>hs)⟩
 ·have hge0: ¬(j:Int)<3:=hge
  obtain rfl:j=3:=by omega
  have hl3:=z_w8 h3 h1
  have hbl:(b64L url p).length=p.length+1:=by unfold b64L;rw [List.length_map,hl3]
  refine ⟨((p.length+1:Nat):Int),by rw [wrap_i64 (by omega) (by omega)];rfl,?_⟩
  refine z_ag (ι:=Nat×Option Addr×Nat) 0 (fun i=>[(0,.c (.v (.string al))),(5,.c (.v (.int .i64 (trV p 3:Int)))),(7,.c (.v (.slice i.2.1 ((b64L url p).take i.1).length i.2.2))),(28,.c (.v (.int .i64 ((p.length+1:Nat):Int)))),(29,.c (.v (.int .i64 (i.1:Int))))]) (fun _=>[]) (fun i=>[browF z_ab i.2.1 ((b64L url p).take i.1) i.2.2])
   (fun i=>i.1<=p.length+1) (fun i=>p.length+1 - i.1) (0,none,0) (Nat.zero_le _) (Ent.mk' ⟨rfl,rfl,rfl,rfl,rfl,trivial⟩ rfl (fun β w' hs=>(hs.nilRow z_ab 1).perm [0])) g ?_
  rintro ⟨i,O,oc⟩ hi
  simp only at hi
  refine BIf.dec (fun hlt=>?_) (fun hge2=>?_)
  ·have hlt0:(i:Int)<((p.length+1:Nat):Int):=hlt
   have hi3:i<=3:=by omega
   refine ⟨((3 - i:Nat):Int),by rw [wrap_i64 (by omega) (by omega)];omega,?_⟩
   refine ⟨6*((3 - i:Nat):Int),wrap_i64 (by omega) (by omega),?_⟩
   refine ⟨by omega,_,shr64 (by omega),?_⟩
   have hq:trV p 3/64^(3 - i)<33554432:=Nat.lt_of_le_of_lt (Nat.div_le_self _ _) (by omega)
   refine ⟨_,z_sm (k:=6) hq (by decide),?_⟩
   obtain ⟨n,hn⟩: ∃n,trV p 3/64^(3 - i)%2^6=n:=⟨_,rfl⟩
   rw [hn]
   have hn6:n<64:=by rw [<-hn];exact Nat.mod_lt _ (by decide)
   have hx:(b64L url p)[i]?=some (letA url n):=by
    unfold b64L
    rw [List.getElem?_map,z_ye h3 h1 (by omega),<-hn]
    rfl
   obtain ⟨x,hxx⟩: ∃x,letA url n=x:=⟨_,rfl⟩
   rw [hxx] at hx
   have hsn:(b64L url p).take (i+1)=(b64L url p).take i++[x]:=by rw [List.take_add_one,hx];rfl
   refine ⟨n,x,rfl,by rw [<-hxx];exact hal n hn6,?_⟩
   intro b1
   refine ⟨1,((b64L url p).take i).length,((b64L url p).take (i+1)).length,((b64L url p).take i).map byte,[byte x],((b64L url p).take (i+1)).map byte,rfl,fun β w' hs=>z_aj (hs.get 0 rfl),z_as [x],by rw [hsn,List.length_append];rfl,by rw [hsn,List.map_append];rfl,by rw [List.length_take];omega,by rw [List.length_take];show _*1<=_;omega,?_⟩
   intro A' c' _ _ _
   refine ⟨((i+1:Nat):Int),by rw [wrap_i64 (by omega) (by omega)];rfl,?_⟩
   exact ⟨(i+1,A',c'),by show i+1<=p.length+1;omega,by show p.length+1 - (i+1)<p.length+1 - i;omega,Ent.mk' ⟨rfl,rfl,rfl,rfl,rfl,trivial⟩ rfl (fun β w' hs=>hs.perm [1])⟩
  ·have hge0: ¬(i:Int)<((p.length+1:Nat):Int):=hge2
   have hfl:(b64L url p).take i=b64L url p:=List.take_of_length_le (by omega)
   rw [hfl]
   intro β w' hs
   exact hs.fin [0] ⟨O,oc,rfl,z_ic (hs.get 0 rfl),rfl⟩
end Go.Proofs.YtfomhhkoamapmaaGreatDoor.Sx
